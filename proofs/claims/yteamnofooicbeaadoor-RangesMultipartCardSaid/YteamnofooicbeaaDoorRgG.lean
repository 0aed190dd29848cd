/- Chapter 09: slices of strings. -/
import Derived.Test.YteamnofooicbeaaDoorRgF
import Derived.Laws.AppendOwn
import Derived.Maps.AppendAt
namespace Go.Proofs.YteamnofooicbeaaDoor
open Go.RowKit Go.Maps
def scs (x : ByteArray) : List Value := [.string x]
theorem info_parts {P : Program} {t : TypeId} {z : Option Value} {n b : Nat} (h : (P.info? t).map (fun i => (i.zero, i.size, i.bytes)) = some (z, n, b)) : ∃ i0, P.info? t = some i0 ∧ i0.zero = z ∧ i0.size = n ∧ i0.bytes = b := by
  cases hi : P.info? t with
  | none => rw [hi] at h; simp at h
  | some i0 =>
    rw [hi] at h
    simp only [Option.map_some, Option.some.injEq, Prod.mk.injEq] at h
    exact ⟨i0, rfl, h.1, h.2.1, h.2.2⟩
theorem cells_new (W : World) (t : TypeId) (cs : List Value) : ∀ j u, cs[j]? = some u → (W.alloc (.cells cs.toArray t)).cell? ((⟨W.heap.size, 0, none⟩ : Addr).add j) = some u := by
  intro j u hj
  have h := row_laid W t cs
  have h2 := h.cell hj
  cases j with
  | zero => exact h2
  | succ j => simpa [Addr.add] using h2
def StrsAt (w : World) (v : Value) (gs : List ByteArray) : Prop :=
  (v = .slice none 0 0 ∧ gs = []) ∨ ∃ g cap, v = .slice (some ⟨g, 0, none⟩) gs.length cap ∧ ∀ i e, gs[i]? = some e → ∀ j u, (scs e)[j]? = some u → w.cell? ⟨g, i * 1 + j, none⟩ = some u
theorem StrsAt.ext {w w' : World} {v : Value} {gs : List ByteArray} (h : StrsAt w v gs) (hx : Ext w w') : StrsAt w' v gs := by
  rcases h with h | ⟨g, cap, hv, hc⟩
  · exact .inl h
  · exact .inr ⟨g, cap, hv, fun i e he j u hj => hx.cell (hc i e he j u hj)⟩
def StrOwn (w : World) (B : Nat) (v : Value) (gs : List ByteArray) : Prop := w.ownsRow B 9 1 v gs.length (gs.flatMap scs)
theorem StrOwn.nil (w : World) (B : Nat) : StrOwn w B (.slice none 0 0) [] := World.ownsRow_nil _ _ _ _
theorem str_flat : ∀ (xs : List ByteArray) (i : Nat) (e : ByteArray), xs[i]? = some e → ∀ j, j < 1 → (xs.flatMap scs)[i * 1 + j]? = (scs e)[j]?
  | [], i, e, h, _, _ => by simp at h
  | x :: r, 0, e, h, j, hj => by
    simp at h
    subst h
    simp only [List.flatMap_cons, Nat.zero_mul, Nat.zero_add]
    rw [List.getElem?_append_left (by simpa [scs] using hj)]
  | x :: r, i + 1, e, h, j, hj => by
    simp only [List.getElem?_cons_succ] at h
    simp only [List.flatMap_cons]
    have h4 : (scs x).length = 1 := rfl
    rw [List.getElem?_append_right (by omega), h4, show (i + 1) * 1 + j - 1 = i * 1 + j by omega]
    exact str_flat r i e h j hj
theorem StrOwn.at {w : World} {b : Nat} {v : Value} {gs : List ByteArray} (h : StrOwn w b v gs) : StrsAt w v gs := by
  rcases h.2 with ⟨hv, h0⟩ | ⟨g, cap, cur, hv, hb, hg, h1, h2, h3, h4⟩
  · exact .inl ⟨hv, List.length_eq_zero_iff.1 h0⟩
  · refine .inr ⟨g, cap, hv, fun i e he j u hj => ?_⟩
    have hj1 : j < 1 := by have := (List.getElem?_eq_some_iff.1 hj).1; simpa [scs] using this
    have hi := (List.getElem?_eq_some_iff.1 he).1
    rw [cell_of_row w g _ cur _ _ hg]
    have e1 := str_flat gs i e he j hj1
    rw [← h4, List.getElem?_take_of_lt (by omega), hj] at e1
    simpa using e1
theorem str_base {w : World} {B : Nat} {v : Value} {gs : List ByteArray} (h : StrOwn w B v gs) : ∀ k, v.ownBlock = some k → B ≤ k := by
  intro k hk
  rcases h.2 with ⟨rfl, _⟩ | ⟨g, cap, cur, rfl, hb, _⟩
  · simp [Value.ownBlock] at hk
  · simp [Value.ownBlock] at hk; omega
theorem StrOwn.kept {w w' : World} {B : Nat} {v : Value} {gs : List ByteArray} (h : StrOwn w B v gs) {o : Option Nat} (hg : w.grownBy w' o) (hB : ∀ k, o = some k → k < B) : StrOwn w' B v gs := World.ownsRow.kept h hg (by
  rcases h.2 with ⟨rfl, _⟩ | ⟨g, cap, cur, rfl, hb, _⟩
  · exact .inl rfl
  · refine .inr (fun e => ?_)
    simp only [Value.ownBlock] at e
    have := hB g e.symm
    omega)
theorem str_info : (Tryd.prog.info? 9).map (fun i => (i.zero, i.size, i.bytes)) = some (some (.string ByteArray.empty), 1, 16) := by kernel_rfl
theorem wpList_append_str (w : World) {ops : Array Oper} {rest : List Oper} {o : Oper} {a : Act} {Q : Exit → Act → World → Prop} (hg : o.guard = none) (s x : Operand)
    (ho : o.op = .call { callee := .builtin .append, args := #[s, x], argTypes := #[96, 96] }) (B : Nat) {v : Value} {es : List ByteArray} (e : ByteArray) (hown : StrOwn w B v es) (hs : a.eval s = v)
    {G : Nat} (hx : a.eval x = .slice (some ⟨G, 0, none⟩) 1 1) (hG : G = w.heap.size) (hlen : es.length ≤ 200000) (hB : B ≤ w.heap.size)
    (h : ∀ v' w', StrOwn w' B v' (es ++ [e]) → Below B w w' → (∀ j, j < w.heap.size → some j ≠ v.ownBlock → w'.heap[j]? = w.heap[j]?) → wpList Tryd.prog ops Q rest (a.put o.dst v') w') :
    wpList Tryd.prog ops Q (o :: rest) a (w.alloc (.cells #[.string e] 9)) := by
  subst hG
  obtain ⟨i0, hi0, hz0, hz1, hz2⟩ := info_parts str_info
  refine wpList_append_own _ hg s x 96 ho B 9 i0 _ 1 16 Tryd.underlying96 hi0 hz0 hz1 hz2 rfl (by decide) v es.length _ hs (hown.kept (World.grownBy_alloc w _ none) (fun k e => by cases e)) ⟨w.heap.size, 0, none⟩ 1 1 (scs e) hx rfl (cells_new _ _ _) (by simp [scs, Value.oneCell']) (by unfold maxLen; omega) (by omega) (by simp; omega) ?_
  intro v' w1 hown' hgrow _
  refine h v' w1 ?_ ?_ (fun j hj hn => (hgrow.block j (by simp; omega) hn).trans ((MapKept.heap_alloc w _).2 j hj))
  · unfold StrOwn
    rw [List.length_append, List.flatMap_append]
    simpa using hown'
  · exact Below.grown (Below.alloc (Below.refl _ _) hB _) hgrow (by simp; omega) (str_base hown)
theorem wp_append_str (w : World) {o : Oper} {a : Act} {K : Act → World → Prop} {Q : Exit → Act → World → Prop} (s x : Operand)
    (ho : o.op = .call { callee := .builtin .append, args := #[s, x], argTypes := #[96, 96] }) (B : Nat) {v : Value} {es : List ByteArray} (e : ByteArray) (hown : StrOwn w B v es) (hs : a.eval s = v)
    {G : Nat} (hx : a.eval x = .slice (some ⟨G, 0, none⟩) 1 1) (hG : G = w.heap.size) (hlen : es.length ≤ 200000) (hB : B ≤ w.heap.size)
    (h : ∀ v' w', StrOwn w' B v' (es ++ [e]) → Below B w w' → (∀ j, j < w.heap.size → some j ≠ v.ownBlock → w'.heap[j]? = w.heap[j]?) → K (a.put o.dst v') w') :
    o.wp Tryd.prog a (w.alloc (.cells #[.string e] 9)) K Q := by
  subst hG
  obtain ⟨i0, hi0, hz0, hz1, hz2⟩ := info_parts str_info
  obtain ⟨v', w1, hrun, hown', hgrow, _⟩ := run_append_own (P := Tryd.prog) (w.alloc (.cells (scs e).toArray 9)) B 96 o.type 9 i0 _ 1 16 Tryd.underlying96 hi0 hz0 hz1 hz2 rfl (by decide) v es.length _ (hown.kept (World.grownBy_alloc w _ none) (fun k e => by cases e)) ⟨w.heap.size, 0, none⟩ 1 1 (scs e) rfl (cells_new _ _ _) (by simp [scs, Value.oneCell']) (by unfold maxLen; omega) (by omega) (by simp; omega)
  simp only [scs] at hrun
  unfold Oper.wp
  simp [execOp, ho, resolve, invoke, builtin, hs, hx, hrun, Result.andThen]
  refine h v' w1 ?_ ?_ (fun j hj hn => (hgrow.block j (by simp; omega) hn).trans ((MapKept.heap_alloc w _).2 j hj))
  · unfold StrOwn
    rw [List.length_append, List.flatMap_append]
    simpa using hown'
  · exact Below.grown (Below.alloc (Below.refl _ _) hB _) hgrow (by simp; omega) (str_base hown)
end Go.Proofs.YteamnofooicbeaaDoor
