/- Chapter 09: slices of ranges; the elements of a Range field. -/
import Derived.Test.YteamnofooicbeaaDoorRgJ
namespace Go.Proofs.YteamnofooicbeaaDoor
open Go.RowKit Go.Maps
def rcs2 (p : Int × Int) : List Value := [.int .i64 p.1, .int .i64 p.2]
def RAt (w : World) (v : Value) (gs : List (Int × Int)) : Prop :=
  (v = .slice none 0 0 ∧ gs = []) ∨ ∃ g cap, v = .slice (some ⟨g, 0, none⟩) gs.length cap ∧ ∀ i e, gs[i]? = some e → ∀ j u, (rcs2 e)[j]? = some u → w.cell? ⟨g, i * 2 + j, none⟩ = some u
theorem RAt.ext {w w' : World} {v : Value} {gs : List (Int × Int)} (h : RAt w v gs) (hx : Ext w w') : RAt w' v gs := by
  rcases h with h | ⟨g, cap, hv, hc⟩
  · exact .inl h
  · exact .inr ⟨g, cap, hv, fun i e he j u hj => hx.cell (hc i e he j u hj)⟩
def ROwn (T : TypeId) (w : World) (B : Nat) (v : Value) (gs : List (Int × Int)) : Prop := w.ownsRow B T 2 v gs.length (gs.flatMap rcs2)
theorem ROwn.nil (T : TypeId) (w : World) (B : Nat) : ROwn T w B (.slice none 0 0) [] := World.ownsRow_nil _ _ _ _
theorem r_flat : ∀ (xs : List (Int × Int)) (i : Nat) (e : Int × Int), xs[i]? = some e → ∀ j, j < 2 → (xs.flatMap rcs2)[i * 2 + j]? = (rcs2 e)[j]?
  | [], i, e, h, _, _ => by simp at h
  | x :: r, 0, e, h, j, hj => by
    simp at h
    subst h
    simp only [List.flatMap_cons, Nat.zero_mul, Nat.zero_add]
    rw [List.getElem?_append_left (by simpa [rcs2] using hj)]
  | x :: r, i + 1, e, h, j, hj => by
    simp only [List.getElem?_cons_succ] at h
    simp only [List.flatMap_cons]
    have h4 : (rcs2 x).length = 2 := rfl
    rw [List.getElem?_append_right (by omega), h4, show (i + 1) * 2 + j - 2 = i * 2 + j by omega]
    exact r_flat r i e h j hj
theorem ROwn.at {T : TypeId} {w : World} {b : Nat} {v : Value} {gs : List (Int × Int)} (h : ROwn T w b v gs) : RAt w v gs := by
  rcases h.2 with ⟨hv, h0⟩ | ⟨g, cap, cur, hv, hb, hg, h1, h2, h3, h4⟩
  · exact .inl ⟨hv, List.length_eq_zero_iff.1 h0⟩
  · refine .inr ⟨g, cap, hv, fun i e he j u hj => ?_⟩
    have hj2 : j < 2 := by have := (List.getElem?_eq_some_iff.1 hj).1; simpa [rcs2] using this
    have hi := (List.getElem?_eq_some_iff.1 he).1
    rw [cell_of_row w g _ cur _ _ hg]
    have e1 := r_flat gs i e he j hj2
    rw [← h4, List.getElem?_take_of_lt (by omega), hj] at e1
    simpa using e1
theorem r_base {T : TypeId} {w : World} {B : Nat} {v : Value} {gs : List (Int × Int)} (h : ROwn T w B v gs) : ∀ k, v.ownBlock = some k → B ≤ k := by
  intro k hk
  rcases h.2 with ⟨rfl, _⟩ | ⟨g, cap, cur, rfl, hb, _⟩
  · simp [Value.ownBlock] at hk
  · simp [Value.ownBlock] at hk; omega
theorem ROwn.kept {T : TypeId} {w w' : World} {B : Nat} {v : Value} {gs : List (Int × Int)} (h : ROwn T w B v gs) {o : Option Nat} (hg : w.grownBy w' o) (hB : ∀ k, o = some k → k < B) : ROwn T w' B v gs := World.ownsRow.kept h hg (by
  rcases h.2 with ⟨rfl, _⟩ | ⟨g, cap, cur, rfl, hb, _⟩
  · exact .inl rfl
  · refine .inr (fun e => ?_)
    simp only [Value.ownBlock] at e
    have := hB g e.symm
    omega)
theorem wpList_append_r (T tS : TypeId) (hu : Tryd.prog.underlying tS = some (.slice T)) (hinf : (Tryd.prog.info? T).map (fun i => (i.zero, i.size, i.bytes)) = some (some (.agg #[.int .i64 0, .int .i64 0]), 2, 16))
    (w : World) {ops : Array Oper} {rest : List Oper} {o : Oper} {a : Act} {Q : Exit → Act → World → Prop} (hg : o.guard = none) (s x : Operand)
    (ho : o.op = .call { callee := .builtin .append, args := #[s, x], argTypes := #[tS, tS] }) (B : Nat) {v : Value} {es : List (Int × Int)} (e1 e2 : Int) (hown : ROwn T w B v es) (hs : a.eval s = v)
    {G : Nat} (hx : a.eval x = .slice (some ⟨G, 0, none⟩) 1 1) (hG : G = w.heap.size) (hlen : es.length ≤ 200000) (hB : B ≤ w.heap.size)
    (h : ∀ v' w', ROwn T w' B v' (es ++ [(e1, e2)]) → Below B w w' → (∀ j, j < w.heap.size → some j ≠ v.ownBlock → w'.heap[j]? = w.heap[j]?) → wpList Tryd.prog ops Q rest (a.put o.dst v') w') :
    wpList Tryd.prog ops Q (o :: rest) a (w.alloc (.cells #[.int .i64 e1, .int .i64 e2] T)) := by
  subst hG
  obtain ⟨i0, hi0, hz0, hz1, hz2⟩ := info_parts hinf
  refine wpList_append_own _ hg s x tS ho B T i0 _ 2 16 hu hi0 hz0 hz1 hz2 rfl (by decide) v es.length _ hs (hown.kept (World.grownBy_alloc w _ none) (fun k e => by cases e)) ⟨w.heap.size, 0, none⟩ 1 1 (rcs2 (e1, e2)) hx rfl (cells_new _ _ _) (by simp [rcs2, Value.oneCell']) (by unfold maxLen; omega) (by omega) (by simp; omega) ?_
  intro v' w1 hown' hgrow _
  refine h v' w1 ?_ ?_ (fun j hj hn => (hgrow.block j (by simp; omega) hn).trans ((MapKept.heap_alloc w _).2 j hj))
  · unfold ROwn
    rw [List.length_append, List.flatMap_append]
    simpa using hown'
  · exact Below.grown (Below.alloc (Below.refl _ _) hB _) hgrow (by simp; omega) (r_base hown)
theorem rng_info : (Tryd.prog.info? 37).map (fun i => (i.zero, i.size, i.bytes)) = some (some (.agg #[.int .i64 0, .int .i64 0]), 2, 16) := by kernel_rfl
theorem rrng_info : (Tryd.prog.info? 43).map (fun i => (i.zero, i.size, i.bytes)) = some (some (.agg #[.int .i64 0, .int .i64 0]), 2, 16) := by kernel_rfl
theorem RAt.parts {w : World} {v : Value} {xs : List (Int × Int)} (h : RAt w v xs) : ∃ A cap, v = .slice A xs.length cap ∧ (0 < xs.length → ∃ g, A = some ⟨g, 0, none⟩ ∧ ∀ i p, xs[i]? = some p → w.cell? ⟨g, i * 2, none⟩ = some (.int .i64 p.1) ∧ w.cell? ⟨g, i * 2 + 1, none⟩ = some (.int .i64 p.2)) := by
  rcases h with ⟨rfl, rfl⟩ | ⟨g, cap, hv, hc⟩
  · exact ⟨none, 0, rfl, fun h => absurd h (by simp)⟩
  · exact ⟨_, cap, hv, fun _ => ⟨g, rfl, fun i p hp => ⟨hc i p hp 0 _ rfl, hc i p hp 1 _ rfl⟩⟩⟩
/-! ### the field's elements -/
def elsF (len : Int) : List ByteArray → Option (List (Int × Int))
  | [] => some []
  | x :: r => match elF x len with
    | none => none
    | some p => (elsF len r).map fun q => if p.1 < p.2 then p :: q else q
theorem els_none {len : Int} {l : List ByteArray} {out : List (Int × Int)} {k : Nat} {x : ByteArray} (ht : elsF len l = (elsF len (l.drop k)).map (out ++ ·)) (hx : l[k]? = some x) (he : elF x len = none) : elsF len l = none := by
  obtain ⟨hk, e⟩ := List.getElem?_eq_some_iff.1 hx
  rw [ht, List.drop_eq_getElem_cons hk, e, elsF, he]
  rfl
theorem els_some {len : Int} {l : List ByteArray} {out : List (Int × Int)} {k : Nat} {x : ByteArray} {p : Int × Int} (ht : elsF len l = (elsF len (l.drop k)).map (out ++ ·)) (hx : l[k]? = some x) (he : elF x len = some p) :
    elsF len l = (elsF len (l.drop (k + 1))).map ((out ++ if p.1 < p.2 then [p] else []) ++ ·) := by
  obtain ⟨hk, e⟩ := List.getElem?_eq_some_iff.1 hx
  rw [ht, List.drop_eq_getElem_cons hk, e, elsF, he]
  cases elsF len (l.drop (k + 1)) with
  | none => rfl
  | some q =>
    simp only [Option.map_some]
    split <;> simp
def pfxL : List UInt8 := [98, 121, 116, 101, 115, 61]
def pfx (s : ByteArray) : Bool := Lib.hasPrefix s.data.toList pfxL
def parseF (s : ByteArray) (len : Int) : List (Int × Int) × Int :=
  if pfx s = true then match listF (s.extract 6 s.size) with
    | none => ([], 2)
    | some l => if l.length = 0 then ([], 2) else match elsF (max 0 len) l with
      | none => ([], 2)
      | some out => if 8 < l.length then ([], 5) else if out.length = 0 then ([], 1) else (out, 0)
  else ([], 2)
end Go.Proofs.YteamnofooicbeaaDoor
