/- Chapter 52: Gaps. -/
import Derived.Test.YtjdbhemojopnlaaMgO
namespace Go.Proofs.Ytjdbhemojopnlaa
open Go.RowKit Go.Maps
structure Gp where
  nd : ByteArray
  bt : Int
  fr : Int
  to_ : Int
deriving DecidableEq, Inhabited
def Gp.cs (g : Gp) : List Value := [.string g.nd, .int .i64 g.bt, .int .i64 g.fr, .int .i64 g.to_]
def lastS (p : Option Ent) (x : Ent) : Int := match p with | some y => if y.nd = x.nd ∧ y.bt = x.bt then y.sq else 0 | none => 0
def gapOf (p : Option Ent) (x : Ent) : List Gp := if lastS p x + 1 < x.sq then [⟨x.nd, x.bt, lastS p x + 1, x.sq - 1⟩] else []
def gps : Option Ent → List Ent → List Gp
  | _, [] => []
  | p, x :: r => gapOf p x ++ gps (some x) r
def lastE : Option Ent → List Ent → Option Ent
  | p, [] => p
  | _, x :: r => lastE (some x) r
theorem gps_snoc : ∀ (p : Option Ent) (r : List Ent) (x : Ent), gps p (r ++ [x]) = gps p r ++ gapOf (lastE p r) x
  | _, [], _ => by simp [gps, lastE]
  | _, y :: r, x => by simp [gps, lastE, gps_snoc (some y) r x]
theorem lastE_snoc : ∀ (p : Option Ent) (r : List Ent) (x : Ent), lastE p (r ++ [x]) = some x
  | _, [], _ => rfl
  | _, y :: r, x => by simp [lastE, lastE_snoc (some y) r x]
theorem gapOf_len (p : Option Ent) (x : Ent) : (gapOf p x).length ≤ 1 := by unfold gapOf; split <;> simp
theorem gps_len : ∀ (p : Option Ent) (r : List Ent), (gps p r).length ≤ r.length
  | _, [] => by simp [gps]
  | p, x :: r => by
    have h1 := gapOf_len p x
    have h2 := gps_len (some x) r
    simp [gps]
    omega
theorem lastE_take {r : List Ent} {k : Nat} {y : Ent} (h : r[k]? = some y) : lastE none (r.take (k + 1)) = some y := by
  rw [List.take_add_one, h]
  exact lastE_snoc _ _ _
def GpsAt (w : World) (v : Value) (gs : List Gp) : Prop :=
  (v = .slice none 0 0 ∧ gs = []) ∨ ∃ g cap, v = .slice (some ⟨g, 0, none⟩) gs.length cap ∧ ∀ i e, gs[i]? = some e → ∀ j u, e.cs[j]? = some u → w.cell? ⟨g, i * 4 + j, none⟩ = some u
theorem GpsAt.ext {w w' : World} {v : Value} {gs : List Gp} (h : GpsAt w v gs) (hx : Ext w w') : GpsAt w' v gs := by
  rcases h with h | ⟨g, cap, hv, hc⟩
  · exact .inl h
  · exact .inr ⟨g, cap, hv, fun i e he j u hj => hx.cell (hc i e he j u hj)⟩
def GpOwn (w : World) (B : Nat) (v : Value) (gs : List Gp) : Prop := w.ownsRow B 32 4 v gs.length (gs.flatMap Gp.cs)
theorem GpOwn.nil (w : World) (B : Nat) : GpOwn w B (.slice none 0 0) [] := World.ownsRow_nil _ _ _ _
theorem gp_flat : ∀ (xs : List Gp) (i : Nat) (e : Gp), xs[i]? = some e → ∀ j, j < 4 → (xs.flatMap Gp.cs)[i * 4 + j]? = e.cs[j]?
  | [], i, e, h, _, _ => by simp at h
  | x :: r, 0, e, h, j, hj => by
    simp at h
    subst h
    simp only [List.flatMap_cons, Nat.zero_mul, Nat.zero_add]
    rw [List.getElem?_append_left (by simpa [Gp.cs] using hj)]
  | x :: r, i + 1, e, h, j, hj => by
    simp only [List.getElem?_cons_succ] at h
    simp only [List.flatMap_cons]
    have h4 : x.cs.length = 4 := rfl
    rw [List.getElem?_append_right (by omega), h4, show (i + 1) * 4 + j - 4 = i * 4 + j by omega]
    exact gp_flat r i e h j hj
theorem GpOwn.at {w : World} {b : Nat} {v : Value} {gs : List Gp} (h : GpOwn w b v gs) : GpsAt w v gs := by
  rcases h.2 with ⟨hv, h0⟩ | ⟨g, cap, cur, hv, hb, hg, h1, h2, h3, h4⟩
  · exact .inl ⟨hv, List.length_eq_zero_iff.1 h0⟩
  · refine .inr ⟨g, cap, hv, fun i e he j u hj => ?_⟩
    have hj4 : j < 4 := by have := (List.getElem?_eq_some_iff.1 hj).1; simpa [Gp.cs] using this
    have hi := (List.getElem?_eq_some_iff.1 he).1
    rw [cell_of_row w g _ cur _ _ hg]
    have e1 := gp_flat gs i e he j hj4
    rw [← h4, List.getElem?_take_of_lt (by omega), hj] at e1
    simpa using e1
theorem gp_base {w : World} {B : Nat} {v : Value} {gs : List Gp} (h : GpOwn w B v gs) : ∀ k, v.ownBlock = some k → B ≤ k := by
  intro k hk
  rcases h.2 with ⟨rfl, _⟩ | ⟨g, cap, cur, rfl, hb, _⟩
  · simp [Value.ownBlock] at hk
  · simp [Value.ownBlock] at hk; omega
theorem GpOwn.kept {w w' : World} {B : Nat} {v : Value} {gs : List Gp} (h : GpOwn w B v gs) {o : Option Nat} (hg : w.grownBy w' o) (hB : ∀ k, o = some k → k < B) : GpOwn w' B v gs := World.ownsRow.kept h hg (by
  rcases h.2 with ⟨rfl, _⟩ | ⟨g, cap, cur, rfl, hb, _⟩
  · exact .inl rfl
  · refine .inr (fun e => ?_)
    simp only [Value.ownBlock] at e
    have := hB g e.symm
    omega)
theorem gap_info : (Try.prog.info? 32).map (fun i => (i.zero, i.size, i.bytes)) = some (some (.agg #[.string ByteArray.empty, .int .i64 0, .int .i64 0, .int .i64 0]), 4, 40) := by kernel_rfl
theorem wpList_append_gap (w : World) {ops : Array Oper} {rest : List Oper} {o : Oper} {a : Act} {Q : Exit → Act → World → Prop} (hg : o.guard = none) (s x : Operand)
    (ho : o.op = .call { callee := .builtin .append, args := #[s, x], argTypes := #[28, 28] }) (B : Nat) {v : Value} {es : List Gp} (e : Gp) (hown : GpOwn w B v es) (hs : a.eval s = v)
    {G : Nat} (hx : a.eval x = .slice (some ⟨G, 0, none⟩) 1 1) (hG : G = w.heap.size) (hlen : es.length ≤ 100000) (hB : B ≤ w.heap.size)
    (h : ∀ v' w', GpOwn w' B v' (es ++ [e]) → Below B w w' → (∀ j, j < w.heap.size → some j ≠ v.ownBlock → w'.heap[j]? = w.heap[j]?) → wpList Try.prog ops Q rest (a.put o.dst v') w') :
    wpList Try.prog ops Q (o :: rest) a (w.alloc (.cells #[.string e.nd, .int .i64 e.bt, .int .i64 e.fr, .int .i64 e.to_] 32)) := by
  subst hG
  obtain ⟨i0, hi0, hz0, hz1, hz2⟩ := info_parts gap_info
  refine wpList_append_own _ hg s x 28 ho B 32 i0 _ 4 40 Try.underlying28 hi0 hz0 hz1 hz2 rfl (by decide) v es.length _ hs (hown.kept (World.grownBy_alloc w _ none) (fun k e => by cases e)) ⟨w.heap.size, 0, none⟩ 1 1 e.cs hx rfl (cells_new _ _ _) (by simp [Gp.cs, Value.oneCell']) (by unfold maxLen; omega) (by omega) (by simp; omega) ?_
  intro v' w1 hown' hgrow _
  refine h v' w1 ?_ ?_ (fun j hj hn => (hgrow.block j (by simp; omega) hn).trans ((MapKept.heap_alloc w _).2 j hj))
  · unfold GpOwn
    rw [List.length_append, List.flatMap_append]
    simpa using hown'
  · exact Below.grown (Below.alloc (Below.refl _ _) hB _) hgrow (by simp; omega) (gp_base hown)
theorem wp_append_gap (w : World) {o : Oper} {a : Act} {K : Act → World → Prop} {Q : Exit → Act → World → Prop} (s x : Operand)
    (ho : o.op = .call { callee := .builtin .append, args := #[s, x], argTypes := #[28, 28] }) (B : Nat) {v : Value} {es : List Gp} (e : Gp) (hown : GpOwn w B v es) (hs : a.eval s = v)
    {G : Nat} (hx : a.eval x = .slice (some ⟨G, 0, none⟩) 1 1) (hG : G = w.heap.size) (hlen : es.length ≤ 100000) (hB : B ≤ w.heap.size)
    (h : ∀ v' w', GpOwn w' B v' (es ++ [e]) → Below B w w' → (∀ j, j < w.heap.size → some j ≠ v.ownBlock → w'.heap[j]? = w.heap[j]?) → K (a.put o.dst v') w') :
    o.wp Try.prog a (w.alloc (.cells #[.string e.nd, .int .i64 e.bt, .int .i64 e.fr, .int .i64 e.to_] 32)) K Q := by
  subst hG
  obtain ⟨i0, hi0, hz0, hz1, hz2⟩ := info_parts gap_info
  obtain ⟨v', w1, hrun, hown', hgrow, _⟩ := run_append_own (P := Try.prog) (w.alloc (.cells e.cs.toArray 32)) B 28 o.type 32 i0 _ 4 40 Try.underlying28 hi0 hz0 hz1 hz2 rfl (by decide) v es.length _ (hown.kept (World.grownBy_alloc w _ none) (fun k e => by cases e)) ⟨w.heap.size, 0, none⟩ 1 1 e.cs rfl (cells_new _ _ _) (by simp [Gp.cs, Value.oneCell']) (by unfold maxLen; omega) (by omega) (by simp; omega)
  simp only [Gp.cs] at hrun
  unfold Oper.wp
  simp [execOp, ho, resolve, invoke, builtin, hs, hx, hrun, Result.andThen]
  refine h v' w1 ?_ ?_ (fun j hj hn => (hgrow.block j (by simp; omega) hn).trans ((MapKept.heap_alloc w _).2 j hj))
  · unfold GpOwn
    rw [List.length_append, List.flatMap_append]
    simpa using hown'
  · exact Below.grown (Below.alloc (Below.refl _ _) hB _) hgrow (by simp; omega) (gp_base hown)
theorem gp_ne {w : World} {B g : Nat} {v : Value} {gs : List Gp} {e : TypeId} {xs : List Value} (h : GpOwn w B v gs) (hr : RowB w g e xs) (he : e ≠ 32) : some g ≠ v.ownBlock := by
  rcases h.2 with ⟨rfl, _⟩ | ⟨g', cap, cur, rfl, _, hg, _⟩
  · simp [Value.ownBlock]
  · intro e'
    simp only [Value.ownBlock, Option.some.injEq] at e'
    obtain ⟨C, fr, rest, hc, _⟩ := hr
    rw [e', hg] at hc
    cases hc
    exact he rfl
end Go.Proofs.Ytjdbhemojopnlaa
