/- Chapter 20: the reference's Merge as a function of lists; slices of the reference's ranges. -/
import Derived.Test.YtfjpaacanoocmaaPd8
import Derived.Test.YtfjpaacanoocmaaPe5
namespace Go.Proofs.Ytfjpaacanoocmaa
open Go.RowKit Go.Deep Go.Sort

def Rng9 (w : World) (B : Nat) (v : Value) (xs : List (Nat × Nat)) : Prop := w.ownsRow B 67 2 v xs.length (rcs xs)
theorem rng9_info : (Try.prog.info? 67).map (fun i => (i.zero, i.size, i.bytes)) = some (some (.agg #[.int .i64 0, .int .i64 0]), 2, 16) := by kernel_rfl
theorem Rng9.shape {w : World} {B : Nat} {v : Value} {xs : List (Nat × Nat)} (h : Rng9 w B v xs) : (v = .slice none 0 0 ∧ xs = []) ∨ ∃ g cap, v = .slice (some ⟨g, 0, none⟩) xs.length cap ∧ xs.length ≤ cap ∧ B ≤ g ∧ g < w.heap.size ∧ RngAt w g xs := by
  rcases h.2 with ⟨rfl, e⟩ | ⟨g, cap, cur, rfl, hb, hh, hl, hm, hc, ht⟩
  · exact .inl ⟨rfl, List.eq_nil_of_length_eq_zero e⟩
  · refine .inr ⟨g, cap, rfl, hl, hb, (Array.getElem?_eq_some_iff.1 hh).1, fun i hi => ?_⟩
    have h' : w.ownsRow B 67 2 (.slice (some ⟨g, 0, none⟩) xs.length cap) xs.length (rcs xs) := h
    obtain ⟨g0, g1⟩ := rcs_get xs i hi
    exact ⟨by rw [h'.cellAt _ (by omega), g0], by rw [h'.cellAt _ (by omega), g1]⟩
theorem Rng9.ext {w w' : World} {B : Nat} {v : Value} {xs : List (Nat × Nat)} (h : Rng9 w B v xs) (hx : Ext w w') : Rng9 w' B v xs := own_ext h hx
theorem Rng9.more {w : World} {B B' : Nat} {v : Value} {xs : List (Nat × Nat)} (h : Rng9 w B v xs) (hb : B' ≤ B) : Rng9 w B' v xs := own_more h hb
theorem Rng9.rngIn {w : World} {B : Nat} {v : Value} {xs : List (Nat × Nat)} (h : Rng9 w B v xs) : RngIn w v xs := by
  rcases h.shape with ⟨rfl, rfl⟩ | ⟨g, cap, rfl, h1, h2, h3, h4⟩
  · exact ⟨none, 0, rfl, Nat.le_refl _, fun h => by simp at h⟩
  · exact ⟨_, cap, rfl, h1, fun _ => ⟨g, rfl, h4⟩⟩
theorem RngIn.ext {w w' : World} {v : Value} {xs : List (Nat × Nat)} (h : RngIn w v xs) (hx : Ext w w') : RngIn w' v xs := by
  obtain ⟨A, cap, e, hc, hr⟩ := h
  exact ⟨A, cap, e, hc, fun h0 => by
    obtain ⟨g, e2, hg⟩ := hr h0
    exact ⟨g, e2, hg.ext hx⟩⟩
theorem own_other {w : World} {B : Nat} {e : TypeId} {size n : Nat} {v : Value} {xs : List Value} (h : w.ownsRow B e size v n xs) {b i : Nat} (hp : b < B) (u : Value) : (w.setCell ⟨b, i, none⟩ u).ownsRow B e size v n xs := by
  refine ⟨h.1, ?_⟩
  rcases h.2 with e | ⟨g, cap, cur, rfl, hb, hh, r⟩
  · exact .inl e
  · exact .inr ⟨g, cap, cur, rfl, hb, (blk_setCell_other w ⟨b, i, none⟩ u g (fun e => by have : g = b := e; omega)).trans hh, r⟩
/-- 'append(out, r)' of one range of the reference -/
theorem wpList_append_rng9 (w : World) {ops : Array Oper} {rest : List Oper} {o : Oper} {a : Act} {Q : Exit → Act → World → Prop} (hg : o.guard = none) (s x : Operand)
    (ho : o.op = .call { callee := .builtin .append, args := #[s, x], argTypes := #[93, 93] }) (B : Nat) {v : Value} {xs : List (Nat × Nat)} (f t : Nat) (y z : Int) (hown : Rng9 w B v xs) (hy : y = (f : Int)) (hz : z = (t : Int)) (hs : a.eval s = v)
    {G : Nat} (hx : a.eval x = .slice (some ⟨G, 0, none⟩) 1 1) (hG : G = w.heap.size) (hlen : xs.length ≤ 1000000000) (hB : B ≤ w.heap.size)
    (h : ∀ v' w', Rng9 w' B v' (xs ++ [(f, t)]) → Below B w w' → wpList Try.prog ops Q rest (a.put o.dst v') w') : wpList Try.prog ops Q (o :: rest) a (w.alloc (.cells #[.int .i64 y, .int .i64 z] 67)) := by
  subst hy hz hG
  obtain ⟨i0, hi0, hz0, hz1, hz2⟩ := info_parts rng9_info
  refine wpList_append_own _ hg s x 93 ho B 67 i0 _ 2 16 Try.underlying93 hi0 hz0 hz1 hz2 rfl (by decide) v xs.length _ hs (World.ownsRow.alloc hown _) ⟨w.heap.size, 0, none⟩ 1 1 [.int .i64 (f : Int), .int .i64 (t : Int)] hx rfl ?_ ?_ ?_ ?_ ?_ ?_
  · intro j u hj
    match j, hj with
    | 0, hj => simp at hj; subst hj; simp [Addr.add]
    | 1, hj => simp at hj; subst hj; simp [Addr.add]
  · intro u hu; simp at hu; rcases hu with rfl | rfl <;> rfl
  · simp only [maxLen]; omega
  · omega
  · simp; omega
  · intro v' w1 hown' hgrow _
    refine h v' w1 ?_ ?_
    · unfold Rng9
      rw [List.length_append, rcs_append]
      exact hown'
    · exact Below.grown (Below.alloc (Below.refl _ _) hB _) hgrow (by simp; omega) (own_base hown)

/-- a step of the inner loop; one range more; all ranges -/
def st9 (p : List (Nat × Nat) × (Nat × Nat)) (x : Nat × Nat) : List (Nat × Nat) × (Nat × Nat) := if x.2 < p.2.1 ∨ p.2.2 < x.1 then (p.1 ++ [x], p.2) else (p.1, (min p.2.1 x.1, max p.2.2 x.2))
def in9 (out : List (Nat × Nat)) (r : Nat × Nat) : List (Nat × Nat) × (Nat × Nat) := out.foldl st9 ([], r)
def at9 (rest : List (Nat × Nat)) (f : Nat) : Nat := (rest.takeWhile fun x => decide (x.1 < f)).length
def ins9 (p : List (Nat × Nat) × (Nat × Nat)) : List (Nat × Nat) := p.1.take (at9 p.1 p.2.1) ++ [p.2] ++ p.1.drop (at9 p.1 p.2.1)
def ms9 (out : List (Nat × Nat)) (r : Nat × Nat) : List (Nat × Nat) := if r.2 ≤ r.1 then out else ins9 (in9 out r)
def mg9 (xs : List (Nat × Nat)) : List (Nat × Nat) := xs.foldl ms9 []
theorem in9_take (out : List (Nat × Nat)) (r x : Nat × Nat) (j : Nat) (h : out[j]? = some x) : in9 (out.take (j + 1)) r = st9 (in9 (out.take j) r) x := by
  unfold in9
  rw [List.take_add_one, h, List.foldl_append]
  rfl
theorem mg9_take (xs : List (Nat × Nat)) (k : Nat) (r : Nat × Nat) (h : xs[k]? = some r) : mg9 (xs.take (k + 1)) = ms9 (mg9 (xs.take k)) r := by
  unfold mg9
  rw [List.take_add_one, h, List.foldl_append]
  rfl
theorem in9_length (out : List (Nat × Nat)) (r : Nat × Nat) : (in9 out r).1.length ≤ out.length := by
  have : ∀ (ys : List (Nat × Nat)) (p : List (Nat × Nat) × (Nat × Nat)), (ys.foldl st9 p).1.length ≤ p.1.length + ys.length := by
    intro ys
    induction ys with
    | nil => intro p; simp
    | cons y ys ih =>
      intro p
      have h1 := ih (st9 p y)
      have h2 : (st9 p y).1.length ≤ p.1.length + 1 := by unfold st9; split <;> simp
      simp only [List.foldl_cons, List.length_cons]; omega
  have := this out ([], r)
  simpa [in9] using this
theorem ins9_length (p : List (Nat × Nat) × (Nat × Nat)) : (ins9 p).length = p.1.length + 1 := by
  have h : at9 p.1 p.2.1 ≤ p.1.length := by unfold at9; exact (List.takeWhile_sublist _).length_le
  unfold ins9
  simp
  omega
theorem mg9_length (xs : List (Nat × Nat)) : (mg9 xs).length ≤ xs.length := by
  have h1 : ∀ out r, (ms9 out r).length ≤ out.length + 1 := by
    intro out r
    unfold ms9
    split
    · omega
    · rw [ins9_length]; have := in9_length out r; omega
  have : ∀ (ys out : List (Nat × Nat)), (ys.foldl ms9 out).length ≤ out.length + ys.length := by
    intro ys
    induction ys with
    | nil => intro out; simp
    | cons y ys ih => intro out; have := ih (ms9 out y); have := h1 out y; simp only [List.foldl_cons, List.length_cons]; omega
  have := this xs []
  simpa [mg9] using this
theorem at9_step {rest : List (Nat × Nat)} {f j : Nat} (hj : ∀ i, i < j → ∀ x, rest[i]? = some x → x.1 < f) : (∀ x, rest[j]? = some x → f ≤ x.1) → j ≤ rest.length → at9 rest f = j := by
  induction rest generalizing j with
  | nil => intro _ h; simp at h; subst h; rfl
  | cons y ys ih =>
    intro h1 h2
    cases j with
    | zero =>
      have := h1 y rfl
      unfold at9
      rw [List.takeWhile_cons_of_neg (by simp; omega)]
      rfl
    | succ j =>
      have h0 := hj 0 (by omega) y rfl
      have := ih (j := j) (fun i hi x hx => hj (i + 1) (by omega) x (by simpa using hx)) (fun x hx => h1 x (by simpa using hx)) (by simpa using h2)
      unfold at9 at this ⊢
      rw [List.takeWhile_cons_of_pos (by simpa using h0), List.length_cons, this]
theorem st9_nil (r : Nat × Nat) : in9 [] r = ([], r) := rfl
theorem rcs_take (xs : List (Nat × Nat)) (k : Nat) : rcs (xs.take k) = (rcs xs).take (k * 2) := by
  induction xs generalizing k with
  | nil => simp [rcs]
  | cons x xs ih =>
    cases k with
    | zero => simp [rcs]
    | succ k =>
      have := ih k
      have e : rcs (x :: xs) = .int .i64 (x.1 : Nat) :: .int .i64 (x.2 : Nat) :: rcs xs := rfl
      have e2 : rcs (x :: xs.take k) = .int .i64 (x.1 : Nat) :: .int .i64 (x.2 : Nat) :: rcs (xs.take k) := rfl
      rw [List.take_succ_cons, e, e2, this, show (k + 1) * 2 = k * 2 + 1 + 1 by omega]
      rfl
theorem reads_rng {w : World} {g B : Nat} {xs : List (Nat × Nat)} (h : RngAt w g xs) (hg : g < B) : Reads w B 2 (some ⟨g, 0, none⟩) xs.length (rcs xs) := by
  refine ⟨rcs_length xs, fun _ => ⟨_, rfl, hg, fun j u hu => ?_⟩⟩
  have hj := (List.getElem?_eq_some_iff.1 hu).1
  rw [rcs_length] at hj
  obtain ⟨g0, g1⟩ := rcs_get xs (j / 2) (by omega)
  obtain ⟨s0, s1⟩ := h (j / 2) (by omega)
  rw [Addr.add_lit, Nat.zero_add]
  rcases Nat.mod_two_eq_zero_or_one j with e | e
  · rw [show j / 2 * 2 = j by omega] at g0 s0
    rw [s0, ← g0, hu]
  · rw [show j / 2 * 2 + 1 = j by omega] at g1 s1
    rw [s1, ← g1, hu]
theorem reads_zero {w : World} {B size : Nat} {A : Option Addr} : Reads w B size A 0 [] := ⟨by simp, fun h => absurd h (by omega)⟩
theorem owns0 (w : World) {B G : Nat} (hB : B ≤ w.heap.size) (hG : G = w.heap.size) (e : TypeId) (size : Nat) : (w.alloc (.cells #[] e)).ownsRow B e size (.slice (some ⟨G, 0, none⟩) 0 0) 0 [] := by
  subst hG
  refine ⟨by simp, .inr ⟨w.heap.size, 0, #[], rfl, hB, heap_alloc_new w _, Nat.le_refl _, by simp only [maxLen]; omega, by simp, by simp⟩⟩
theorem reads_one {w : World} {G : Nat} {e : TypeId} {a b : Value} (h : RowB w G e [a, b]) : Reads w w.heap.size 2 (some ⟨G, 0, none⟩) 1 [a, b] := by
  refine ⟨rfl, fun _ => ⟨_, rfl, h.lt, fun j u hu => ?_⟩⟩
  rw [Addr.add_lit, Nat.zero_add]
  exact h.cell hu
theorem rcs_drop (xs : List (Nat × Nat)) (k : Nat) : rcs (xs.drop k) = (rcs xs).drop (k * 2) := by
  induction xs generalizing k with
  | nil => simp [rcs]
  | cons x xs ih =>
    cases k with
    | zero => simp
    | succ k =>
      have := ih k
      have e : rcs (x :: xs) = .int .i64 (x.1 : Nat) :: .int .i64 (x.2 : Nat) :: rcs xs := rfl
      rw [List.drop_succ_cons, e, this, show (k + 1) * 2 = k * 2 + 1 + 1 by omega]
      rfl
end Go.Proofs.Ytfjpaacanoocmaa
