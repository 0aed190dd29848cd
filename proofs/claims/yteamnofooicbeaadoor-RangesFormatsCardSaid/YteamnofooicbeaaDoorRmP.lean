/- Chapter 09: the reference's Merge as a function of lists, and what it covers (plain lists). -/
import Derived.Test.YteamnofooicbeaaDoorRmB
namespace Go.Proofs.YteamnofooicbeaaDoor
/-- a step of the inner loop; one range more; all ranges -/
def st9 (p : List (Int × Int) × (Int × Int)) (x : Int × Int) : List (Int × Int) × (Int × Int) := if x.2 < p.2.1 ∨ p.2.2 < x.1 then (p.1 ++ [x], p.2) else (p.1, (min p.2.1 x.1, max p.2.2 x.2))
def in9 (out : List (Int × Int)) (r : Int × Int) : List (Int × Int) × (Int × Int) := out.foldl st9 ([], r)
def at9 (rest : List (Int × Int)) (f : Int) : Nat := (rest.takeWhile fun x => decide (x.1 < f)).length
def ins9 (p : List (Int × Int) × (Int × Int)) : List (Int × Int) := p.1.take (at9 p.1 p.2.1) ++ [p.2] ++ p.1.drop (at9 p.1 p.2.1)
def ms9 (out : List (Int × Int)) (r : Int × Int) : List (Int × Int) := if r.2 ≤ r.1 then out else ins9 (in9 out r)
def mg9 (xs : List (Int × Int)) : List (Int × Int) := xs.foldl ms9 []
theorem in9_take (out : List (Int × Int)) (r x : Int × Int) (j : Nat) (h : out[j]? = some x) : in9 (out.take (j + 1)) r = st9 (in9 (out.take j) r) x := by
  unfold in9
  rw [List.take_add_one, h, List.foldl_append]
  rfl
theorem mg9_take (xs : List (Int × Int)) (k : Nat) (r : Int × Int) (h : xs[k]? = some r) : mg9 (xs.take (k + 1)) = ms9 (mg9 (xs.take k)) r := by
  unfold mg9
  rw [List.take_add_one, h, List.foldl_append]
  rfl
theorem in9_length (out : List (Int × Int)) (r : Int × Int) : (in9 out r).1.length ≤ out.length := by
  have : ∀ (ys : List (Int × Int)) (p : List (Int × Int) × (Int × Int)), (ys.foldl st9 p).1.length ≤ p.1.length + ys.length := by
    intro ys
    induction ys with
    | nil => intro p; simp
    | cons y ys ih =>
      intro p
      have h1 := ih (st9 p y)
      have h2 : (st9 p y).1.length ≤ p.1.length + 1 := by unfold st9; split <;> simp
      simp only [List.foldl_cons, List.length_cons]; omega
  have := this out ([], r)
  simpa [in9] using this
theorem ins9_length (p : List (Int × Int) × (Int × Int)) : (ins9 p).length = p.1.length + 1 := by
  have h : at9 p.1 p.2.1 ≤ p.1.length := by unfold at9; exact (List.takeWhile_sublist _).length_le
  unfold ins9
  simp
  omega
theorem mg9_length (xs : List (Int × Int)) : (mg9 xs).length ≤ xs.length := by
  have h1 : ∀ out r, (ms9 out r).length ≤ out.length + 1 := by
    intro out r
    unfold ms9
    split
    · omega
    · rw [ins9_length]; have := in9_length out r; omega
  have : ∀ (ys out : List (Int × Int)), (ys.foldl ms9 out).length ≤ out.length + ys.length := by
    intro ys
    induction ys with
    | nil => intro out; simp
    | cons y ys ih => intro out; have := ih (ms9 out y); have := h1 out y; simp only [List.foldl_cons, List.length_cons]; omega
  have := this xs []
  simpa [mg9] using this
theorem at9_step {rest : List (Int × Int)} {f : Int} {j : Nat} (hj : ∀ i, i < j → ∀ x, rest[i]? = some x → x.1 < f) : (∀ x, rest[j]? = some x → f ≤ x.1) → j ≤ rest.length → at9 rest f = j := by
  induction rest generalizing j with
  | nil => intro _ h; simp at h; subst h; rfl
  | cons y ys ih =>
    intro h1 h2
    cases j with
    | zero =>
      have := h1 y rfl
      unfold at9
      rw [List.takeWhile_cons_of_neg (by simp; omega)]
      rfl
    | succ j =>
      have h0 := hj 0 (by omega) y rfl
      have := ih (j := j) (fun i hi x hx => hj (i + 1) (by omega) x (by simpa using hx)) (fun x hx => h1 x (by simpa using hx)) (by simpa using h2)
      unfold at9 at this ⊢
      rw [List.takeWhile_cons_of_pos (by simpa using h0), List.length_cons, this]
theorem st9_nil (r : Int × Int) : in9 [] r = ([], r) := rfl

/-- a range lies apart from another -/
def Apart (x r : Int × Int) : Prop := x.2 < r.1 ∨ r.2 < x.1
theorem in9_facts : ∀ (ys rest : List (Int × Int)) (r : Int × Int), Sep rest → Prp rest → Sep ys → Prp ys → (∀ x ∈ rest, ∀ y ∈ ys, x.2 < y.1) → (∀ x ∈ rest, Apart x r) → r.1 < r.2 →
    Sep (ys.foldl st9 (rest, r)).1 ∧ Prp (ys.foldl st9 (rest, r)).1 ∧ (∀ x ∈ (ys.foldl st9 (rest, r)).1, Apart x (ys.foldl st9 (rest, r)).2) ∧ (ys.foldl st9 (rest, r)).2.1 < (ys.foldl st9 (rest, r)).2.2 ∧
    ∀ o, (cov (ys.foldl st9 (rest, r)).1 o ∨ ((ys.foldl st9 (rest, r)).2.1 ≤ o ∧ o < (ys.foldl st9 (rest, r)).2.2)) ↔ (cov rest o ∨ cov ys o ∨ (r.1 ≤ o ∧ o < r.2))
  | [], rest, r, hs, hp, _, _, _, ha, hr => ⟨hs, hp, ha, hr, fun o => ⟨fun h => h.elim .inl fun h => .inr (.inr h), fun h => h.elim .inl fun h => h.elim (fun h => absurd h (cov_nil o)) .inr⟩⟩
  | y :: ys, rest, r, hs, hp, sy, py, hb, ha, hr => by
    have sy' := List.pairwise_cons.1 sy
    have hy := py y (by simp)
    rw [List.foldl_cons]
    by_cases hc : y.2 < r.1 ∨ r.2 < y.1
    · have e : st9 (rest, r) y = (rest ++ [y], r) := by unfold st9; rw [if_pos hc]
      rw [e]
      obtain ⟨f1, f2, f3, f4, f5⟩ := in9_facts ys (rest ++ [y]) r
        (List.pairwise_append.2 ⟨hs, List.pairwise_singleton _ _, fun x hx z hz => by rw [List.mem_singleton] at hz; rw [hz]; exact hb x hx y (by simp)⟩)
        (fun x hx => by
          rcases List.mem_append.1 hx with h | h
          · exact hp x h
          · rw [List.mem_singleton] at h; rw [h]; exact hy)
        sy'.2 (fun x hx => py x (by simp [hx]))
        (fun x hx z hz => by
          rcases List.mem_append.1 hx with h | h
          · exact hb x h z (by simp [hz])
          · rw [List.mem_singleton] at h; rw [h]; exact sy'.1 z hz)
        (fun x hx => by
          rcases List.mem_append.1 hx with h | h
          · exact ha x h
          · rw [List.mem_singleton] at h; rw [h]; exact hc)
        hr
      refine ⟨f1, f2, f3, f4, fun o => ?_⟩
      rw [f5, cov_append, cov_one, cov_cons]
      constructor
      · rintro ((h | h) | h | h)
        · exact .inl h
        · exact .inr (.inl (.inl h))
        · exact .inr (.inl (.inr h))
        · exact .inr (.inr h)
      · rintro (h | (h | h) | h)
        · exact .inl (.inl h)
        · exact .inl (.inr h)
        · exact .inr (.inl h)
        · exact .inr (.inr h)
    · have e : st9 (rest, r) y = (rest, (min r.1 y.1, max r.2 y.2)) := by unfold st9; rw [if_neg hc]
      rw [e]
      obtain ⟨f1, f2, f3, f4, f5⟩ := in9_facts ys rest (min r.1 y.1, max r.2 y.2) hs hp sy'.2 (fun x hx => py x (by simp [hx])) (fun x hx z hz => hb x hx z (by simp [hz]))
        (fun x hx => by
          have h1 := hb x hx y (by simp)
          have h2 := hp x hx
          have h3 := ha x hx
          unfold Apart at h3 ⊢
          simp only
          omega)
        (by simp only; omega)
      refine ⟨f1, f2, f3, f4, fun o => ?_⟩
      rw [f5, cov_cons]
      simp only
      constructor
      · rintro (h | h | h)
        · exact .inl h
        · exact .inr (.inl (.inr h))
        · by_cases h1 : r.1 ≤ o ∧ o < r.2
          · exact .inr (.inr h1)
          · exact .inr (.inl (.inl (by omega)))
      · rintro (h | (h | h) | h)
        · exact .inl h
        · exact .inr (.inr (by omega))
        · exact .inr (.inl h)
        · exact .inr (.inr (by omega))
theorem tw_spec (l : List (Int × Int)) (f : Int) : (∀ x ∈ l.take (at9 l f), x.1 < f) ∧ ∀ y, (l.drop (at9 l f))[0]? = some y → f ≤ y.1 := by
  unfold at9
  have e1 : l.take (l.takeWhile fun x => decide (x.1 < f)).length = l.takeWhile fun x => decide (x.1 < f) := by
    have := List.takeWhile_prefix (p := fun x : Int × Int => decide (x.1 < f)) (l := l)
    exact (List.prefix_iff_eq_take.1 this).symm
  constructor
  · intro x hx
    rw [e1] at hx
    have h2 : ∀ (m : List (Int × Int)), x ∈ m.takeWhile (fun x => decide (x.1 < f)) → decide (x.1 < f) = true := by
      intro m
      induction m with
      | nil => intro h; cases h
      | cons z m ih =>
        intro h
        rw [List.takeWhile_cons] at h
        split at h
        · rename_i hz
          rcases List.mem_cons.1 h with rfl | h'
          · exact hz
          · exact ih h'
        · cases h
    simpa using h2 l hx
  · intro y hy
    have h3 : ∀ (m : List (Int × Int)) (y : Int × Int), (m.drop (m.takeWhile fun x => decide (x.1 < f)).length)[0]? = some y → f ≤ y.1 := by
      intro m
      induction m with
      | nil => intro y h; simp at h
      | cons z m ih =>
        intro y h
        rw [List.takeWhile_cons] at h
        split at h
        · exact ih y (by simpa using h)
        · rename_i hz
          simp at h hz
          rw [← h]; exact hz
    exact h3 l y hy
theorem ins9_facts {l : List (Int × Int)} {r : Int × Int} (hs : Sep l) (hp : Prp l) (ha : ∀ x ∈ l, Apart x r) (hr : r.1 < r.2) :
    Sep (ins9 (l, r)) ∧ Prp (ins9 (l, r)) ∧ ∀ o, cov (ins9 (l, r)) o ↔ (cov l o ∨ (r.1 ≤ o ∧ o < r.2)) := by
  obtain ⟨t1, t2⟩ := tw_spec l r.1
  unfold ins9
  simp only
  obtain ⟨k, hk⟩ : ∃ k, at9 l r.1 = k := ⟨_, rfl⟩
  rw [hk] at t1 t2 ⊢
  have hsp : Sep (l.take k ++ l.drop k) := by rw [List.take_append_drop]; exact hs
  obtain ⟨s1, s2, s3⟩ := List.pairwise_append.1 hsp
  have hbelow : ∀ x ∈ l.take k, x.2 < r.1 := fun x hx => by
    have h1 := t1 x hx
    have h2 := ha x (List.mem_of_mem_take hx)
    unfold Apart at h2
    omega
  have habove : ∀ x ∈ l.drop k, r.2 < x.1 := by
    have key : ∀ (m : List (Int × Int)), Sep m → (∀ x ∈ m, x ∈ l) → (∀ y, m[0]? = some y → r.1 ≤ y.1) → ∀ x ∈ m, r.2 < x.1 := by
      intro m hm hl h0
      cases m with
      | nil => intro x hx; cases hx
      | cons y m =>
        have h1 := h0 y rfl
        have h2 := ha y (hl y (by simp))
        have h3 := hp y (hl y (by simp))
        unfold Apart at h2
        have h4 : r.2 < y.1 := by omega
        intro x hx
        rcases List.mem_cons.1 hx with rfl | hx'
        · exact h4
        · have := (List.pairwise_cons.1 hm).1 x hx'
          omega
    exact key _ s2 (fun x hx => List.mem_of_mem_drop hx) t2
  refine ⟨?_, ?_, fun o => ?_⟩
  · refine List.pairwise_append.2 ⟨List.pairwise_append.2 ⟨s1, List.pairwise_singleton _ _, fun x hx y hy => ?_⟩, s2, fun x hx y hy => ?_⟩
    · rw [List.mem_singleton] at hy; rw [hy]; exact hbelow x hx
    · rcases List.mem_append.1 hx with h | h
      · exact s3 x h y hy
      · rw [List.mem_singleton] at h; rw [h]; exact habove y hy
  · intro x hx
    rcases List.mem_append.1 hx with h | h
    · rcases List.mem_append.1 h with h | h
      · exact hp x (List.mem_of_mem_take h)
      · rw [List.mem_singleton] at h; rw [h]; exact hr
    · exact hp x (List.mem_of_mem_drop h)
  · rw [cov_append, cov_append, cov_one]
    have : cov l o ↔ cov (l.take k) o ∨ cov (l.drop k) o := by rw [← cov_append, List.take_append_drop]
    rw [this]
    constructor
    · rintro ((h | h) | h)
      · exact .inl (.inl h)
      · exact .inr h
      · exact .inl (.inr h)
    · rintro ((h | h) | h)
      · exact .inl (.inl h)
      · exact .inr h
      · exact .inl (.inr h)
theorem ms9_facts (out : List (Int × Int)) (r : Int × Int) (hs : Sep out) (hp : Prp out) : Sep (ms9 out r) ∧ Prp (ms9 out r) ∧ ∀ o, cov (ms9 out r) o ↔ cov out o ∨ cov [r] o := by
  unfold ms9
  by_cases h : r.2 ≤ r.1
  · rw [if_pos h]
    refine ⟨hs, hp, fun o => ⟨.inl, fun h2 => h2.elim id fun h2 => ?_⟩⟩
    rw [cov_one] at h2
    omega
  · rw [if_neg h]
    obtain ⟨f1, f2, f3, f4, f5⟩ := in9_facts out [] r List.Pairwise.nil (fun x hx => by cases hx) hs hp (fun x hx => by cases hx) (fun x hx => by cases hx) (by omega)
    obtain ⟨g1, g2, g3⟩ := ins9_facts f1 f2 f3 f4
    refine ⟨g1, g2, fun o => (g3 o).trans ((f5 o).trans ?_)⟩
    rw [cov_one]
    exact ⟨fun h => h.elim (fun h => absurd h (cov_nil o)) id, .inr⟩
theorem mg9_facts (xs : List (Int × Int)) : Sep (mg9 xs) ∧ Prp (mg9 xs) ∧ ∀ o, cov (mg9 xs) o ↔ cov xs o := by
  have key : ∀ (ys out : List (Int × Int)), Sep out → Prp out → Sep (ys.foldl ms9 out) ∧ Prp (ys.foldl ms9 out) ∧ ∀ o, cov (ys.foldl ms9 out) o ↔ cov out o ∨ cov ys o := by
    intro ys
    induction ys with
    | nil => intro out hs hp; exact ⟨hs, hp, fun o => ⟨.inl, fun h => h.elim id fun h => absurd h (cov_nil o)⟩⟩
    | cons y ys ih =>
      intro out hs hp
      obtain ⟨f1, f2, f3⟩ := ms9_facts out y hs hp
      obtain ⟨g1, g2, g3⟩ := ih (ms9 out y) f1 f2
      refine ⟨g1, g2, fun o => ?_⟩
      rw [List.foldl_cons, g3, f3, or_assoc, ← cov_append]
      rfl
  obtain ⟨h1, h2, h3⟩ := key xs [] List.Pairwise.nil (fun x hx => by cases hx)
  exact ⟨h1, h2, fun o => (h3 o).trans ⟨fun h => h.elim (fun h => absurd h (cov_nil o)) id, .inr⟩⟩
/-- both Merges give the same list -/
theorem mg_same {xs ys : List (Int × Int)} (hp : ys.Perm xs) (ho : ys.Pairwise fun x y => x.1 ≤ y.1) : mg ys = mg9 xs := by
  obtain ⟨a1, a2, a3⟩ := mg_facts ys ho
  obtain ⟨b1, b2, b3⟩ := mg9_facts xs
  exact sep_unique _ _ a1 a2 b1 b2 (fun o => (a3 o).trans ((cov_perm hp o).trans (b3 o).symm))
theorem mg_again {ys zs : List (Int × Int)} (ho : ys.Pairwise fun x y => x.1 ≤ y.1) (hz : zs.Perm (mg ys)) (hzo : zs.Pairwise fun x y => x.1 ≤ y.1) : mg zs = mg ys := by
  obtain ⟨a1, a2, a3⟩ := mg_facts ys ho
  obtain ⟨b1, b2, b3⟩ := mg_facts zs hzo
  exact sep_unique _ _ b1 b2 a1 a2 (fun o => (b3 o).trans (cov_perm hz o))
end Go.Proofs.YteamnofooicbeaaDoor
