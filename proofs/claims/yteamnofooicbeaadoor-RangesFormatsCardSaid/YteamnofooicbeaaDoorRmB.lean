/- Chapter 09: what Merge of an ordered list covers, and that the offsets fix the list (plain lists). -/
import Derived.Test.YteamnofooicbeaaDoorRmA
namespace Go.Proofs.YteamnofooicbeaaDoor
def mgJ (out : List (Int × Int)) (r : Int × Int) : List (Int × Int) :=
  match out.getLast? with
  | none => [r]
  | some l => if r.1 ≤ l.2 then out.set (out.length - 1) (l.1, max l.2 r.2) else out ++ [r]
def mgS (out : List (Int × Int)) (r : Int × Int) : List (Int × Int) := if r.1 < r.2 then mgJ out r else out
def mg (xs : List (Int × Int)) : List (Int × Int) := xs.foldl mgS []
theorem mg_take (xs : List (Int × Int)) (k : Nat) (r : Int × Int) (h : xs[k]? = some r) : mg (xs.take (k + 1)) = mgS (mg (xs.take k)) r := by
  unfold mg
  rw [List.take_add_one, h, List.foldl_append]
  rfl
theorem mgJ_length (out : List (Int × Int)) (r : Int × Int) : (mgJ out r).length ≤ out.length + 1 := by
  unfold mgJ
  split
  · simp
  · split <;> simp
theorem mgS_length (out : List (Int × Int)) (r : Int × Int) : (mgS out r).length ≤ out.length + 1 := by
  unfold mgS
  have := mgJ_length out r
  split <;> omega
theorem mg_length (xs : List (Int × Int)) : (mg xs).length ≤ xs.length := by
  have : ∀ (ys out : List (Int × Int)), (ys.foldl mgS out).length ≤ out.length + ys.length := by
    intro ys
    induction ys with
    | nil => intro out; simp
    | cons y ys ih => intro out; have h1 := ih (mgS out y); have := mgS_length out y; simp only [List.foldl_cons, List.length_cons]; omega
  have := this xs []
  simpa [mg] using this
theorem mgJ_nil (r : Int × Int) : mgJ [] r = [r] := rfl
theorem mgJ_join {out : List (Int × Int)} {r l : Int × Int} {q : Nat} (hq : out.length = q + 1) (hl : out[q]? = some l) (h : r.1 ≤ l.2) : mgJ out r = out.set q (l.1, max l.2 r.2) := by
  unfold mgJ
  rw [List.getLast?_eq_getElem?, hq, show q + 1 - 1 = q by omega, hl]
  simp [h]
theorem mgJ_add {out : List (Int × Int)} {r l : Int × Int} {q : Nat} (hq : out.length = q + 1) (hl : out[q]? = some l) (h : ¬ r.1 ≤ l.2) : mgJ out r = out ++ [r] := by
  unfold mgJ
  rw [List.getLast?_eq_getElem?, hq, show q + 1 - 1 = q by omega, hl]
  simp [h]
/-- an offset is in a list -/
def cov (l : List (Int × Int)) (o : Int) : Prop := ∃ r ∈ l, r.1 ≤ o ∧ o < r.2
def Sep (l : List (Int × Int)) : Prop := l.Pairwise fun x y => x.2 < y.1
def Prp (l : List (Int × Int)) : Prop := ∀ r ∈ l, r.1 < r.2
theorem mgJ_concat (o : List (Int × Int)) (l r : Int × Int) : mgJ (o ++ [l]) r = if r.1 ≤ l.2 then o ++ [(l.1, max l.2 r.2)] else o ++ [l] ++ [r] := by
  by_cases h : r.1 ≤ l.2
  · rw [if_pos h, mgJ_join (q := o.length) (by simp) (l := l) (by simp) h]
    rw [List.set_append_right _ _ (Nat.le_refl _)]
    simp
  · rw [if_neg h, mgJ_add (q := o.length) (by simp) (l := l) (by simp) h]
theorem cov_append (a b : List (Int × Int)) (o : Int) : cov (a ++ b) o ↔ cov a o ∨ cov b o := by
  unfold cov
  constructor
  · rintro ⟨r, hr, h⟩
    rcases List.mem_append.1 hr with h1 | h1
    · exact .inl ⟨r, h1, h⟩
    · exact .inr ⟨r, h1, h⟩
  · rintro (⟨r, hr, h⟩ | ⟨r, hr, h⟩)
    · exact ⟨r, List.mem_append_left _ hr, h⟩
    · exact ⟨r, List.mem_append_right _ hr, h⟩
theorem cov_one (r : Int × Int) (o : Int) : cov [r] o ↔ r.1 ≤ o ∧ o < r.2 := by
  unfold cov
  constructor
  · rintro ⟨x, hx, h⟩
    rw [List.mem_singleton] at hx
    rw [← hx]; exact h
  · intro h
    exact ⟨r, List.mem_singleton.2 rfl, h⟩
theorem cov_nil (o : Int) : ¬ cov [] o := by
  rintro ⟨r, hr, _⟩
  cases hr
theorem mgJ_facts (out : List (Int × Int)) (r : Int × Int) (hs : Sep out) (ho : Prp out) (hr : r.1 < r.2) (hle : ∀ x ∈ out, x.1 ≤ r.1) :
    Sep (mgJ out r) ∧ Prp (mgJ out r) ∧ (∀ o, cov (mgJ out r) o ↔ cov out o ∨ cov [r] o) ∧ ∀ y : Int, r.1 ≤ y → ∀ x ∈ mgJ out r, x.1 ≤ y := by
  rcases List.eq_nil_or_concat out with rfl | ⟨o', l, rfl⟩
  · refine ⟨List.pairwise_singleton _ _, fun x hx => ?_, fun o => ?_, fun y hy x hx => ?_⟩
    · rw [mgJ_nil, List.mem_singleton] at hx; rw [hx]; exact hr
    · rw [mgJ_nil]
      exact ⟨.inr, fun h => h.elim (fun h => absurd h (cov_nil o)) id⟩
    · rw [mgJ_nil, List.mem_singleton] at hx; rw [hx]; exact hy
  · rw [List.concat_eq_append] at hs ho hle ⊢
    have hl := ho l (by simp)
    have hlr := hle l (by simp)
    have hs' : Sep o' ∧ ∀ x ∈ o', x.2 < l.1 := by
      have := List.pairwise_append.1 hs
      exact ⟨this.1, fun x hx => this.2.2 x hx l (by simp)⟩
    rw [mgJ_concat]
    by_cases h : r.1 ≤ l.2
    · rw [if_pos h]
      refine ⟨?_, ?_, fun o => ?_, fun y hy x hx => ?_⟩
      · refine List.pairwise_append.2 ⟨hs'.1, List.pairwise_singleton _ _, fun x hx y hy => ?_⟩
        rw [List.mem_singleton] at hy
        rw [hy]; exact hs'.2 x hx
      · intro x hx
        rcases List.mem_append.1 hx with h1 | h1
        · exact ho x (List.mem_append_left _ h1)
        · rw [List.mem_singleton] at h1
          rw [h1]
          show l.1 < max l.2 r.2
          omega
      · rw [cov_append, cov_append, cov_one, cov_one, cov_one]
        show cov o' o ∨ (l.1 ≤ o ∧ o < max l.2 r.2) ↔ _
        constructor
        · rintro (h1 | h1)
          · exact .inl (.inl h1)
          · by_cases h2 : o < l.2
            · exact .inl (.inr ⟨h1.1, h2⟩)
            · exact .inr (by omega)
        · rintro ((h1 | h1) | h1)
          · exact .inl h1
          · exact .inr (by omega)
          · exact .inr (by omega)
      · rcases List.mem_append.1 hx with h1 | h1
        · have := hle x (List.mem_append_left _ h1); omega
        · rw [List.mem_singleton] at h1
          rw [h1]
          show l.1 ≤ y
          omega
    · rw [if_neg h]
      refine ⟨?_, ?_, fun o => cov_append _ _ _, fun y hy x hx => ?_⟩
      · refine List.pairwise_append.2 ⟨hs, List.pairwise_singleton _ _, fun x hx y hy => ?_⟩
        rw [List.mem_singleton] at hy
        rw [hy]
        rcases List.mem_append.1 hx with h1 | h1
        · have := hs'.2 x h1; omega
        · rw [List.mem_singleton] at h1; rw [h1]; omega
      · intro x hx
        rcases List.mem_append.1 hx with h1 | h1
        · exact ho x h1
        · rw [List.mem_singleton] at h1; rw [h1]; exact hr
      · rcases List.mem_append.1 hx with h1 | h1
        · have := hle x h1; omega
        · rw [List.mem_singleton] at h1; rw [h1]; exact hy
theorem mgS_facts (out : List (Int × Int)) (r : Int × Int) (hs : Sep out) (ho : Prp out) (hle : ∀ x ∈ out, x.1 ≤ r.1) :
    Sep (mgS out r) ∧ Prp (mgS out r) ∧ (∀ o, cov (mgS out r) o ↔ cov out o ∨ cov [r] o) ∧ ∀ y : Int, r.1 ≤ y → ∀ x ∈ mgS out r, x.1 ≤ y := by
  unfold mgS
  by_cases hr : r.1 < r.2
  · rw [if_pos hr]
    exact mgJ_facts out r hs ho hr hle
  · rw [if_neg hr]
    refine ⟨hs, ho, fun o => ⟨.inl, fun h => h.elim id fun h => ?_⟩, fun y hy x hx => ?_⟩
    · rw [cov_one] at h
      omega
    · have := hle x hx
      omega
theorem fold_facts : ∀ (ys out : List (Int × Int)), Sep out → Prp out → (∀ x ∈ out, ∀ y ∈ ys, x.1 ≤ y.1) → (ys.Pairwise fun x y => x.1 ≤ y.1) →
    Sep (ys.foldl mgS out) ∧ Prp (ys.foldl mgS out) ∧ ∀ o, cov (ys.foldl mgS out) o ↔ cov out o ∨ cov ys o
  | [], out, hs, ho, _, _ => ⟨hs, ho, fun o => ⟨.inl, fun h => h.elim id fun h => absurd h (cov_nil o)⟩⟩
  | y :: ys, out, hs, ho, hle, hp => by
    obtain ⟨f1, f2, f3, f4⟩ := mgS_facts out y hs ho (fun x hx => hle x hx y (by simp))
    have hp' := List.pairwise_cons.1 hp
    obtain ⟨g1, g2, g3⟩ := fold_facts ys (mgS out y) f1 f2 (fun x hx z hz => f4 z.1 (hp'.1 z hz) x hx) hp'.2
    refine ⟨g1, g2, fun o => ?_⟩
    rw [List.foldl_cons, g3, f3, or_assoc, ← cov_append]
    rfl
theorem mg_facts (xs : List (Int × Int)) (hp : xs.Pairwise fun x y => x.1 ≤ y.1) : Sep (mg xs) ∧ Prp (mg xs) ∧ ∀ o, cov (mg xs) o ↔ cov xs o := by
  obtain ⟨h1, h2, h3⟩ := fold_facts xs [] List.Pairwise.nil (fun r hr => by cases hr) (fun x hx => by cases hx) hp
  exact ⟨h1, h2, fun o => (h3 o).trans ⟨fun h => h.elim (fun h => absurd h (cov_nil o)) id, .inr⟩⟩
theorem cov_perm {a b : List (Int × Int)} (h : a.Perm b) (o : Int) : cov a o ↔ cov b o := by
  unfold cov
  constructor
  · rintro ⟨r, hr, h2⟩
    exact ⟨r, h.mem_iff.1 hr, h2⟩
  · rintro ⟨r, hr, h2⟩
    exact ⟨r, h.mem_iff.2 hr, h2⟩
theorem cov_cons (x : Int × Int) (l : List (Int × Int)) (o : Int) : cov (x :: l) o ↔ (x.1 ≤ o ∧ o < x.2) ∨ cov l o := by
  have := cov_append [x] l o
  rw [cov_one] at this
  exact this
theorem sep_above {x : Int × Int} {l : List (Int × Int)} (hs : Sep (x :: l)) {o : Int} (hc : cov l o) : x.2 < o := by
  obtain ⟨r, hr, h1, -⟩ := hc
  have := (List.pairwise_cons.1 hs).1 r hr
  omega
/-- what is separated and in order is fixed by the offsets that it has -/
theorem sep_unique : ∀ (a b : List (Int × Int)), Sep a → Prp a → Sep b → Prp b → (∀ o, cov a o ↔ cov b o) → a = b
  | [], [], _, _, _, _, _ => rfl
  | [], y :: b, _, _, _, pb, h => by
    have hy := pb y (by simp)
    exact absurd ((h y.1).2 ((cov_cons _ _ _).2 (.inl ⟨Int.le_refl _, hy⟩))) (cov_nil _)
  | x :: a, [], _, pa, _, _, h => by
    have hx := pa x (by simp)
    exact absurd ((h x.1).1 ((cov_cons _ _ _).2 (.inl ⟨Int.le_refl _, hx⟩))) (cov_nil _)
  | x :: a, y :: b, sa, pa, sb, pb, h => by
    have hx := pa x (by simp)
    have hy := pb y (by simp)
    have key : ∀ (p q : Int × Int) (s t : List (Int × Int)), Sep (p :: s) → Sep (q :: t) → p.1 < p.2 → q.1 < q.2 → (∀ o, cov (p :: s) o → cov (q :: t) o) → q.1 ≤ p.1 := by
      intro p q s t hp hq h1 h2 h3
      rcases (cov_cons _ _ _).1 (h3 p.1 ((cov_cons _ _ _).2 (.inl ⟨Int.le_refl _, h1⟩))) with h4 | h4
      · exact h4.1
      · have := sep_above hq h4
        omega
    have e1 : x.1 = y.1 := by
      have h1 := key x y a b sa sb hx hy (fun o => (h o).1)
      have h2 := key y x b a sb sa hy hx (fun o => (h o).2)
      omega
    have key2 : ∀ (p q : Int × Int) (s t : List (Int × Int)), Sep (p :: s) → p.1 = q.1 → p.1 < p.2 → (∀ o, cov (q :: t) o → cov (p :: s) o) → q.2 ≤ p.2 := by
      intro p q s t hp h1 h2 h3
      refine Int.not_lt.1 fun h4 => ?_
      rcases (cov_cons _ _ _).1 (h3 p.2 ((cov_cons _ _ _).2 (.inl ⟨by omega, h4⟩))) with h5 | h5
      · omega
      · have := sep_above hp h5
        omega
    have e2 : x.2 = y.2 := by
      have h1 := key2 x y a b sa e1 hx (fun o => (h o).2)
      have h2 := key2 y x b a sb e1.symm hy (fun o => (h o).1)
      omega
    have exy : x = y := Prod.ext e1 e2
    subst exy
    have hr := sep_unique a b (List.pairwise_cons.1 sa).2 (fun r hr => pa r (by simp [hr])) (List.pairwise_cons.1 sb).2 (fun r hr => pb r (by simp [hr])) (fun o => by
      constructor
      · intro hc
        have h1 := sep_above sa hc
        rcases (cov_cons _ _ _).1 ((h o).1 ((cov_cons _ _ _).2 (.inr hc))) with h2 | h2
        · omega
        · exact h2
      · intro hc
        have h1 := sep_above sb hc
        rcases (cov_cons _ _ _).1 ((h o).2 ((cov_cons _ _ _).2 (.inr hc))) with h2 | h2
        · omega
        · exact h2)
    rw [hr]
theorem sep_le {l : List (Int × Int)} (hs : Sep l) (ho : Prp l) : l.Pairwise fun x y => x.1 ≤ y.1 := by
  refine List.Pairwise.imp_of_mem ?_ hs
  intro a b ha hb h
  have := ho a ha
  omega
theorem sep_pair {l : List (Int × Int)} (hs : Sep l) : ∀ x ∈ l, ∀ y ∈ l, x = y ∨ x.2 < y.1 ∨ y.2 < x.1 := by
  induction l with
  | nil => intro x hx; cases hx
  | cons a l ih =>
    obtain ⟨h1, h2⟩ := List.pairwise_cons.1 hs
    intro x hx y hy
    rcases List.mem_cons.1 hx with rfl | hx'
    · rcases List.mem_cons.1 hy with rfl | hy'
      · exact .inl rfl
      · exact .inr (.inl (h1 y hy'))
    · rcases List.mem_cons.1 hy with rfl | hy'
      · exact .inr (.inr (h1 x hx'))
      · exact ih h2 x hx' y hy'
theorem sep_cover {l : List (Int × Int)} (hs : Sep l) {f t : Int} (hft : f < t) : (∃ x ∈ l, x.1 ≤ f ∧ t ≤ x.2) ↔ ∀ o, f ≤ o → o < t → cov l o := by
  constructor
  · rintro ⟨x, hx, h1, h2⟩ o ho1 ho2
    exact ⟨x, hx, by omega, by omega⟩
  · intro h
    obtain ⟨x, hx, h1, h2⟩ := h f (Int.le_refl _) hft
    refine ⟨x, hx, h1, Int.not_lt.1 fun h3 => ?_⟩
    obtain ⟨y, hy, h4, h5⟩ := h x.2 (by omega) h3
    rcases sep_pair hs x hx y hy with rfl | h6 | h6 <;> omega
end Go.Proofs.YteamnofooicbeaaDoor
