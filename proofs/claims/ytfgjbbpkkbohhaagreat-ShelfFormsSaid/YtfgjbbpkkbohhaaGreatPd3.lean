/- Chapter 20: what Merge of an ordered list covers (plain lists). -/
import Derived.Test.YtfgjbbpkkbohhaaGreatPd2
namespace Go.Proofs.YtfgjbbpkkbohhaaGreat

/-- an offset is in a list -/
def cov (l : List (Nat × Nat)) (o : Nat) : Prop := ∃ r ∈ l, r.1 ≤ o ∧ o < r.2
def Sep (l : List (Nat × Nat)) : Prop := l.Pairwise fun x y => x.2 < y.1
def Okr (l : List (Nat × Nat)) : Prop := ∀ r ∈ l, r.1 < r.2 ∧ r.2 ≤ 65536
theorem mgS_concat (o : List (Nat × Nat)) (l r : Nat × Nat) : mgS (o ++ [l]) r = if r.1 ≤ l.2 then o ++ [(l.1, max l.2 r.2)] else o ++ [l] ++ [r] := by
  by_cases h : r.1 ≤ l.2
  · rw [if_pos h, mgS_join (q := o.length) (by simp) (l := l) (by simp) h]
    rw [List.set_append_right _ _ (Nat.le_refl _)]
    simp
  · rw [if_neg h, mgS_add (q := o.length) (by simp) (l := l) (by simp) h]
theorem cov_append (a b : List (Nat × Nat)) (o : Nat) : cov (a ++ b) o ↔ cov a o ∨ cov b o := by
  unfold cov
  constructor
  · rintro ⟨r, hr, h⟩
    rcases List.mem_append.1 hr with h1 | h1
    · exact .inl ⟨r, h1, h⟩
    · exact .inr ⟨r, h1, h⟩
  · rintro (⟨r, hr, h⟩ | ⟨r, hr, h⟩)
    · exact ⟨r, List.mem_append_left _ hr, h⟩
    · exact ⟨r, List.mem_append_right _ hr, h⟩
theorem cov_one (r : Nat × Nat) (o : Nat) : cov [r] o ↔ r.1 ≤ o ∧ o < r.2 := by
  unfold cov
  constructor
  · rintro ⟨x, hx, h⟩
    rw [List.mem_singleton] at hx
    rw [← hx]; exact h
  · intro h
    exact ⟨r, List.mem_singleton.2 rfl, h⟩
theorem cov_nil (o : Nat) : ¬ cov [] o := by
  rintro ⟨r, hr, _⟩
  cases hr
theorem mgS_facts (out : List (Nat × Nat)) (r : Nat × Nat) (hs : Sep out) (ho : Okr out) (hr : r.1 < r.2 ∧ r.2 ≤ 65536) (hle : ∀ x ∈ out, x.1 ≤ r.1) :
    Sep (mgS out r) ∧ Okr (mgS out r) ∧ (∀ o, cov (mgS out r) o ↔ cov out o ∨ cov [r] o) ∧ ∀ y : Nat, r.1 ≤ y → ∀ x ∈ mgS out r, x.1 ≤ y := by
  rcases List.eq_nil_or_concat out with rfl | ⟨o', l, rfl⟩
  · refine ⟨List.pairwise_singleton _ _, fun x hx => ?_, fun o => ?_, fun y hy x hx => ?_⟩
    · rw [mgS_nil, List.mem_singleton] at hx; rw [hx]; exact hr
    · rw [mgS_nil]
      exact ⟨.inr, fun h => h.elim (fun h => absurd h (cov_nil o)) id⟩
    · rw [mgS_nil, List.mem_singleton] at hx; rw [hx]; exact hy
  · rw [List.concat_eq_append] at hs ho hle ⊢
    have hl := ho l (by simp)
    have hlr := hle l (by simp)
    have hs' : Sep o' ∧ ∀ x ∈ o', x.2 < l.1 := by
      have := List.pairwise_append.1 hs
      exact ⟨this.1, fun x hx => this.2.2 x hx l (by simp)⟩
    rw [mgS_concat]
    by_cases h : r.1 ≤ l.2
    · rw [if_pos h]
      refine ⟨?_, ?_, fun o => ?_, fun y hy x hx => ?_⟩
      · refine List.pairwise_append.2 ⟨hs'.1, List.pairwise_singleton _ _, fun x hx y hy => ?_⟩
        rw [List.mem_singleton] at hy
        rw [hy]; exact hs'.2 x hx
      · intro x hx
        rcases List.mem_append.1 hx with h1 | h1
        · exact ho x (List.mem_append_left _ h1)
        · rw [List.mem_singleton] at h1
          rw [h1]
          show l.1 < max l.2 r.2 ∧ max l.2 r.2 ≤ 65536
          omega
      · rw [cov_append, cov_append, cov_one, cov_one, cov_one]
        show cov o' o ∨ (l.1 ≤ o ∧ o < max l.2 r.2) ↔ _
        constructor
        · rintro (h1 | h1)
          · exact .inl (.inl h1)
          · by_cases h2 : o < l.2
            · exact .inl (.inr ⟨h1.1, h2⟩)
            · exact .inr (by omega)
        · rintro ((h1 | h1) | h1)
          · exact .inl h1
          · exact .inr (by omega)
          · exact .inr (by omega)
      · rcases List.mem_append.1 hx with h1 | h1
        · have := hle x (List.mem_append_left _ h1); omega
        · rw [List.mem_singleton] at h1
          rw [h1]
          show l.1 ≤ y
          omega
    · rw [if_neg h]
      refine ⟨?_, ?_, fun o => cov_append _ _ _, fun y hy x hx => ?_⟩
      · refine List.pairwise_append.2 ⟨hs, List.pairwise_singleton _ _, fun x hx y hy => ?_⟩
        rw [List.mem_singleton] at hy
        rw [hy]
        rcases List.mem_append.1 hx with h1 | h1
        · have := hs'.2 x h1; omega
        · rw [List.mem_singleton] at h1; rw [h1]; omega
      · intro x hx
        rcases List.mem_append.1 hx with h1 | h1
        · exact ho x h1
        · rw [List.mem_singleton] at h1; rw [h1]; exact hr
      · rcases List.mem_append.1 hx with h1 | h1
        · have := hle x h1; omega
        · rw [List.mem_singleton] at h1; rw [h1]; exact hy
theorem fold_facts : ∀ (ys out : List (Nat × Nat)), Sep out → Okr out → Okr ys → (∀ x ∈ out, ∀ y ∈ ys, x.1 ≤ y.1) → (ys.Pairwise fun x y => x.1 ≤ y.1) →
    Sep (ys.foldl mgS out) ∧ Okr (ys.foldl mgS out) ∧ ∀ o, cov (ys.foldl mgS out) o ↔ cov out o ∨ cov ys o
  | [], out, hs, ho, _, _, _ => ⟨hs, ho, fun o => ⟨.inl, fun h => h.elim id fun h => absurd h (cov_nil o)⟩⟩
  | y :: ys, out, hs, ho, hy, hle, hp => by
    obtain ⟨f1, f2, f3, f4⟩ := mgS_facts out y hs ho (hy y (by simp)) (fun x hx => hle x hx y (by simp))
    have hp' := List.pairwise_cons.1 hp
    obtain ⟨g1, g2, g3⟩ := fold_facts ys (mgS out y) f1 f2 (fun r hr => hy r (by simp [hr])) (fun x hx z hz => f4 z.1 (hp'.1 z hz) x hx) hp'.2
    refine ⟨g1, g2, fun o => ?_⟩
    rw [List.foldl_cons, g3, f3, or_assoc, ← cov_append]
    rfl
theorem mg_facts (xs : List (Nat × Nat)) (hx : Okr xs) (hp : xs.Pairwise fun x y => x.1 ≤ y.1) : Sep (mg xs) ∧ Okr (mg xs) ∧ ∀ o, cov (mg xs) o ↔ cov xs o := by
  obtain ⟨h1, h2, h3⟩ := fold_facts xs [] List.Pairwise.nil (fun r hr => by cases hr) hx (fun x hx => by cases hx) hp
  exact ⟨h1, h2, fun o => (h3 o).trans ⟨fun h => h.elim (fun h => absurd h (cov_nil o)) id, .inr⟩⟩
theorem sep_le {l : List (Nat × Nat)} (hs : Sep l) (ho : Okr l) : l.Pairwise fun x y => x.1 ≤ y.1 := by
  refine List.Pairwise.imp_of_mem ?_ hs
  intro a b ha hb h
  have := ho a ha
  omega
theorem sep_pair {l : List (Nat × Nat)} (hs : Sep l) : ∀ x ∈ l, ∀ y ∈ l, x = y ∨ x.2 < y.1 ∨ y.2 < x.1 := by
  induction l with
  | nil => intro x hx; cases hx
  | cons a l ih =>
    obtain ⟨h1, h2⟩ := List.pairwise_cons.1 hs
    intro x hx y hy
    rcases List.mem_cons.1 hx with rfl | hx'
    · rcases List.mem_cons.1 hy with rfl | hy'
      · exact .inl rfl
      · exact .inr (.inl (h1 y hy'))
    · rcases List.mem_cons.1 hy with rfl | hy'
      · exact .inr (.inr (h1 x hx'))
      · exact ih h2 x hx' y hy'
theorem sep_cover {l : List (Nat × Nat)} (hs : Sep l) {f t : Nat} (hft : f < t) : (∃ x ∈ l, x.1 ≤ f ∧ t ≤ x.2) ↔ ∀ o, f ≤ o → o < t → cov l o := by
  constructor
  · rintro ⟨x, hx, h1, h2⟩ o ho1 ho2
    exact ⟨x, hx, by omega, by omega⟩
  · intro h
    obtain ⟨x, hx, h1, h2⟩ := h f (Nat.le_refl _) hft
    refine ⟨x, hx, h1, Nat.le_of_not_lt fun h3 => ?_⟩
    obtain ⟨y, hy, h4, h5⟩ := h x.2 (by omega) h3
    rcases sep_pair hs x hx y hy with rfl | h6 | h6 <;> omega
theorem pw_at {l : List (Nat × Nat)} (h : l.Pairwise fun x y => x.1 ≤ y.1) (i : Nat) (hi : i + 1 < l.length) : ((l[i]?).getD (0, 0)).1 ≤ ((l[i + 1]?).getD (0, 0)).1 := by
  rw [List.getElem?_eq_getElem (by omega), List.getElem?_eq_getElem hi]
  exact List.pairwise_iff_getElem.1 h i (i + 1) (by omega) hi (by omega)
/-- the ranges of the pieces that are there -/
def hlK (len : Nat) (D : Nat → Option ByteArray) : Nat → List (Nat × Nat)
  | 0 => []
  | k + 1 => hlK len D k ++ if (D k).isSome then [(k * 256, pto k len)] else []
theorem hlK_mem {len : Nat} {D : Nat → Option ByteArray} {k : Nat} {r : Nat × Nat} (h : r ∈ hlK len D k) : ∃ i, i < k ∧ (D i).isSome = true ∧ r = (i * 256, pto i len) := by
  induction k with
  | zero => cases h
  | succ k ih =>
    rcases List.mem_append.1 h with h1 | h1
    · obtain ⟨i, hi, h2⟩ := ih h1
      exact ⟨i, by omega, h2⟩
    · split at h1
      · rename_i hk
        exact ⟨k, by omega, hk, List.mem_singleton.1 h1⟩
      · cases h1
theorem hlK_in {len : Nat} {D : Nat → Option ByteArray} {k i : Nat} (hi : i < k) (h : (D i).isSome = true) : (i * 256, pto i len) ∈ hlK len D k := by
  induction k with
  | zero => omega
  | succ k ih =>
    by_cases e : i = k
    · subst e
      refine List.mem_append_right _ ?_
      rw [if_pos h]
      simp
    · exact List.mem_append_left _ (ih (by omega))
theorem hlK_length (len : Nat) (D : Nat → Option ByteArray) (k : Nat) : (hlK len D k).length ≤ k := by
  induction k with
  | zero => simp [hlK]
  | succ k ih => unfold hlK; rw [List.length_append]; split <;> simp <;> omega
theorem hlK_pw (len : Nat) (D : Nat → Option ByteArray) (k : Nat) : (hlK len D k).Pairwise fun x y => x.1 ≤ y.1 := by
  induction k with
  | zero => exact List.Pairwise.nil
  | succ k ih =>
    refine List.pairwise_append.2 ⟨ih, ?_, fun x hx y hy => ?_⟩
    · split <;> simp
    · obtain ⟨i, hi, -, rfl⟩ := hlK_mem hx
      split at hy
      · rw [List.mem_singleton] at hy
        rw [hy]
        show i * 256 ≤ k * 256
        omega
      · cases hy
theorem hlK_ok {len : Nat} (D : Nat → Option ByteArray) (hl : len ≤ 65536) : Okr (hlK len D (npc len)) := by
  intro r hr
  obtain ⟨i, hi, -, rfl⟩ := hlK_mem hr
  unfold npc at hi
  show i * 256 < pto i len ∧ pto i len ≤ 65536
  unfold pto
  omega
theorem hlK_cov {len : Nat} (D : Nat → Option ByteArray) (o : Nat) (ho : o < len) : cov (hlK len D (npc len)) o ↔ (D (o / 256)).isSome = true := by
  constructor
  · rintro ⟨r, hr, h1, h2⟩
    obtain ⟨i, hi, h3, rfl⟩ := hlK_mem hr
    have h1' : i * 256 ≤ o := h1
    have h2' : o < pto i len := h2
    unfold pto at h2'
    rwa [show o / 256 = i by omega]
  · intro h
    refine ⟨_, hlK_in (by unfold npc; omega) h, ?_, ?_⟩
    · show o / 256 * 256 ≤ o
      omega
    · show o < pto (o / 256) len
      unfold pto
      omega
/-- covered, and nothing missing: the same -/
theorem cover_gaps {len : Nat} (D : Nat → Option ByteArray) (hl : len ≤ 65536) {f t : Nat} (ht : t ≤ len) (hft : f < t) :
    (∃ x ∈ mg (mg (hlK len D (npc len))), x.1 ≤ f ∧ t ≤ x.2) ↔ gaps D (pcs f t) = [] := by
  obtain ⟨a1, a2, a3⟩ := mg_facts _ (hlK_ok D hl) (hlK_pw len D _)
  obtain ⟨b1, b2, b3⟩ := mg_facts _ a2 (sep_le a1 a2)
  rw [sep_cover b1 hft]
  unfold gaps
  rw [List.filter_eq_nil_iff]
  constructor
  · intro h i hi
    unfold pcs at hi
    rw [if_pos hft, List.mem_range'_1] at hi
    have h1 := (hlK_cov D (max f (i * 256)) (by omega)).1 ((a3 _).1 ((b3 _).1 (h (max f (i * 256)) (by omega) (by omega))))
    rw [show max f (i * 256) / 256 = i by omega] at h1
    rw [h1]
    simp
  · intro h o h1 h2
    rw [b3, a3, hlK_cov D o (by omega)]
    have := h _ (pcs_in h1 h2)
    cases hd : (D (o / 256)).isSome with
    | true => rfl
    | false => rw [hd] at this; simp at this
end Go.Proofs.YtfgjbbpkkbohhaaGreat
