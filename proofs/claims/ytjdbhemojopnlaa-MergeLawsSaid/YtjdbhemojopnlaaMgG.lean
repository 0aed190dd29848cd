/- Chapter 52: the order of entries is one; slices.SortedFunc; List. -/
import Derived.Test.YtjdbhemojopnlaaMgF
import Derived.Test.YtjdbhemojopnlaaShelf
namespace Go.Proofs.Ytjdbhemojopnlaa
open Go.RowKit Go.Lib Go.Sort
theorem bl_irrefl : ∀ x : List UInt8, Op.bytesLess x x = false
  | [] => rfl
  | a :: x => by simp [Op.bytesLess, bl_irrefl x]
theorem bl_trans : ∀ x y z : List UInt8, Op.bytesLess x y = true → Op.bytesLess y z = true → Op.bytesLess x z = true
  | _, [], _, h, _ => by cases ‹List UInt8› <;> simp [Op.bytesLess] at h
  | _, _ :: _, [], _, h => by simp [Op.bytesLess] at h
  | [], _ :: _, _ :: _, _, _ => by simp [Op.bytesLess]
  | a :: x, b :: y, c :: z, h1, h2 => by
    simp only [Op.bytesLess, Bool.or_eq_true, decide_eq_true_eq, Bool.and_eq_true, beq_iff_eq] at h1 h2 ⊢
    rcases h1 with h1 | ⟨rfl, h1⟩
    · rcases h2 with h2 | ⟨rfl, _⟩
      · exact .inl (UInt8.lt_trans h1 h2)
      · exact .inl h1
    · rcases h2 with h2 | ⟨rfl, h2⟩
      · exact .inl h2
      · exact .inr ⟨rfl, bl_trans x y z h1 h2⟩
theorem bl_tri : ∀ x y : List UInt8, Op.bytesLess x y = true ∨ x = y ∨ Op.bytesLess y x = true
  | [], [] => .inr (.inl rfl)
  | [], _ :: _ => .inl (by simp [Op.bytesLess])
  | _ :: _, [] => .inr (.inr (by simp [Op.bytesLess]))
  | a :: x, b :: y => by
    simp only [Op.bytesLess, Bool.or_eq_true, decide_eq_true_eq, Bool.and_eq_true, beq_iff_eq, List.cons.injEq]
    rcases Nat.lt_trichotomy a.toNat b.toNat with h | h | h
    · exact .inl (.inl (UInt8.lt_iff_toNat_lt.2 h))
    · have e : a = b := UInt8.toNat_inj.1 h
      rcases bl_tri x y with h1 | h1 | h1
      · exact .inl (.inr ⟨e, h1⟩)
      · exact .inr (.inl ⟨e, h1⟩)
      · exact .inr (.inr (.inr ⟨e.symm, h1⟩))
    · exact .inr (.inr (.inl (UInt8.lt_iff_toNat_lt.2 h)))
theorem tl_inj {a b : ByteArray} (h : a.toList = b.toList) : a = b := ba_eq (by simp [h])
theorem ltS_irrefl (a : ByteArray) : ltS a a = false := bl_irrefl _
theorem ltS_trans {a b c : ByteArray} (h : ltS a b = true) (h' : ltS b c = true) : ltS a c = true := bl_trans _ _ _ h h'
theorem ltS_tri (a b : ByteArray) : ltS a b = true ∨ a = b ∨ ltS b a = true := by
  rcases bl_tri a.toList b.toList with h | h | h
  · exact .inl h
  · exact .inr (.inl (tl_inj h))
  · exact .inr (.inr h)
theorem ltS_asymm {a b : ByteArray} (h : ltS a b = true) : ltS b a = false := by
  cases hb : ltS b a with
  | false => rfl
  | true => have := ltS_trans h hb; rw [ltS_irrefl] at this; cases this
/-- one entry stands before another -/
def ltE (a b : Ent) : Prop := ltS a.nd b.nd = true ∨ a.nd = b.nd ∧ (a.bt < b.bt ∨ a.bt = b.bt ∧ a.sq < b.sq)
theorem ltE_irrefl (a : Ent) : ¬ ltE a a := by
  rintro (h | ⟨_, h | ⟨_, h⟩⟩)
  · rw [ltS_irrefl] at h; cases h
  · omega
  · omega
theorem ltE_trans {a b c : Ent} (h : ltE a b) (k : ltE b c) : ltE a c := by
  rcases h with h | ⟨e, h⟩
  · rcases k with k | ⟨e', k⟩
    · exact .inl (ltS_trans h k)
    · exact .inl (e' ▸ h)
  · rcases k with k | ⟨e', k⟩
    · exact .inl (e ▸ k)
    · refine .inr ⟨e.trans e', ?_⟩
      omega
theorem ltE_tri (a b : Ent) : ltE a b ∨ a.key = b.key ∨ ltE b a := by
  rcases ltS_tri a.nd b.nd with h | h | h
  · exact .inl (.inl h)
  · rcases Int.lt_trichotomy a.bt b.bt with h1 | h1 | h1
    · exact .inl (.inr ⟨h, .inl h1⟩)
    · rcases Int.lt_trichotomy a.sq b.sq with h2 | h2 | h2
      · exact .inl (.inr ⟨h, .inr ⟨h1, h2⟩⟩)
      · exact .inr (.inl (by simp [Ent.key, h, h1, h2]))
      · exact .inr (.inr (.inr ⟨h.symm, .inr ⟨h1.symm, h2⟩⟩))
    · exact .inr (.inr (.inr ⟨h.symm, .inl h1⟩))
  · exact .inr (.inr (.inl h))
theorem ltE_key {a b : Ent} (h : ltE a b) : a.key ≠ b.key := by
  intro e
  simp only [Ent.key, Prod.mk.injEq] at e
  rcases h with h | ⟨_, h⟩
  · rw [e.1, ltS_irrefl] at h; cases h
  · omega
theorem ltE_left {a b c : Ent} (e : a.key = b.key) (h : ltE b c) : ltE a c := by
  simp only [Ent.key, Prod.mk.injEq] at e
  unfold ltE at h ⊢
  rw [e.1, e.2.1, e.2.2]
  exact h
theorem ltE_right {a b c : Ent} (e : b.key = c.key) (h : ltE a b) : ltE a c := by
  simp only [Ent.key, Prod.mk.injEq] at e
  unfold ltE at h ⊢
  rw [← e.1, ← e.2.1, ← e.2.2]
  exact h
theorem cmpE_neg (a b : Ent) : ltOf cmpE a b = true ↔ ltE a b := by
  unfold ltOf cmpE orI cmpS cmpI ltE
  simp only [decide_eq_true_eq, beq_iff_eq]
  cases h : ltS a.nd b.nd with
  | true => simp
  | false =>
    by_cases h1 : a.nd.toList = b.nd.toList
    · have e := tl_inj h1
      simp only [e, true_and, if_true]
      split <;> split <;> simp_all <;> (try omega) <;> split <;> (try omega) <;> simp_all <;> (try omega) <;> split <;> (try omega)
    · have e : a.nd ≠ b.nd := fun e => h1 (by rw [e])
      simp [h1, e]
theorem ltOf_eq (a b : Ent) : ltOf cmpE a b = false ↔ ¬ ltE a b := by
  rw [← cmpE_neg]
  simp
theorem swo_ent : SWO (ltOf cmpE) where
  irrefl x := (ltOf_eq _ _).2 (ltE_irrefl x)
  trans x y z h1 h2 := (cmpE_neg _ _).2 (ltE_trans ((cmpE_neg _ _).1 h1) ((cmpE_neg _ _).1 h2))
  ntrans x y z h1 h2 := (ltOf_eq _ _).2 (fun h => by
    have h1 := (ltOf_eq _ _).1 h1
    have h2 := (ltOf_eq _ _).1 h2
    rcases ltE_tri y x with k | k | k
    · exact h2 (ltE_trans k h)
    · exact h2 (ltE_left k h)
    · exact h1 k)
theorem cmp_lays (blk off size : Nat) (w : World) : CmpLays Try.prog 34 #[] Ent.cs 7 cmpE blk off size w := fun _ _ _ _ x y => cmp_ent x y _
end Go.Proofs.Ytjdbhemojopnlaa
