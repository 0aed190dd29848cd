/- Chapter 09: lines and occurrences: strings.Cut at CR LF, CutPrefix, Contains; the reference's line and holds. -/
import Derived.Test.YteamnofooicbeaaDoorRgF
import Derived.Test.YteamnofooicbeaaDoorRgC
import Derived.Handy
namespace Go.Proofs.YteamnofooicbeaaDoor
open Go.RowKit
theorem index_gen {l p : List UInt8} {i : Nat} (hi : Lib.occAt l p i = true) (hil : i ≤ l.length) (hb : ∀ j, j < i → Lib.occAt l p j = false) : Lib.index l p = i := by
  rcases Lib.index_spec l p with ⟨h1, h2⟩ | ⟨k, h1, h2, h3, h4⟩
  · rw [h2 i hil] at hi
    cases hi
  · rw [h1]
    rcases Nat.lt_trichotomy k i with h | h | h
    · rw [hb k h] at h3; cases h3
    · rw [h]
    · rw [h4 i h] at hi; cases hi
theorem index_not {l p : List UInt8} (h : ∀ j, j ≤ l.length → Lib.occAt l p j = false) : Lib.index l p = -1 := by
  rcases Lib.index_spec l p with ⟨h1, _⟩ | ⟨k, h1, h2, h3, _⟩
  · exact h1
  · rw [h k h2] at h3; cases h3
theorem occ_two (l : List UInt8) (i : Nat) : Lib.occAt l [13, 10] i = true ↔ l[i]? = some 13 ∧ l[i + 1]? = some 10 := by
  unfold Lib.occAt
  rw [show l[i]? = (l.drop i)[0]? by rw [List.getElem?_drop, Nat.add_zero], show l[i + 1]? = (l.drop i)[1]? by rw [List.getElem?_drop]]
  cases l.drop i with
  | nil => simp
  | cons a r =>
    cases r with
    | nil => simp
    | cons b r =>
      show ([13, 10] : List UInt8).isPrefixOf (a :: b :: r) = true ↔ some a = some 13 ∧ some b = some 10
      simp only [List.isPrefixOf, Bool.and_true, Bool.and_eq_true, beq_iff_eq, Option.some.injEq]
      exact ⟨fun h => ⟨h.1.symm, h.2.symm⟩, fun h => ⟨h.1.symm, h.2.symm⟩⟩
/-- a text around its first CR LF -/
def cutB (s : ByteArray) : ByteArray × ByteArray × Bool := (⟨(Lib.cut s.data.toList [13, 10]).1.toArray⟩, ⟨(Lib.cut s.data.toList [13, 10]).2.1.toArray⟩, (Lib.cut s.data.toList [13, 10]).2.2)
theorem scutB_any (s : ByteArray) (hs : s.size < 4294967281) (w : World) (hM : MaxL w) :
    Calls Tryd.prog 50 #[.string s, .string ⟨#[13, 10]⟩] w fun e w' => e = .returned (.tuple #[.string (cutB s).1, .string (cutB s).2.1, .bool (cutB s).2.2]) ∧ ∃ n, w' = w.drewN n := by
  obtain ⟨m, hm⟩ := hM
  exact Any.strings_Cut (P := Tryd.prog) (ρ := Tryd.laysM145_ren) { Tryd.laysM145 with } s ⟨#[13, 10]⟩ m w hs hm
theorem cutB_at {s : ByteArray} {i : Nat} (hi : i + 1 < s.size) (h1 : byt s i = 13) (h2 : byt s (i + 1) = 10) (hb : ∀ j, j < i → ¬ (byt s j = 13 ∧ byt s (j + 1) = 10)) : cutB s = (s.extract 0 i, s.extract (i + 2) s.size, true) := by
  have key : ∀ j, j + 1 < s.size → (Lib.occAt s.data.toList [13, 10] j = true ↔ byt s j = 13 ∧ byt s (j + 1) = 10) := by
    intro j hj
    rw [occ_two, byt_list s j (by omega), byt_list s (j + 1) hj, byt_is (by omega : j < s.size), byt_is hj]
    simp only [Option.some.injEq]
    constructor
    · rintro ⟨e1, e2⟩; rw [e1, e2]; exact ⟨rfl, rfl⟩
    · rintro ⟨e1, e2⟩; exact ⟨UInt8.toNat_inj.1 e1, UInt8.toNat_inj.1 e2⟩
  have hx : Lib.index s.data.toList [13, 10] = i := index_gen ((key i hi).2 ⟨h1, h2⟩) (by rw [← Lib.size_eq]; omega) (fun j hj => by
    rw [← Bool.not_eq_true, key j (by omega)]
    exact hb j hj)
  unfold cutB Lib.cut
  rw [hx, if_pos (by omega)]
  refine Prod.ext ?_ (Prod.ext ?_ rfl)
  · exact bs_ext (by rw [Lib.extract_toList, bs_mk]; simp)
  · exact bs_ext (by rw [Lib.extract_toList, bs_mk, List.take_of_length_le (l := s.data.toList.drop (i + 2)) (by rw [List.length_drop, ← Lib.size_eq]; omega)]; simp)
theorem cutB_no {s : ByteArray} (hb : ∀ j, j + 1 < s.size → ¬ (byt s j = 13 ∧ byt s (j + 1) = 10)) : cutB s = (s, ⟨#[]⟩, false) := by
  have hx : Lib.index s.data.toList [13, 10] = -1 := index_not (fun j _ => by
    rw [← Bool.not_eq_true, occ_two]
    rintro ⟨e1, e2⟩
    have hj := (List.getElem?_eq_some_iff.1 e2).1
    rw [← Lib.size_eq] at hj
    rw [byt_list s j (by omega)] at e1
    rw [byt_list s (j + 1) hj] at e2
    refine hb j hj ?_
    rw [byt_is (by omega : j < s.size), byt_is hj, Option.some.inj e1, Option.some.inj e2]
    exact ⟨rfl, rfl⟩)
  unfold cutB Lib.cut
  rw [hx, if_neg (by omega)]
/-- whether a text begins with another -/
def pfxB (p s : ByteArray) : Bool := Lib.hasPrefix s.data.toList p.data.toList
theorem pfxB_size {p s : ByteArray} (h : pfxB p s = true) : p.size ≤ s.size := by
  have h1 := (List.isPrefixOf_iff_prefix.1 h).length_le
  rw [Lib.size_eq, Lib.size_eq]
  exact h1
theorem pfxB_cut (p s : ByteArray) : ((s.extract 0 p.size).toList == p.toList) = pfxB p s := by
  rw [Lib.extract_toList, List.drop_zero, ByteArray.toList_eq, Bool.eq_iff_iff, beq_iff_eq]
  show s.data.toList.take (p.size - 0) = p.data.toList ↔ p.data.toList.isPrefixOf s.data.toList = true
  rw [List.isPrefixOf_iff_prefix, Nat.sub_zero, Lib.size_eq]
  constructor
  · intro e
    rw [← e]
    exact List.take_prefix _ _
  · intro hp
    exact (List.prefix_iff_eq_take.1 hp).symm
/-- CutPrefix -/
theorem spfxB_any (s p : ByteArray) (w : World) : Calls Tryd.prog 41 #[.string s, .string p] w fun e w' => (∃ x, e = .returned (.tuple #[.string x, .bool (pfxB p s)]) ∧ x.size ≤ s.size ∧ (pfxB p s = true → x = s.extract p.size s.size)) ∧ w = w' := by
  refine (Any.strings_CutPrefix Tryd.lays103 s p w).mono ?_
  rintro e w' ⟨rfl, rfl⟩
  refine ⟨⟨_, rfl, ?_, fun hp => ?_⟩, rfl⟩
  · unfold Lib.trimPrefix
    rw [Lib.size_eq, Lib.size_eq]
    split <;> simp
  · have hp2 : Lib.hasPrefix s.data.toList p.data.toList = true := hp
    refine bs_ext ?_
    rw [bs_mk, Lib.extract_toList]
    unfold Lib.trimPrefix
    rw [if_pos hp2, List.take_of_length_le (by rw [List.length_drop, ← Lib.size_eq]; exact Nat.le_refl _), Lib.size_eq]
/-- the reference's line -/
def lineF (p s : ByteArray) : ByteArray × ByteArray × Bool :=
  if pfxB p s = true then
    if (cutB (s.extract p.size s.size)).2.2 = true then cutB (s.extract p.size s.size) else (⟨#[]⟩, ⟨#[]⟩, false)
  else (⟨#[]⟩, ⟨#[]⟩, false)
end Go.Proofs.YteamnofooicbeaaDoor
