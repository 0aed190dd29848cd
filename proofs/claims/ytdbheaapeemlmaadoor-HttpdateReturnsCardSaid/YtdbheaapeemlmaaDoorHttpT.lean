/- The texts of dates, plainly: what stands where. -/
import Derived.Test.YtdbheaapeemlmaaDoorHttpB
namespace Go.Proofs.YtdbheaapeemlmaaDoor
open Go.RowKit

/-- the last of the first k months whose three letters these are; 0: none -/
def moK (t : ByteArray) : Nat → Int
  | 0 => 0
  | k + 1 => if (t.toList == (moS k).toList) = true then (k : Int) + 1 else moK t k
theorem moK_bd (t : ByteArray) : ∀ k, 0 ≤ moK t k ∧ moK t k ≤ k
  | 0 => by simp [moK]
  | k + 1 => by have := moK_bd t k; unfold moK; split <;> omega

theorem moK_hit {t : ByteArray} {k : Nat} (h : (t.toList == (moS k).toList) = true) : moK t (k + 1) = (k : Int) + 1 := by unfold moK; rw [if_pos h]
theorem moK_miss {t : ByteArray} {k : Nat} (h : (t.toList == (moS k).toList) = false) : moK t (k + 1) = moK t k := by
  rw [moK, if_neg (by rw [h]; exact Bool.false_ne_true)]
theorem numS_bd (t : ByteArray) (x : Int) (h : Hid (numS t = x)) : -1 ≤ x ∧ x ≤ 99 := by
  rw [← h.out]; unfold numS num2; split <;> (try split) <;> omega

/-- s is the date text of second n -/
def IsText (s : ByteArray) (n : Int) : Prop :=
  0 ≤ n ∧ n ≤ 253402300799 ∧ ∃ y m d : Int, Cal.vldB y m d = true ∧ Cal.num y m d = n / 86400 ∧ s = fmtS (wdS (wkd (n / 86400)).toNat) (moS (m.toNat - 1)) y d (n % 86400)

theorem three (A : ByteArray) (h : A.size = 3) : ∃ a b c, A = ⟨#[a, b, c]⟩ := by
  obtain ⟨⟨l⟩⟩ := A
  have h' : l.length = 3 := by simpa [ByteArray.size] using h
  match l, h' with
  | [a, b, c], _ => exact ⟨a, b, c, rfl⟩

def dg (n : Int) : UInt8 := UInt8.ofNat (48 + n).toNat
theorem dg_toNat (n : Int) (h0 : 0 ≤ n) (h1 : n ≤ 9) : ((dg n).toNat : Int) = 48 + n := by
  unfold dg
  rw [UInt8.toNat_ofNat']
  have : (48 + n).toNat < 256 := by omega
  omega
theorem twoS_eq (n : Int) : twoS n = ⟨#[dg (n / 10), dg (n % 10)]⟩ := rfl

/-- the 29 bytes -/
def fmtL (a b c e f g : UInt8) (y d r : Int) : List UInt8 :=
  [a, b, c, 44, 32, dg (d / 10), dg (d % 10), 32, e, f, g, 32, dg (y / 100 / 10), dg (y / 100 % 10), dg (y % 100 / 10), dg (y % 100 % 10), 32,
   dg (r / 3600 / 10), dg (r / 3600 % 10), 58, dg (r / 60 % 60 / 10), dg (r / 60 % 60 % 10), 58, dg (r % 60 / 10), dg (r % 60 % 10), 32, 71, 77, 84]
theorem fmtS_eq (a b c e f g : UInt8) (y d r : Int) : fmtS ⟨#[a, b, c]⟩ ⟨#[e, f, g]⟩ y d r = ⟨(fmtL a b c e f g y d r).toArray⟩ := by
  unfold fmtS
  simp only [twoS_eq, ByteArray.mk_append_mk, List.cons_append, List.nil_append]
  rfl
theorem fmtS_size (A B : ByteArray) (y d r : Int) (hA : A.size = 3) (hB : B.size = 3) : (fmtS A B y d r).size = 29 := by
  obtain ⟨a, b, c, rfl⟩ := three A hA
  obtain ⟨e, f, g, rfl⟩ := three B hB
  rw [fmtS_eq]; rfl

theorem numS_two (x y : UInt8) : numS ⟨[x, y].toArray⟩ = num2 x y := rfl
theorem numS_dg (n : Int) (h0 : 0 ≤ n) (h1 : n ≤ 99) : numS ⟨[dg (n / 10), dg (n % 10)].toArray⟩ = n := by
  rw [numS_two]
  have e1 := dg_toNat (n / 10) (by omega) (by omega)
  have e2 := dg_toNat (n % 10) (by omega) (by omega)
  unfold num2
  rw [e1, e2, if_pos (by omega)]
  omega

theorem moK_of (m : Int) (h0 : 1 ≤ m) (h1 : m ≤ 12) : moK (moS (m.toNat - 1)) 12 = m := by
  have h : m = 1 ∨ m = 2 ∨ m = 3 ∨ m = 4 ∨ m = 5 ∨ m = 6 ∨ m = 7 ∨ m = 8 ∨ m = 9 ∨ m = 10 ∨ m = 11 ∨ m = 12 := by omega
  rcases h with rfl | rfl | rfl | rfl | rfl | rfl | rfl | rfl | rfl | rfl | rfl | rfl <;> simp [moK, moS, ByteArray.toList_eq]

/-- what the text of a second has where -/
theorem IsText.fields {s : ByteArray} {n : Int} (h : IsText s n) : s.size = 29 ∧ 0 ≤ n ∧ n ≤ 253402300799 ∧ ∃ y m d : Int, Cal.Vld y m d ∧ Cal.num y m d = n / 86400 ∧
    numS (s.extract 5 7) = d ∧ numS (s.extract 12 14) = y / 100 ∧ numS (s.extract 14 16) = y % 100 ∧ numS (s.extract 17 19) = n % 86400 / 3600 ∧ numS (s.extract 20 22) = n % 86400 / 60 % 60 ∧
    numS (s.extract 23 25) = n % 86400 % 60 ∧ moK (s.extract 8 11) 12 = m ∧ s = fmtS (wdS (wkd (n / 86400)).toNat) (moS (m.toNat - 1)) y d (n % 86400) := by
  obtain ⟨h0, h1, y, m, d, hv, hn, hs⟩ := h
  have hV := Cal.vldB_iff.1 hv
  have hs' := hs
  obtain ⟨a, b, c, hA⟩ := three (wdS (wkd (n / 86400)).toNat) (wdS_size _)
  obtain ⟨e, f, g, hB⟩ := three (moS (m.toNat - 1)) (moS_size _)
  have hm := moK_of m hV.2.2.1 hV.2.2.2.1
  rw [hA, hB, fmtS_eq] at hs
  rw [hB] at hm
  have hd := Cal.dim_hi y m
  obtain ⟨v1, v2, v3, v4, v5, v6⟩ := hV
  refine ⟨by rw [hs]; rfl, h0, h1, y, m, d, ⟨v1, v2, v3, v4, v5, v6⟩, hn, ?_, ?_, ?_, ?_, ?_, ?_, ?_, hs'⟩
  · rw [hs, ByteArray.extract_mk]; exact numS_dg d (by omega) (by omega)
  · rw [hs, ByteArray.extract_mk]; exact numS_dg (y / 100) (by omega) (by omega)
  · rw [hs, ByteArray.extract_mk]; exact numS_dg (y % 100) (by omega) (by omega)
  · rw [hs, ByteArray.extract_mk]; exact numS_dg (n % 86400 / 3600) (by omega) (by omega)
  · rw [hs, ByteArray.extract_mk]; exact numS_dg (n % 86400 / 60 % 60) (by omega) (by omega)
  · rw [hs, ByteArray.extract_mk]; exact numS_dg (n % 86400 % 60) (by omega) (by omega)
  · rw [hs, ByteArray.extract_mk]; exact hm

/-- a text is that of one second -/
theorem IsText.inj {s : ByteArray} {n k : Int} (h : IsText s n) (h' : IsText s k) : n = k := by
  obtain ⟨_, h0, h1, y, m, d, hV, hn, f1, f2, f3, f4, f5, f6, f7, _⟩ := h.fields
  obtain ⟨_, g0, g1, y', m', d', hV', hn', e1, e2, e3, e4, e5, e6, e7, _⟩ := h'.fields
  obtain rfl : d = d' := f1.symm.trans e1
  obtain rfl : m = m' := f7.symm.trans e7
  obtain rfl : y = y' := by omega
  omega

/-- a second has one text -/
theorem IsText.uniq {s t : ByteArray} {n : Int} (h : IsText s n) (h' : IsText t n) : s = t := by
  obtain ⟨_, _, y, m, d, hv, hn, hs⟩ := h
  obtain ⟨_, _, y', m', d', hv', hn', hs'⟩ := h'
  obtain ⟨rfl, rfl, rfl⟩ := Cal.num_inj (Cal.vldB_iff.1 hv) (Cal.vldB_iff.1 hv') (hn.trans hn'.symm)
  rw [hs, hs']

theorem nine (D C Y H M S : Int) : D < 0 ∨ (0 ≤ D ∧ C < 0) ∨ (0 ≤ D ∧ 0 ≤ C ∧ Y < 0) ∨ (0 ≤ D ∧ 0 ≤ C ∧ 0 ≤ Y ∧ H < 0) ∨ (0 ≤ D ∧ 0 ≤ C ∧ 0 ≤ Y ∧ 0 ≤ H ∧ 23 < H) ∨ (0 ≤ D ∧ 0 ≤ C ∧ 0 ≤ Y ∧ 0 ≤ H ∧ H ≤ 23 ∧ M < 0)
        ∨ (0 ≤ D ∧ 0 ≤ C ∧ 0 ≤ Y ∧ 0 ≤ H ∧ H ≤ 23 ∧ 0 ≤ M ∧ 59 < M) ∨ (0 ≤ D ∧ 0 ≤ C ∧ 0 ≤ Y ∧ 0 ≤ H ∧ H ≤ 23 ∧ 0 ≤ M ∧ M ≤ 59 ∧ S < 0) ∨ (0 ≤ D ∧ 0 ≤ C ∧ 0 ≤ Y ∧ 0 ≤ H ∧ H ≤ 23 ∧ 0 ≤ M ∧ M ≤ 59 ∧ 0 ≤ S ∧ 59 < S)
        ∨ (0 ≤ D ∧ 0 ≤ C ∧ 0 ≤ Y ∧ 0 ≤ H ∧ H ≤ 23 ∧ 0 ≤ M ∧ M ≤ 59 ∧ 0 ≤ S ∧ S ≤ 59) := by
  rcases Int.lt_or_le D 0 with h0 | h0
  · exact .inl h0
  refine .inr ?_
  rcases Int.lt_or_le C 0 with h1 | h1
  · exact .inl ⟨h0, h1⟩
  refine .inr ?_
  rcases Int.lt_or_le Y 0 with h2 | h2
  · exact .inl ⟨h0, h1, h2⟩
  refine .inr ?_
  rcases Int.lt_or_le H 0 with h3 | h3
  · exact .inl ⟨h0, h1, h2, h3⟩
  refine .inr ?_
  rcases Int.lt_or_le 23 H with h4 | h4
  · exact .inl ⟨h0, h1, h2, h3, h4⟩
  refine .inr ?_
  rcases Int.lt_or_le M 0 with h5 | h5
  · exact .inl ⟨h0, h1, h2, h3, h4, h5⟩
  refine .inr ?_
  rcases Int.lt_or_le 59 M with h6 | h6
  · exact .inl ⟨h0, h1, h2, h3, h4, h5, h6⟩
  refine .inr ?_
  rcases Int.lt_or_le S 0 with h7 | h7
  · exact .inl ⟨h0, h1, h2, h3, h4, h5, h6, h7⟩
  refine .inr ?_
  rcases Int.lt_or_le 59 S with h8 | h8
  · exact .inl ⟨h0, h1, h2, h3, h4, h5, h6, h7, h8⟩
  exact .inr ⟨h0, h1, h2, h3, h4, h5, h6, h7, h8⟩

/-- the fields do not fit: it is no date text -/
theorem no_text {s : ByteArray} {D C Y H M S O : Int} (hD : Hid (numS (s.extract 5 7) = D)) (hC : Hid (numS (s.extract 12 14) = C)) (hY : Hid (numS (s.extract 14 16) = Y)) (hH : Hid (numS (s.extract 17 19) = H)) (hM : Hid (numS (s.extract 20 22) = M)) (hS : Hid (numS (s.extract 23 25) = S)) (hO : Hid (moK (s.extract 8 11) 12 = O))
    (h : D < 0 ∨ C < 0 ∨ Y < 0 ∨ H < 0 ∨ 23 < H ∨ M < 0 ∨ 59 < M ∨ S < 0 ∨ 59 < S ∨ ¬ Cal.Vld (100 * C + Y) O D) : ∀ n, ¬ IsText s n := by
  intro n ht
  obtain ⟨_, h0, h1, y, m, d, hV, hn, f1, f2, f3, f4, f5, f6, f7, _⟩ := ht.fields
  have e1 := hD.out; have e2 := hC.out; have e3 := hY.out; have e4 := hH.out; have e5 := hM.out; have e6 := hS.out; have e7 := hO.out
  rw [f1] at e1; rw [f2] at e2; rw [f3] at e3; rw [f4] at e4; rw [f5] at e5; rw [f6] at e6; rw [f7] at e7
  subst e7; subst e1
  have hy : 100 * C + Y = y := by omega
  rw [hy] at h
  have hV2 := hV
  obtain ⟨v1, v2, v3, v4, v5, v6⟩ := hV
  rcases h with h | h | h | h | h | h | h | h | h | h
  all_goals first
    | exact h hV2
    | omega

/-- the fields give the second -/
theorem text_sec {s : ByteArray} {D C Y H M S O n : Int} (hD : Hid (numS (s.extract 5 7) = D)) (hC : Hid (numS (s.extract 12 14) = C)) (hY : Hid (numS (s.extract 14 16) = Y)) (hH : Hid (numS (s.extract 17 19) = H)) (hM : Hid (numS (s.extract 20 22) = M)) (hS : Hid (numS (s.extract 23 25) = S)) (hO : Hid (moK (s.extract 8 11) 12 = O))
    (ht : IsText s n) : n = 86400 * Cal.num (100 * C + Y) O D + 3600 * H + 60 * M + S := by
  obtain ⟨_, h0, h1, y, m, d, hV, hn, f1, f2, f3, f4, f5, f6, f7, _⟩ := ht.fields
  have e1 := hD.out; have e2 := hC.out; have e3 := hY.out; have e4 := hH.out; have e5 := hM.out; have e6 := hS.out; have e7 := hO.out
  rw [f1] at e1; rw [f2] at e2; rw [f3] at e3; rw [f4] at e4; rw [f5] at e5; rw [f6] at e6; rw [f7] at e7
  subst e7; subst e1
  have hy : 100 * C + Y = y := by omega
  rw [hy, hn]
  omega
end Go.Proofs.YtdbheaapeemlmaaDoor
