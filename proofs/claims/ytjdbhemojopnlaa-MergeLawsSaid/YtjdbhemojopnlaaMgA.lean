/- Chapter 52: letters and names. -/
import Derived.Test.YtjdbhemojopnlaaProg
import Derived.Test.YtjdbhemojopnlaaKit
import Derived.Test.YtjdbhemojopnlaaBase
import Derived.Handy
import Derived.Deep.CutBlock
import Derived.Deep.DeepCutAuto
namespace Go.Proofs.Ytjdbhemojopnlaa
open Go.RowKit
def letB (b : Nat) : Bool := decide (97 ≤ b ∧ b ≤ 122 ∨ 65 ≤ b ∧ b ≤ 90 ∨ 48 ≤ b ∧ b ≤ 57 ∨ b = 45)
set_option maxRecDepth 100000 in
theorem letter_any (b : Nat) (w : World) : Calls Try.prog 49 #[.int .u8 b] w fun e w' => e = .returned (.bool (letB b)) ∧ w = w' := by
  go_enter Try.func49, Try.ntmps49
  go_wp2_with fail
  all_goals go_ret
  all_goals refine ⟨ret_bool ?_, rfl⟩
  all_goals (unfold letB; rw [Bool.eq_iff_iff]; simp only [Bool.or_eq_true, decide_eq_true_eq, beq_iff_eq, true_iff]; omega)
def nmB (s : ByteArray) : Bool := decide (∀ i, (h : i < s.size) → letB (s[i]'h).toNat = true) && (decide (1 ≤ s.size) && decide (s.size ≤ 32))
theorem nmB_no {s : ByteArray} (k : Nat) (h : k < s.size) (hb : letB (s[k]'h).toNat = false) : nmB s = false := by
  unfold nmB
  rw [decide_eq_false (fun hh => by have := hh k h; rw [hb] at this; cases this)]
  rfl
theorem nmB_yes {s : ByteArray} (hall : ∀ i, (h : i < s.size) → letB (s[i]'h).toNat = true) : nmB s = (decide (1 ≤ s.size) && decide (s.size ≤ 32)) := by
  unfold nmB
  rw [decide_eq_true hall]
  rfl
set_option maxRecDepth 100000 in
theorem name_any (s : ByteArray) (hs : (s.size : Int) ≤ 9223372036854775807) (w : World) : Calls Try.prog 42 #[.string s] w fun e w' => e = .returned (.bool (nmB s)) ∧ w = w' := by
  go_enter Try.func42, Try.ntmps42
  go_wp2_with fail
  go_loopw [6] (fun i wr => ∃ k : Nat, k ≤ s.size ∧ i = .int .i64 k ∧ wr = w ∧ ∀ i, (h : i < s.size) → i < k → letB (s[i]'h).toNat = true) (fun i _ => s.size - (intOf i).toNat)
  case atStart => exact ⟨0, by omega, rfl, rfl, fun i _ h => by omega⟩
  case round =>
    obtain ⟨k, hk, rfl, rfl, hall⟩ := hrel
    by_cases hlt : k < s.size
    · have hki : (k : Int) < (s.size : Int) := by omega
      have HALL := Lib.hid hall
      have HB := Lib.hid (fun hb => nmB_no k hlt hb)
      clear hall
      cases hb : letB (s[k]'hlt).toNat with
      | false =>
        have hn := Lib.hid (HB.out hb)
        have HLT := Lib.hid (letter_any (s[k]'hlt).toNat wr)
        rw [hb] at HLT
        clear hb HB
        go_wp2_with (go_at_call 49; refine HLT.out.mono ?_; rintro e w' ⟨rfl, rfl⟩)
        go_ret
        exact ⟨by rw [hn.out]; rfl, rfl⟩
      | true =>
        have HLT := Lib.hid (letter_any (s[k]'hlt).toNat wr)
        rw [hb] at HLT
        have HN := Lib.hid (show ∀ i, (h : i < s.size) → i < k + 1 → letB (s[i]'h).toNat = true from fun i h hi => by
          by_cases e : i = k
          · subst e; exact hb
          · exact HALL.out i h (by omega))
        clear hb HB
        go_wp2_with (go_at_call 49; refine HLT.out.mono ?_; rintro e w' ⟨rfl, rfl⟩)
        go_roundw
        case rel => exact ⟨k + 1, hlt, by go_num, by first | rfl | trivial, HN.out⟩
        case measure => simp [intOf]; omega
    · obtain rfl : k = s.size := by omega
      have HY := Lib.hid (nmB_yes fun i h => hall i h h)
      clear hall
      go_wp2_with fail
      all_goals go_ret
      all_goals exact ⟨ret_bool (by rw [HY.out, Bool.eq_iff_iff]; simp; omega), rfl⟩
set_option maxRecDepth 100000 in
set_option maxHeartbeats 4000000 in
theorem named_any (s : ByteArray) (hs : (s.size : Int) ≤ 9223372036854775807) (w : World) : Calls Try.prog 43 #[.string s] w fun e w' => e = .returned (.bool (nmB s)) ∧ w = w' := by
  go_enter Try.func43, Try.ntmps43
  go_wp2_with fail
  go_loopw [7] (fun i wr => ∃ k : Nat, k ≤ s.size ∧ i = .int .i64 k ∧ wr = w ∧ ∀ i, (h : i < s.size) → i < k → letB (s[i]'h).toNat = true) (fun i _ => s.size - (intOf i).toNat)
  case atStart => exact ⟨0, by omega, rfl, rfl, fun i _ h => by omega⟩
  case round =>
    obtain ⟨k, hk, rfl, rfl, hall⟩ := hrel
    by_cases hlt : k < s.size
    · have hki : (k : Int) < (s.size : Int) := by omega
      have HALL := Lib.hid hall
      have HNO := Lib.hid (fun hb => nmB_no k hlt hb)
      have HN := Lib.hid (fun (hb : letB (s[k]'hlt).toNat = true) => show ∀ i, (h : i < s.size) → i < k + 1 → letB (s[i]'h).toNat = true from fun i h hi => by
        by_cases e : i = k
        · subst e; exact hb
        · exact HALL.out i h (by omega))
      clear hall
      have h45 : ((((s[k]'hlt).toNat : Nat) : Int) == 45) = true ∨ ((((s[k]'hlt).toNat : Nat) : Int) == 45) = false := by cases ((((s[k]'hlt).toNat : Nat) : Int) == 45) <;> simp
      rcases h45 with h45 | h45
      all_goals have H45 := Lib.hid h45
      all_goals go_wp2_with fail
      all_goals have h46 := H45.out
      all_goals simp only [beq_iff_eq, beq_eq_false_iff_ne] at h46
      all_goals first
        | (refine ⟨⟨k + 1, hlt, by go_num, by first | rfl | trivial, HN.out ?_⟩, by simp [intOf]; omega⟩; unfold letB; rw [decide_eq_true_eq]; omega)
        | (exfalso; rename_i h9; simp only [Bool.not_eq_eq_eq_not, Bool.not_false, decide_eq_true_eq] at h9; omega)
        | (go_ret; refine ⟨ret_bool ?_, rfl⟩; rw [HNO.out ?_]; unfold letB; rw [decide_eq_false_iff_not]; omega)
    · obtain rfl : k = s.size := by omega
      have HY := Lib.hid (nmB_yes fun i h => hall i h h)
      clear hall
      go_wp2_with fail
      all_goals go_ret
      all_goals exact ⟨ret_bool (by rw [HY.out, Bool.eq_iff_iff]; simp; omega), rfl⟩
end Go.Proofs.Ytjdbhemojopnlaa
