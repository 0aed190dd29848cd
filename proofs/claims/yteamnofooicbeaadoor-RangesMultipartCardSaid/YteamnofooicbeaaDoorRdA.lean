/- Chapter 09: what may be a boundary (program and reference). -/
import Derived.Test.YteamnofooicbeaaDoorRgF
namespace Go.Proofs.YteamnofooicbeaaDoor
open Go.RowKit
def alB (c : Nat) : Prop := (48 ≤ c ∧ c ≤ 57) ∨ (97 ≤ c ∧ c ≤ 122) ∨ (65 ≤ c ∧ c ≤ 90)
instance (c : Nat) : Decidable (alB c) := by unfold alB; infer_instance
def bndF (s : ByteArray) : Bool := decide ((∀ i, i < s.size → alB (byt s i)) ∧ 1 ≤ s.size ∧ s.size ≤ 40)
theorem bnd_no {s : ByteArray} {k : Nat} (h : k < s.size) (hb : ¬ alB (byt s k)) : bndF s = false := decide_eq_false (fun hh => hb (hh.1 k h))
set_option maxRecDepth 100000 in
set_option maxHeartbeats 1000000 in
theorem delimiter_any (s : ByteArray) (hs : (s.size : Int) ≤ 9223372036854775807) (w : World) :
    Calls Tryd.prog 56 #[.string s] w fun e w' => e = .returned (.bool (bndF s)) ∧ w = w' := by
  go_enter Tryd.func56, Tryd.ntmps56
  go_wp2_with fail
  go_loopw [7] (fun i wr => ∃ k : Nat, k ≤ s.size ∧ i = .int .i64 k ∧ w = wr ∧ Hid (∀ i, i < k → alB (byt s i))) (fun i _ => s.size - (intOf i).toNat)
  case atStart => exact ⟨0, by omega, rfl, rfl, Lib.hid (fun i hi => by omega)⟩
  case round =>
    obtain ⟨k, hk, rfl, rfl, HA⟩ := hrel
    by_cases hlt : k < s.size
    · have hki : (k : Int) < (s.size : Int) := by omega
      obtain ⟨c, hc⟩ : ∃ c, (s[k]'hlt).toNat = c := ⟨_, rfl⟩
      have hcb : byt s k = c := by rw [byt_is hlt]; exact hc
      have HC := Lib.hid hcb
      have HNO := Lib.hid (fun hb => bnd_no (s := s) hlt hb)
      clear hcb
      rcases (show (c < 48) ∨ (48 ≤ c ∧ c ≤ 57) ∨ (58 ≤ c ∧ c ≤ 64) ∨ (65 ≤ c ∧ c ≤ 90) ∨ (91 ≤ c ∧ c ≤ 96) ∨ (97 ≤ c ∧ c ≤ 122) ∨ (123 ≤ c) by omega) with h1 | h1 | h1 | h1 | h1 | h1 | h1
      · have p0 : (c : Int) < 48 := by omega
        have p1 : ¬ (57 : Int) < (c : Int) := by omega
        have p2 : (c : Int) < 97 := by omega
        have p3 : ¬ (122 : Int) < (c : Int) := by omega
        have p4 : (c : Int) < 65 := by omega
        have p5 : ¬ (90 : Int) < (c : Int) := by omega
        have HX : Hid (¬ alB c) := Lib.hid (by unfold alB; omega)
        clear h1
        go_wp2_with fail
        go_ret
        exact ⟨by rw [HNO.out (by rw [HC.out]; exact HX.out)]; rfl, rfl⟩
      · have p0 : ¬ (c : Int) < 48 := by omega
        have p1 : ¬ (57 : Int) < (c : Int) := by omega
        have p2 : (c : Int) < 97 := by omega
        have p3 : ¬ (122 : Int) < (c : Int) := by omega
        have p4 : (c : Int) < 65 := by omega
        have p5 : ¬ (90 : Int) < (c : Int) := by omega
        have HX : Hid (alB c) := Lib.hid (by unfold alB; omega)
        clear h1
        go_wp2_with fail
        go_roundw
        case rel =>
          refine ⟨k + 1, by omega, by go_num, by first | rfl | trivial, Lib.hid (fun i hi => ?_)⟩
          by_cases e : i = k
          · subst e; rw [HC.out]; exact HX.out
          · exact HA.out i (by omega)
        case measure => simp [intOf]; omega
      · have p0 : ¬ (c : Int) < 48 := by omega
        have p1 : (57 : Int) < (c : Int) := by omega
        have p2 : (c : Int) < 97 := by omega
        have p3 : ¬ (122 : Int) < (c : Int) := by omega
        have p4 : (c : Int) < 65 := by omega
        have p5 : ¬ (90 : Int) < (c : Int) := by omega
        have HX : Hid (¬ alB c) := Lib.hid (by unfold alB; omega)
        clear h1
        go_wp2_with fail
        go_ret
        exact ⟨by rw [HNO.out (by rw [HC.out]; exact HX.out)]; rfl, rfl⟩
      · have p0 : ¬ (c : Int) < 48 := by omega
        have p1 : (57 : Int) < (c : Int) := by omega
        have p2 : (c : Int) < 97 := by omega
        have p3 : ¬ (122 : Int) < (c : Int) := by omega
        have p4 : ¬ (c : Int) < 65 := by omega
        have p5 : ¬ (90 : Int) < (c : Int) := by omega
        have HX : Hid (alB c) := Lib.hid (by unfold alB; omega)
        clear h1
        go_wp2_with fail
        go_roundw
        case rel =>
          refine ⟨k + 1, by omega, by go_num, by first | rfl | trivial, Lib.hid (fun i hi => ?_)⟩
          by_cases e : i = k
          · subst e; rw [HC.out]; exact HX.out
          · exact HA.out i (by omega)
        case measure => simp [intOf]; omega
      · have p0 : ¬ (c : Int) < 48 := by omega
        have p1 : (57 : Int) < (c : Int) := by omega
        have p2 : (c : Int) < 97 := by omega
        have p3 : ¬ (122 : Int) < (c : Int) := by omega
        have p4 : ¬ (c : Int) < 65 := by omega
        have p5 : (90 : Int) < (c : Int) := by omega
        have HX : Hid (¬ alB c) := Lib.hid (by unfold alB; omega)
        clear h1
        go_wp2_with fail
        go_ret
        exact ⟨by rw [HNO.out (by rw [HC.out]; exact HX.out)]; rfl, rfl⟩
      · have p0 : ¬ (c : Int) < 48 := by omega
        have p1 : (57 : Int) < (c : Int) := by omega
        have p2 : ¬ (c : Int) < 97 := by omega
        have p3 : ¬ (122 : Int) < (c : Int) := by omega
        have p4 : ¬ (c : Int) < 65 := by omega
        have p5 : (90 : Int) < (c : Int) := by omega
        have HX : Hid (alB c) := Lib.hid (by unfold alB; omega)
        clear h1
        go_wp2_with fail
        go_roundw
        case rel =>
          refine ⟨k + 1, by omega, by go_num, by first | rfl | trivial, Lib.hid (fun i hi => ?_)⟩
          by_cases e : i = k
          · subst e; rw [HC.out]; exact HX.out
          · exact HA.out i (by omega)
        case measure => simp [intOf]; omega
      · have p0 : ¬ (c : Int) < 48 := by omega
        have p1 : (57 : Int) < (c : Int) := by omega
        have p2 : ¬ (c : Int) < 97 := by omega
        have p3 : (122 : Int) < (c : Int) := by omega
        have p4 : ¬ (c : Int) < 65 := by omega
        have p5 : (90 : Int) < (c : Int) := by omega
        have HX : Hid (¬ alB c) := Lib.hid (by unfold alB; omega)
        clear h1
        go_wp2_with fail
        go_ret
        exact ⟨by rw [HNO.out (by rw [HC.out]; exact HX.out)]; rfl, rfl⟩
    · obtain rfl : k = s.size := by omega
      by_cases h1 : 1 ≤ s.size
      · have h1' : (1 : Int) ≤ (s.size : Int) := by omega
        by_cases h2 : s.size ≤ 40
        · have h2' : (s.size : Int) ≤ 40 := by omega
          have HF : Hid (bndF s = true) := Lib.hid (decide_eq_true ⟨HA.out, h1, h2⟩)
          go_wp2_with fail
          go_ret
          exact ⟨by rw [HF.out]; rfl, rfl⟩
        · have h2' : ¬ (s.size : Int) ≤ 40 := by omega
          have HF : Hid (bndF s = false) := Lib.hid (decide_eq_false (fun h => h2 h.2.2))
          go_wp2_with fail
          go_ret
          exact ⟨by rw [HF.out]; rfl, rfl⟩
      · have h1' : ¬ (1 : Int) ≤ (s.size : Int) := by omega
        have HF : Hid (bndF s = false) := Lib.hid (decide_eq_false (fun h => h1 h.2.1))
        go_wp2_with fail
        go_ret
        exact ⟨by rw [HF.out]; rfl, rfl⟩
set_option maxRecDepth 100000 in
set_option maxHeartbeats 1000000 in
theorem rboundary_any (s : ByteArray) (hs : (s.size : Int) ≤ 9223372036854775807) (w : World) :
    Calls Tryd.prog 61 #[.string s] w fun e w' => e = .returned (.bool (bndF s)) ∧ w = w' := by
  go_enter Tryd.func61, Tryd.ntmps61
  go_wp2_with fail
  go_loopw [7] (fun i wr => ∃ k : Nat, k ≤ s.size ∧ i = .int .i64 k ∧ w = wr ∧ Hid (∀ i, i < k → alB (byt s i))) (fun i _ => s.size - (intOf i).toNat)
  case atStart => exact ⟨0, by omega, rfl, rfl, Lib.hid (fun i hi => by omega)⟩
  case round =>
    obtain ⟨k, hk, rfl, rfl, HA⟩ := hrel
    by_cases hlt : k < s.size
    · have hki : (k : Int) < (s.size : Int) := by omega
      obtain ⟨c, hc⟩ : ∃ c, (s[k]'hlt).toNat = c := ⟨_, rfl⟩
      have hcb : byt s k = c := by rw [byt_is hlt]; exact hc
      have HC := Lib.hid hcb
      have HNO := Lib.hid (fun hb => bnd_no (s := s) hlt hb)
      clear hcb
      rcases (show (c < 48) ∨ (48 ≤ c ∧ c ≤ 57) ∨ (58 ≤ c ∧ c ≤ 64) ∨ (65 ≤ c ∧ c ≤ 90) ∨ (91 ≤ c ∧ c ≤ 96) ∨ (97 ≤ c ∧ c ≤ 122) ∨ (123 ≤ c) by omega) with h1 | h1 | h1 | h1 | h1 | h1 | h1
      · have p0 : ¬ (48 : Int) ≤ (c : Int) := by omega
        have p1 : (c : Int) ≤ 57 := by omega
        have p2 : ¬ (97 : Int) ≤ (c : Int) := by omega
        have p3 : (c : Int) ≤ 122 := by omega
        have p4 : ¬ (65 : Int) ≤ (c : Int) := by omega
        have p5 : (c : Int) ≤ 90 := by omega
        have HX : Hid (¬ alB c) := Lib.hid (by unfold alB; omega)
        clear h1
        go_wp2_with fail
        go_ret
        exact ⟨by rw [HNO.out (by rw [HC.out]; exact HX.out)]; rfl, rfl⟩
      · have p0 : (48 : Int) ≤ (c : Int) := by omega
        have p1 : (c : Int) ≤ 57 := by omega
        have p2 : ¬ (97 : Int) ≤ (c : Int) := by omega
        have p3 : (c : Int) ≤ 122 := by omega
        have p4 : ¬ (65 : Int) ≤ (c : Int) := by omega
        have p5 : (c : Int) ≤ 90 := by omega
        have HX : Hid (alB c) := Lib.hid (by unfold alB; omega)
        clear h1
        go_wp2_with fail
        go_roundw
        case rel =>
          refine ⟨k + 1, by omega, by go_num, by first | rfl | trivial, Lib.hid (fun i hi => ?_)⟩
          by_cases e : i = k
          · subst e; rw [HC.out]; exact HX.out
          · exact HA.out i (by omega)
        case measure => simp [intOf]; omega
      · have p0 : (48 : Int) ≤ (c : Int) := by omega
        have p1 : ¬ (c : Int) ≤ 57 := by omega
        have p2 : ¬ (97 : Int) ≤ (c : Int) := by omega
        have p3 : (c : Int) ≤ 122 := by omega
        have p4 : ¬ (65 : Int) ≤ (c : Int) := by omega
        have p5 : (c : Int) ≤ 90 := by omega
        have HX : Hid (¬ alB c) := Lib.hid (by unfold alB; omega)
        clear h1
        go_wp2_with fail
        go_ret
        exact ⟨by rw [HNO.out (by rw [HC.out]; exact HX.out)]; rfl, rfl⟩
      · have p0 : (48 : Int) ≤ (c : Int) := by omega
        have p1 : ¬ (c : Int) ≤ 57 := by omega
        have p2 : ¬ (97 : Int) ≤ (c : Int) := by omega
        have p3 : (c : Int) ≤ 122 := by omega
        have p4 : (65 : Int) ≤ (c : Int) := by omega
        have p5 : (c : Int) ≤ 90 := by omega
        have HX : Hid (alB c) := Lib.hid (by unfold alB; omega)
        clear h1
        go_wp2_with fail
        go_roundw
        case rel =>
          refine ⟨k + 1, by omega, by go_num, by first | rfl | trivial, Lib.hid (fun i hi => ?_)⟩
          by_cases e : i = k
          · subst e; rw [HC.out]; exact HX.out
          · exact HA.out i (by omega)
        case measure => simp [intOf]; omega
      · have p0 : (48 : Int) ≤ (c : Int) := by omega
        have p1 : ¬ (c : Int) ≤ 57 := by omega
        have p2 : ¬ (97 : Int) ≤ (c : Int) := by omega
        have p3 : (c : Int) ≤ 122 := by omega
        have p4 : (65 : Int) ≤ (c : Int) := by omega
        have p5 : ¬ (c : Int) ≤ 90 := by omega
        have HX : Hid (¬ alB c) := Lib.hid (by unfold alB; omega)
        clear h1
        go_wp2_with fail
        go_ret
        exact ⟨by rw [HNO.out (by rw [HC.out]; exact HX.out)]; rfl, rfl⟩
      · have p0 : (48 : Int) ≤ (c : Int) := by omega
        have p1 : ¬ (c : Int) ≤ 57 := by omega
        have p2 : (97 : Int) ≤ (c : Int) := by omega
        have p3 : (c : Int) ≤ 122 := by omega
        have p4 : (65 : Int) ≤ (c : Int) := by omega
        have p5 : ¬ (c : Int) ≤ 90 := by omega
        have HX : Hid (alB c) := Lib.hid (by unfold alB; omega)
        clear h1
        go_wp2_with fail
        go_roundw
        case rel =>
          refine ⟨k + 1, by omega, by go_num, by first | rfl | trivial, Lib.hid (fun i hi => ?_)⟩
          by_cases e : i = k
          · subst e; rw [HC.out]; exact HX.out
          · exact HA.out i (by omega)
        case measure => simp [intOf]; omega
      · have p0 : (48 : Int) ≤ (c : Int) := by omega
        have p1 : ¬ (c : Int) ≤ 57 := by omega
        have p2 : (97 : Int) ≤ (c : Int) := by omega
        have p3 : ¬ (c : Int) ≤ 122 := by omega
        have p4 : (65 : Int) ≤ (c : Int) := by omega
        have p5 : ¬ (c : Int) ≤ 90 := by omega
        have HX : Hid (¬ alB c) := Lib.hid (by unfold alB; omega)
        clear h1
        go_wp2_with fail
        go_ret
        exact ⟨by rw [HNO.out (by rw [HC.out]; exact HX.out)]; rfl, rfl⟩
    · obtain rfl : k = s.size := by omega
      by_cases h1 : 1 ≤ s.size
      · have h1' : (1 : Int) ≤ (s.size : Int) := by omega
        by_cases h2 : s.size ≤ 40
        · have h2' : (s.size : Int) ≤ 40 := by omega
          have HF : Hid (bndF s = true) := Lib.hid (decide_eq_true ⟨HA.out, h1, h2⟩)
          go_wp2_with fail
          go_ret
          exact ⟨by rw [HF.out]; rfl, rfl⟩
        · have h2' : ¬ (s.size : Int) ≤ 40 := by omega
          have HF : Hid (bndF s = false) := Lib.hid (decide_eq_false (fun h => h2 h.2.2))
          go_wp2_with fail
          go_ret
          exact ⟨by rw [HF.out]; rfl, rfl⟩
      · have h1' : ¬ (1 : Int) ≤ (s.size : Int) := by omega
        have HF : Hid (bndF s = false) := Lib.hid (decide_eq_false (fun h => h1 h.2.1))
        go_wp2_with fail
        go_ret
        exact ⟨by rw [HF.out]; rfl, rfl⟩
end Go.Proofs.YteamnofooicbeaaDoor
