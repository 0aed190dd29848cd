/- Chapter 09: control bytes, trimmed strings, the parts of a list. -/
import Derived.Test.YteamnofooicbeaaDoorRgD
namespace Go.Proofs.YteamnofooicbeaaDoor
open Go.RowKit
def ctl (c : Nat) : Bool := (decide (c < 32) && !decide (c = 9)) || decide (c = 127)
def cleanF (s : ByteArray) : Bool := decide (∀ i, i < s.size → ctl (byt s i) = false)
theorem cleanF_no {s : ByteArray} {k : Nat} (h : k < s.size) (hb : ctl (byt s k) = true) : cleanF s = false := by
  unfold cleanF
  rw [decide_eq_false_iff_not]
  intro hh
  rw [hh k h] at hb
  cases hb
set_option maxRecDepth 100000 in
theorem control_any (c : Nat) (hc : c < 256) (w : World) : Calls Tryd.prog 118 #[.int .u8 c] w fun e w' => e = .returned (.bool (ctl c)) ∧ w = w' := by
  have hcs : (c < 32 ∧ c ≠ 9) ∨ (c = 9) ∨ (32 ≤ c ∧ c = 127) ∨ (32 ≤ c ∧ c ≠ 127) := by omega
  rcases hcs with ⟨h1, h2⟩ | h1 | ⟨h1, h2⟩ | ⟨h1, h2⟩
  · have HR : Hid (ctl c = true) := Lib.hid (by unfold ctl; simp [h1, h2])
    have h1' : (c : Int) < 32 := by omega
    have h2' : ((c : Int) != 9) = true := by simp; omega
    clear h1 h2
    go_enter Tryd.func118, Tryd.ntmps118
    go_wp2_with fail
    go_ret
    exact ⟨by rw [HR.out]; rfl, rfl⟩
  · subst h1
    go_enter Tryd.func118, Tryd.ntmps118
    go_wp2_with fail
    go_ret
    exact ⟨rfl, rfl⟩
  · subst h2
    go_enter Tryd.func118, Tryd.ntmps118
    go_wp2_with fail
    go_ret
    exact ⟨rfl, rfl⟩
  · have HR : Hid (ctl c = false) := Lib.hid (by unfold ctl; simp [h2]; omega)
    have h1' : ¬ (c : Int) < 32 := by omega
    have h2' : ((c : Int) == 127) = false := by simp; omega
    clear h1 h2
    go_enter Tryd.func118, Tryd.ntmps118
    go_wp2_with fail
    go_ret
    exact ⟨by rw [HR.out]; rfl, rfl⟩
set_option maxRecDepth 100000 in
theorem clean_any (s : ByteArray) (hs : (s.size : Int) ≤ 9223372036854775807) (w : World) : Calls Tryd.prog 89 #[.string s] w fun e w' => e = .returned (.bool (cleanF s)) ∧ w = w' := by
  go_enter Tryd.func89, Tryd.ntmps89
  go_wp2_with fail
  go_loopw [6] (fun i wr => ∃ k : Nat, k ≤ s.size ∧ i = .int .i64 k ∧ w = wr ∧ Hid (∀ i, i < k → ctl (byt s i) = false)) (fun i _ => s.size - (intOf i).toNat)
  case atStart => exact ⟨0, by omega, rfl, rfl, Lib.hid (fun i hi => by omega)⟩
  case round =>
    obtain ⟨k, hk, rfl, rfl, HA⟩ := hrel
    by_cases hlt : k < s.size
    · have hki : (k : Int) < (s.size : Int) := by omega
      obtain ⟨c, hc⟩ : ∃ c, (s[k]'hlt).toNat = c := ⟨_, rfl⟩
      have hcb : byt s k = c := by rw [byt_is hlt]; exact hc
      have HC := Lib.hid hcb
      have hc256 : c < 256 := by rw [← hcb]; exact byt_lt s k
      have HNO := Lib.hid (fun hb => cleanF_no (s := s) hlt hb)
      have HCT := Lib.hid (fun W => control_any c hc256 W)
      obtain ⟨x, hx⟩ : ∃ x, ctl c = x := ⟨_, rfl⟩
      rw [hx] at HCT
      have HX := Lib.hid hx
      clear hcb hx hc256
      cases x with
      | true =>
        go_wp2_with (go_at_call 118; refine (HCT.out _).mono ?_; rintro e w' ⟨rfl, rfl⟩)
        go_ret
        exact ⟨by rw [HNO.out (by rw [HC.out]; exact HX.out)]; rfl, rfl⟩
      | false =>
        go_wp2_with (go_at_call 118; refine (HCT.out _).mono ?_; rintro e w' ⟨rfl, rfl⟩)
        go_roundw
        case rel =>
          refine ⟨k + 1, by omega, by go_num, by first | rfl | trivial, Lib.hid (fun i hi => ?_)⟩
          by_cases e : i = k
          · subst e; rw [HC.out]; exact HX.out
          · exact HA.out i (by omega)
        case measure => simp [intOf]; omega
    · obtain rfl : k = s.size := by omega
      have HD : Hid (cleanF s = true) := Lib.hid (decide_eq_true HA.out)
      go_wp2_with fail
      go_ret
      exact ⟨by rw [HD.out]; rfl, rfl⟩
set_option maxRecDepth 100000 in
set_option maxHeartbeats 1000000 in
theorem rcontrol_any (s : ByteArray) (hs : (s.size : Int) ≤ 9223372036854775807) (w : World) : Calls Tryd.prog 91 #[.string s] w fun e w' => e = .returned (.bool (!cleanF s)) ∧ w = w' := by
  go_enter Tryd.func91, Tryd.ntmps91
  go_wp2_with fail
  go_loopw [6] (fun i wr => ∃ k : Nat, k ≤ s.size ∧ i = .int .i64 k ∧ w = wr ∧ Hid (∀ i, i < k → ctl (byt s i) = false)) (fun i _ => s.size - (intOf i).toNat)
  case atStart => exact ⟨0, by omega, rfl, rfl, Lib.hid (fun i hi => by omega)⟩
  case round =>
    obtain ⟨k, hk, rfl, rfl, HA⟩ := hrel
    by_cases hlt : k < s.size
    · have hki : (k : Int) < (s.size : Int) := by omega
      obtain ⟨c, hc⟩ : ∃ c, (s[k]'hlt).toNat = c := ⟨_, rfl⟩
      have hcb : byt s k = c := by rw [byt_is hlt]; exact hc
      have HC := Lib.hid hcb
      have HNO := Lib.hid (fun hb => cleanF_no (s := s) hlt hb)
      have HGO : Hid (ctl c = false → ∀ i, i < k + 1 → ctl (byt s i) = false) := Lib.hid (fun hcf i hi => by
        by_cases e : i = k
        · subst e; rw [HC.out]; exact hcf
        · exact HA.out i (by omega))
      clear hcb
      have hcs : (c < 32 ∧ c ≠ 9) ∨ (c < 32 ∧ c = 9) ∨ (32 ≤ c ∧ c = 127) ∨ (32 ≤ c ∧ c ≠ 127) := by omega
      rcases hcs with ⟨h1, h2⟩ | ⟨h1, h2⟩ | ⟨h1, h2⟩ | ⟨h1, h2⟩
      · have HR : Hid (ctl c = true) := Lib.hid (by unfold ctl; simp [h1, h2])
        have h1' : (c : Int) < 32 := by omega
        have h2' : ((c : Int) != 9) = true := by simp; omega
        clear h1 h2
        go_wp2_with fail
        go_ret
        exact ⟨by rw [HNO.out (by rw [HC.out]; exact HR.out)]; rfl, rfl⟩
      · have HR : Hid (ctl c = false) := Lib.hid (by rw [h2]; rfl)
        have h1' : (c : Int) < 32 := by omega
        have h2' : ((c : Int) != 9) = false := by simp; omega
        have h3' : ((c : Int) == 127) = false := by simp; omega
        clear h1 h2
        go_wp2_with fail
        go_roundw
        case rel => exact ⟨k + 1, by omega, by go_num, by first | rfl | trivial, Lib.hid (HGO.out HR.out)⟩
        case measure => simp [intOf]; omega
      · have HR : Hid (ctl c = true) := Lib.hid (by rw [h2]; rfl)
        have h1' : ¬ (c : Int) < 32 := by omega
        have h3' : ((c : Int) == 127) = true := by simp; omega
        clear h1 h2
        go_wp2_with fail
        go_ret
        exact ⟨by rw [HNO.out (by rw [HC.out]; exact HR.out)]; rfl, rfl⟩
      · have HR : Hid (ctl c = false) := Lib.hid (by unfold ctl; simp [h2]; omega)
        have h1' : ¬ (c : Int) < 32 := by omega
        have h3' : ((c : Int) == 127) = false := by simp; omega
        clear h1 h2
        go_wp2_with fail
        go_roundw
        case rel => exact ⟨k + 1, by omega, by go_num, by first | rfl | trivial, Lib.hid (HGO.out HR.out)⟩
        case measure => simp [intOf]; omega
    · obtain rfl : k = s.size := by omega
      have HD : Hid (cleanF s = true) := Lib.hid (decide_eq_true HA.out)
      go_wp2_with fail
      go_ret
      exact ⟨by rw [HD.out]; rfl, rfl⟩
/-! ### Trim -/
def trimF (s : ByteArray) : ByteArray := ⟨(Lib.trimS s.data.toList [32, 9]).toArray⟩
theorem strim_any (s : ByteArray) (hs : s.size ≤ 9223372036854775807) (w : World) :
    Calls Tryd.prog 81 #[.string s, .string ⟨#[32, 9]⟩] w fun e w' => e = .returned (.string (trimF s)) ∧ Ext w w' :=
  Any.strings_Trim_laid Tryd.lays160 (by kernel_rfl) s ⟨#[32, 9]⟩ w hs (by decide) (ascii_of_all (by decide))
theorem trimF_size (s : ByteArray) : (trimF s).size ≤ s.size := by
  unfold trimF Lib.trimS Lib.trimLeftS Lib.trimRightS
  rw [Lib.size_eq, Lib.size_eq]
  have h1 : ∀ (p : UInt8 → Bool) (l : List UInt8), (l.dropWhile p).length ≤ l.length := fun p l => (List.dropWhile_sublist p).length_le
  have h2 := h1 (([32, 9] : List UInt8).contains ·) (s.data.toList.reverse.dropWhile (([32, 9] : List UInt8).contains ·)).reverse
  have h3 := h1 (([32, 9] : List UInt8).contains ·) s.data.toList.reverse
  simp only [List.length_reverse] at h2 h3
  exact Nat.le_trans h2 h3
end Go.Proofs.YteamnofooicbeaaDoor
