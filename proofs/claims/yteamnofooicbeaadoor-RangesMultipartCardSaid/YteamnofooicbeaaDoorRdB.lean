/- Chapter 09: canonical values (program's field.Value, the reference's kind). -/
import Derived.Test.YteamnofooicbeaaDoorRgF
import Derived.Handy
namespace Go.Proofs.YteamnofooicbeaaDoor
open Go.RowKit
set_option maxRecDepth 100000 in
theorem fcontrol_any (s : ByteArray) (hs : (s.size : Int) ≤ 9223372036854775807) (w : World) : Calls Tryd.prog 80 #[.string s] w fun e w' => e = .returned (.bool (!cleanF s)) ∧ w = w' := by
  go_enter Tryd.func80, Tryd.ntmps80
  go_wp2_with fail
  go_loopw [6] (fun i wr => ∃ k : Nat, k ≤ s.size ∧ i = .int .i64 k ∧ w = wr ∧ Hid (∀ i, i < k → ctl (byt s i) = false)) (fun i _ => s.size - (intOf i).toNat)
  case atStart => exact ⟨0, by omega, rfl, rfl, Lib.hid (fun i hi => by omega)⟩
  case round =>
    obtain ⟨k, hk, rfl, rfl, HA⟩ := hrel
    by_cases hlt : k < s.size
    · have hki : (k : Int) < (s.size : Int) := by omega
      obtain ⟨c, hc⟩ : ∃ c, (s[k]'hlt).toNat = c := ⟨_, rfl⟩
      have hcb : byt s k = c := by rw [byt_is hlt]; exact hc
      have HC := Lib.hid hcb
      have HNO := Lib.hid (fun hb => cleanF_no (s := s) hlt hb)
      have HGO : Hid (ctl c = false → ∀ i, i < k + 1 → ctl (byt s i) = false) := Lib.hid (fun hcf i hi => by
        by_cases e : i = k
        · subst e; rw [HC.out]; exact hcf
        · exact HA.out i (by omega))
      clear hcb
      have hcs : (c < 32 ∧ c ≠ 9) ∨ (c < 32 ∧ c = 9) ∨ (32 ≤ c ∧ c = 127) ∨ (32 ≤ c ∧ c ≠ 127) := by omega
      rcases hcs with ⟨h1, h2⟩ | ⟨h1, h2⟩ | ⟨h1, h2⟩ | ⟨h1, h2⟩
      · have HR : Hid (ctl c = true) := Lib.hid (by unfold ctl; simp [h1, h2])
        have h1' : (c : Int) < 32 := by omega
        have h2' : ((c : Int) != 9) = true := by simp; omega
        clear h1 h2
        go_wp2_with fail
        go_ret
        exact ⟨by rw [HNO.out (by rw [HC.out]; exact HR.out)]; rfl, rfl⟩
      · have HR : Hid (ctl c = false) := Lib.hid (by rw [h2]; rfl)
        have h1' : (c : Int) < 32 := by omega
        have h2' : ((c : Int) != 9) = false := by simp; omega
        have h3' : ((c : Int) == 127) = false := by simp; omega
        clear h1 h2
        go_wp2_with fail
        go_roundw
        case rel => exact ⟨k + 1, by omega, by go_num, by first | rfl | trivial, Lib.hid (HGO.out HR.out)⟩
        case measure => simp [intOf]; omega
      · have HR : Hid (ctl c = true) := Lib.hid (by rw [h2]; rfl)
        have h1' : ¬ (c : Int) < 32 := by omega
        have h3' : ((c : Int) == 127) = true := by simp; omega
        clear h1 h2
        go_wp2_with fail
        go_ret
        exact ⟨by rw [HNO.out (by rw [HC.out]; exact HR.out)]; rfl, rfl⟩
      · have HR : Hid (ctl c = false) := Lib.hid (by unfold ctl; simp [h2]; omega)
        have h1' : ¬ (c : Int) < 32 := by omega
        have h3' : ((c : Int) == 127) = false := by simp; omega
        clear h1 h2
        go_wp2_with fail
        go_roundw
        case rel => exact ⟨k + 1, by omega, by go_num, by first | rfl | trivial, Lib.hid (HGO.out HR.out)⟩
        case measure => simp [intOf]; omega
    · obtain rfl : k = s.size := by omega
      have HD : Hid (cleanF s = true) := Lib.hid (decide_eq_true HA.out)
      go_wp2_with fail
      go_ret
      exact ⟨by rw [HD.out]; rfl, rfl⟩
/-- whether a text is a canonical value -/
def kindF (s : ByteArray) : Bool := cleanF s && decide (trimF s = s ∧ s.size ≤ 2048)
theorem kind_dirty {s : ByteArray} (h : cleanF s = false) : kindF s = false := by unfold kindF; rw [h]; rfl
theorem kind_long {s : ByteArray} (h : 2048 < (trimF s).size) : kindF s = false := by
  unfold kindF
  rw [Bool.and_eq_false_iff, decide_eq_false_iff_not]
  refine .inr fun hh => ?_
  rw [hh.1] at h
  omega
theorem kind_same {s : ByteArray} (h : cleanF s = true) (h2 : ¬ 2048 < (trimF s).size) (h3 : trimF s = s) : kindF s = true := by
  unfold kindF
  rw [h, Bool.true_and, decide_eq_true_iff]
  rw [h3] at h2
  exact ⟨h3, by omega⟩
theorem kind_other {s : ByteArray} (h3 : trimF s ≠ s) : kindF s = false := by
  unfold kindF
  rw [Bool.and_eq_false_iff, decide_eq_false_iff_not]
  exact .inr fun hh => h3 hh.1
set_option maxRecDepth 100000 in
theorem fvalue_any (s : ByteArray) (hs : s.size ≤ 100000) (w : World) : Calls Tryd.prog 59 #[.string s] w fun e w' => (∃ v ev, e = .returned (.tuple #[.string v, ev]) ∧ Hid ((kindF s = true ∧ v = s ∧ ev = .nilIface) ∨ (kindF s = false ∧ (ev = errV 2 ∨ ev = errV 5 ∨ (ev = .nilIface ∧ v ≠ s))))) ∧ Ext w w' := by
  have HC := Lib.hid (fun W => fcontrol_any s (by omega) W)
  have HT := Lib.hid (fun W => strim_any s (by omega) W)
  cases hc : cleanF s with
  | false =>
    have HK := Lib.hid (kind_dirty hc)
    rw [hc] at HC
    clear hc
    go_enter Tryd.func59, Tryd.ntmps59
    go_wp2_with (go_at_call 80; refine (HC.out _).mono ?_; rintro e w1 ⟨rfl, rfl⟩)
    go_returns
    exact ⟨⟨_, _, rfl, Lib.hid (.inr ⟨HK.out, .inl rfl⟩)⟩, Ext.refl _⟩
  | true =>
    have HCC := Lib.hid hc
    rw [hc] at HC
    obtain ⟨y, hy⟩ : ∃ y, trimF s = y := ⟨_, rfl⟩
    have HY := Lib.hid hy
    rw [hy] at HT
    clear hc hy
    by_cases h1 : 2048 < y.size
    · have h1' : (2048 : Int) < (y.size : Int) := by omega
      have HK := Lib.hid (kind_long (s := s) (by rw [HY.out]; exact h1))
      clear h1
      go_enter Tryd.func59, Tryd.ntmps59
      go_wp2_with (first
        | (go_at_call 80; refine (HC.out _).mono ?_; rintro e w1 ⟨rfl, rfl⟩)
        | (go_at_call 81; refine (HT.out _).mono ?_; rintro e w2 ⟨rfl, hx2⟩))
      go_returns
      exact ⟨⟨_, _, rfl, Lib.hid (.inr ⟨HK.out, .inr (.inl rfl)⟩)⟩, hx2⟩
    · have h1' : ¬ (2048 : Int) < (y.size : Int) := by omega
      have HH := Lib.hid h1
      clear h1
      go_enter Tryd.func59, Tryd.ntmps59
      go_wp2_with (first
        | (go_at_call 80; refine (HC.out _).mono ?_; rintro e w1 ⟨rfl, rfl⟩)
        | (go_at_call 81; refine (HT.out _).mono ?_; rintro e w2 ⟨rfl, hx2⟩))
      go_returns
      refine ⟨⟨_, _, rfl, Lib.hid ?_⟩, hx2⟩
      by_cases h3 : trimF s = s
      · exact .inl ⟨kind_same HCC.out (by rw [HY.out]; exact HH.out) h3, by rw [← HY.out]; exact h3, rfl⟩
      · exact .inr ⟨kind_other h3, .inr (.inr ⟨rfl, by rw [← HY.out]; exact h3⟩)⟩
set_option maxRecDepth 100000 in
theorem rkind_any (s : ByteArray) (hs : s.size ≤ 100000) (w : World) : Calls Tryd.prog 63 #[.string s] w fun e w' => e = .returned (.bool (kindF s)) ∧ w = w' := by
  have HC := Lib.hid (fun W => rcontrol_any s (by omega) W)
  have HT := Lib.hid (fun W => rtrim_any s (by omega) W)
  have HV : Hid (∀ W, Calls Tryd.prog 83 #[.string s] W fun e w' => (∃ (v : ByteArray) (c : Int), e = .returned (.tuple #[.string v, .int .i64 c]) ∧ Hid ((kindF s = true ∧ v = s ∧ c = 0) ∨ (kindF s = false ∧ (c = 2 ∨ c = 5 ∨ (c = 0 ∧ v ≠ s))))) ∧ W = w') := Lib.hid (fun W => by
    cases hc : cleanF s with
    | false =>
      have HK := Lib.hid (kind_dirty hc)
      rw [hc] at HC
      clear hc
      go_enter Tryd.func83, Tryd.ntmps83
      go_wp2_with (go_at_call 91; refine (HC.out _).mono ?_; rintro e w1 ⟨rfl, rfl⟩)
      go_returns
      exact ⟨⟨_, _, rfl, Lib.hid (.inr ⟨HK.out, .inl rfl⟩)⟩, rfl⟩
    | true =>
      have HCC := Lib.hid hc
      rw [hc] at HC
      obtain ⟨y, hy⟩ : ∃ y, trimF s = y := ⟨_, rfl⟩
      have HY := Lib.hid hy
      rw [hy] at HT
      clear hc hy
      by_cases h1 : 2048 < y.size
      · have h1' : (2048 : Int) < (y.size : Int) := by omega
        have HK := Lib.hid (kind_long (s := s) (by rw [HY.out]; exact h1))
        clear h1
        go_enter Tryd.func83, Tryd.ntmps83
        go_wp2_with (first
          | (go_at_call 91; refine (HC.out _).mono ?_; rintro e w1 ⟨rfl, rfl⟩)
          | (go_at_call 90; refine (HT.out _).mono ?_; rintro e w2 ⟨rfl, rfl⟩))
        go_returns
        exact ⟨⟨_, _, rfl, Lib.hid (.inr ⟨HK.out, .inr (.inl rfl)⟩)⟩, rfl⟩
      · have h1' : ¬ (2048 : Int) < (y.size : Int) := by omega
        have HH := Lib.hid h1
        clear h1
        go_enter Tryd.func83, Tryd.ntmps83
        go_wp2_with (first
          | (go_at_call 91; refine (HC.out _).mono ?_; rintro e w1 ⟨rfl, rfl⟩)
          | (go_at_call 90; refine (HT.out _).mono ?_; rintro e w2 ⟨rfl, rfl⟩))
        go_returns
        refine ⟨⟨_, _, rfl, Lib.hid ?_⟩, rfl⟩
        by_cases h3 : trimF s = s
        · exact .inl ⟨kind_same HCC.out (by rw [HY.out]; exact HH.out) h3, by rw [← HY.out]; exact h3, rfl⟩
        · exact .inr ⟨kind_other h3, .inr (.inr ⟨rfl, by rw [← HY.out]; exact h3⟩)⟩)
  clear HC HT
  go_enter Tryd.func63, Tryd.ntmps63
  go_upto_region 2 with (go_at_call 83; refine (HV.out _).mono ?_; rintro e w1 ⟨⟨v, c, rfl, HK⟩, rfl⟩)
  rcases HK.out with ⟨h1, rfl, rfl⟩ | ⟨h1, rfl | rfl | ⟨rfl, h2⟩⟩
  · have hq : (v.toList == v.toList) = true := beq_self_eq_true _
    have H1 := Lib.hid h1
    clear h1
    go_wp2_with fail
    go_ret
    exact ⟨by rw [H1.out]; rfl, rfl⟩
  · have H1 := Lib.hid h1
    clear h1
    go_wp2_with fail
    go_ret
    exact ⟨by rw [H1.out]; rfl, rfl⟩
  · have H1 := Lib.hid h1
    clear h1
    go_wp2_with fail
    go_ret
    exact ⟨by rw [H1.out]; rfl, rfl⟩
  · have H1 := Lib.hid h1
    have hq : (v.toList == s.toList) = false := by rw [beq_eq_false_iff_ne]; exact fun h => h2 (bs_ext h)
    clear h1 h2
    go_wp2_with fail
    go_ret
    exact ⟨by rw [H1.out]; rfl, rfl⟩
end Go.Proofs.YteamnofooicbeaaDoor
