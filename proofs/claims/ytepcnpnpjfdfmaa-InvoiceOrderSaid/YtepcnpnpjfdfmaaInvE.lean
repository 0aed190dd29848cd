/- Walk of the specification's times: the product of two numbers up to 2^40, digit by digit. -/
import Derived.Test.YtepcnpnpjfdfmaaInvD
namespace Go.Proofs.Ytepcnpnpjfdfmaa
open Go.RowKit

theorem dig_mul (x0 x1 x2 y0 y1 y2 : Nat) : (x0 + x1 * 1048576 + x2 * 1099511627776) * (y0 + y1 * 1048576 + y2 * 1099511627776) =
    x0 * y0 + (x0 * y1 + x1 * y0) * 1048576 + (x0 * y2 + x1 * y1 + x2 * y0) * 1099511627776 + (x1 * y2 + x2 * y1) * 1152921504606846976 + x2 * y2 * 1208925819614629174706176 := by
  grind

set_option maxHeartbeats 8000000 in
theorem times_ref (a b : Nat) (w : World) (ha : a ≤ 1099511627776) (hb : b ≤ 1099511627776) :
    Calls Try.prog 35 #[.int .i64 a, .int .i64 b] w fun e w' => e = .returned (rV (a * b)) ∧ Ext w w' := by
  obtain ⟨x0, hx0⟩ : ∃ x : Nat, (a : Int) % 1048576 = (x : Int) := ⟨a % 1048576, by omega⟩
  obtain ⟨x1, hx1⟩ : ∃ x : Nat, (a : Int) / 1048576 % 1048576 = (x : Int) := ⟨a / 1048576 % 1048576, by omega⟩
  obtain ⟨x2, hx2⟩ : ∃ x : Nat, (a : Int) / 1048576 / 1048576 = (x : Int) := ⟨a / 1048576 / 1048576, by omega⟩
  obtain ⟨y0, hy0⟩ : ∃ x : Nat, (b : Int) % 1048576 = (x : Int) := ⟨b % 1048576, by omega⟩
  obtain ⟨y1, hy1⟩ : ∃ x : Nat, (b : Int) / 1048576 % 1048576 = (x : Int) := ⟨b / 1048576 % 1048576, by omega⟩
  obtain ⟨y2, hy2⟩ : ∃ x : Nat, (b : Int) / 1048576 / 1048576 = (x : Int) := ⟨b / 1048576 / 1048576, by omega⟩
  obtain ⟨p00, e00⟩ : ∃ p : Nat, p = x0 * y0 := ⟨_, rfl⟩
  have f00 : (x0 : Int) * (y0 : Int) = (p00 : Int) := by rw [e00]; simp
  have b00 : (p00 : Int) ≤ 1099511627776 := by
    have := Nat.mul_le_mul (show x0 ≤ 1048575 by omega) (show y0 ≤ 1048575 by omega)
    omega
  obtain ⟨p01, e01⟩ : ∃ p : Nat, p = x0 * y1 := ⟨_, rfl⟩
  have f01 : (x0 : Int) * (y1 : Int) = (p01 : Int) := by rw [e01]; simp
  have b01 : (p01 : Int) ≤ 1099511627776 := by
    have := Nat.mul_le_mul (show x0 ≤ 1048575 by omega) (show y1 ≤ 1048575 by omega)
    omega
  obtain ⟨p02, e02⟩ : ∃ p : Nat, p = x0 * y2 := ⟨_, rfl⟩
  have f02 : (x0 : Int) * (y2 : Int) = (p02 : Int) := by rw [e02]; simp
  have b02 : (p02 : Int) ≤ 1048576 := by
    have := Nat.mul_le_mul (show x0 ≤ 1048575 by omega) (show y2 ≤ 1 by omega)
    omega
  obtain ⟨p10, e10⟩ : ∃ p : Nat, p = x1 * y0 := ⟨_, rfl⟩
  have f10 : (x1 : Int) * (y0 : Int) = (p10 : Int) := by rw [e10]; simp
  have b10 : (p10 : Int) ≤ 1099511627776 := by
    have := Nat.mul_le_mul (show x1 ≤ 1048575 by omega) (show y0 ≤ 1048575 by omega)
    omega
  obtain ⟨p11, e11⟩ : ∃ p : Nat, p = x1 * y1 := ⟨_, rfl⟩
  have f11 : (x1 : Int) * (y1 : Int) = (p11 : Int) := by rw [e11]; simp
  have b11 : (p11 : Int) ≤ 1099511627776 := by
    have := Nat.mul_le_mul (show x1 ≤ 1048575 by omega) (show y1 ≤ 1048575 by omega)
    omega
  obtain ⟨p12, e12⟩ : ∃ p : Nat, p = x1 * y2 := ⟨_, rfl⟩
  have f12 : (x1 : Int) * (y2 : Int) = (p12 : Int) := by rw [e12]; simp
  have b12 : (p12 : Int) ≤ 1048576 := by
    have := Nat.mul_le_mul (show x1 ≤ 1048575 by omega) (show y2 ≤ 1 by omega)
    omega
  obtain ⟨p20, e20⟩ : ∃ p : Nat, p = x2 * y0 := ⟨_, rfl⟩
  have f20 : (x2 : Int) * (y0 : Int) = (p20 : Int) := by rw [e20]; simp
  have b20 : (p20 : Int) ≤ 1048576 := by
    have := Nat.mul_le_mul (show x2 ≤ 1 by omega) (show y0 ≤ 1048575 by omega)
    omega
  obtain ⟨p21, e21⟩ : ∃ p : Nat, p = x2 * y1 := ⟨_, rfl⟩
  have f21 : (x2 : Int) * (y1 : Int) = (p21 : Int) := by rw [e21]; simp
  have b21 : (p21 : Int) ≤ 1048576 := by
    have := Nat.mul_le_mul (show x2 ≤ 1 by omega) (show y1 ≤ 1048575 by omega)
    omega
  obtain ⟨p22, e22⟩ : ∃ p : Nat, p = x2 * y2 := ⟨_, rfl⟩
  have f22 : (x2 : Int) * (y2 : Int) = (p22 : Int) := by rw [e22]; simp
  have b22 : (p22 : Int) ≤ 1 := by
    have := Nat.mul_le_mul (show x2 ≤ 1 by omega) (show y2 ≤ 1 by omega)
    omega
  have hA := Lib.hid (show a = x0 + x1 * 1048576 + x2 * 1099511627776 by omega)
  have hB := Lib.hid (show b = y0 + y1 * 1048576 + y2 * 1099511627776 by omega)
  have E00 := Lib.hid e00
  have E01 := Lib.hid e01
  have E02 := Lib.hid e02
  have E10 := Lib.hid e10
  have E11 := Lib.hid e11
  have E12 := Lib.hid e12
  have E20 := Lib.hid e20
  have E21 := Lib.hid e21
  have E22 := Lib.hid e22
  clear e00 e01 e02 e10 e11 e12 e20 e21 e22
  go_enter Try.func35, Try.ntmps35
  go_wp2_with fail
  refine wp_loop_rounds 4 ?_
  rw [rounds_succ]
  go_wp2_with fail
  refine wp_loop_rounds 4 ?_
  rw [rounds_succ]
  go_wp2_with (go_at_call 51; refine (plus_hl _ _ _ _ (by omega) (by omega) (by omega) (by omega) (by omega) (by omega)).mono ?_; rintro e w' ⟨h1, l1, rfl, rfl, k11, k12, k13, k14, k15⟩; have K1 := Lib.hid k11; clear k11)
  rw [rounds_succ]
  go_wp2_with (go_at_call 51; refine (plus_hl _ _ _ _ (by omega) (by omega) (by omega) (by omega) (by omega) (by omega)).mono ?_; rintro e w' ⟨h2, l2, rfl, rfl, k21, k22, k23, k24, k25⟩; have K2 := Lib.hid k21; clear k21)
  rw [rounds_succ]
  go_wp2_with fail
  rw [rounds_succ]
  go_wp2_with fail
  rw [rounds_succ]
  go_wp2_with fail
  refine wp_loop_rounds 4 ?_
  rw [rounds_succ]
  go_wp2_with (go_at_call 51; refine (plus_hl _ _ _ _ (by omega) (by omega) (by omega) (by omega) (by omega) (by omega)).mono ?_; rintro e w' ⟨h3, l3, rfl, rfl, k31, k32, k33, k34, k35⟩; have K3 := Lib.hid k31; clear k31)
  rw [rounds_succ]
  go_wp2_with fail
  rw [rounds_succ]
  go_wp2_with fail
  rw [rounds_succ]
  go_wp2_with fail
  rw [rounds_succ]
  go_wp2_with fail
  refine wp_loop_rounds 4 ?_
  rw [rounds_succ]
  go_wp2_with fail
  rw [rounds_succ]
  go_wp2_with fail
  rw [rounds_succ]
  go_wp2_with fail
  rw [rounds_succ]
  go_wp2_with fail
  rw [rounds_succ]
  go_wp2_with fail
  refine bodyPost_ret (v := .agg #[.int .i64 (h3 + (p11 : Int) + (p12 : Int) * 1048576 + (p20 : Int) + (p21 : Int) * 1048576 + (p22 : Int) * 1048576 * 1048576), .int .i64 l3]) (by simp [results, Try.results35, go_sem]) rfl ⟨?_, ?_⟩
  · have q1 := K1.out
    have q2 := K2.out
    have q3 := K3.out
    have hm := dig_mul x0 x1 x2 y0 y1 y2
    rw [← hA.out, ← hB.out, ← E00.out, ← E01.out, ← E02.out, ← E10.out, ← E11.out, ← E12.out, ← E20.out, ← E21.out, ← E22.out] at hm
    rw [rV_of k32 k33 (by omega) (n := a * b) (by omega)]
  · repeat (first | exact Ext.refl w | refine Ext.alloc ?_ _)
end Go.Proofs.Ytepcnpnpjfdfmaa
