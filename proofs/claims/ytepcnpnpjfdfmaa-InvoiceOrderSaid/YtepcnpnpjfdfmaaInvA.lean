/- Walks of package invoice: numbers of 128 bits. -/
import Derived.Test.YtepcnpnpjfdfmaaBase
import Derived.Test.YtepcnpnpjfdfmaaDivW
import Derived.Laws.Externs
namespace Go.Proofs.Ytepcnpnpjfdfmaa
open Go.RowKit

def hiN (n : Nat) : Nat := n / 18446744073709551616
def loN (n : Nat) : Nat := n % 18446744073709551616
theorem loN_lt (n : Nat) : loN n < 18446744073709551616 := Nat.mod_lt _ (by omega)
theorem hiN_lt {n : Nat} (h : n < 18446744073709551616 * 18446744073709551616) : hiN n < 18446744073709551616 := by
  unfold hiN; exact (Nat.div_lt_iff_lt_mul (by omega)).2 h
theorem w2_hiN (n : Nat) : w2 (hiN n) (loN n) = n := by unfold w2 hiN loN; omega
/-- a wide number as a value -/
abbrev wV (n : Nat) : Value := .agg #[.int .u64 (hiN n : Nat), .int .u64 (loN n : Nat)]

theorem mul64_any (x y : Nat) (w : World) (hx : x < 18446744073709551616) (hy : y < 18446744073709551616) :
    Calls Try.prog 48 #[.int .u64 x, .int .u64 y] w fun e w' => e = .returned (.tuple #[.int .u64 (hiN (x * y) : Nat), .int .u64 (loN (x * y) : Nat)]) ∧ w = w' :=
  (Try.bits_Mul64 x y hx hy w).mono fun _ _ ⟨he, hw⟩ => ⟨he, hw.symm⟩

theorem price_yes (n : Int) (w : World) (h0 : 0 ≤ n) (h1 : n ≤ 1099511627776) : Calls Try.prog 28 #[.int .i64 n] w fun e w' => e = .returned (.bool true) ∧ w = w' := by
  go_enter Try.func28, Try.ntmps28
  go_wp2_with fail
  go_ret
  exact ⟨rfl, rfl⟩
theorem price_no (n : Int) (w : World) (h : n < 0 ∨ 1099511627776 < n) : Calls Try.prog 28 #[.int .i64 n] w fun e w' => e = .returned (.bool false) ∧ w = w' := by
  rcases h with h | h
  · go_enter Try.func28, Try.ntmps28
    go_wp2_with fail
    go_ret
    exact ⟨rfl, rfl⟩
  · have h0 : 0 ≤ n := by omega
    have h1 : decide (n ≤ 1099511627776) = false := by simp; omega
    go_enter Try.func28, Try.ntmps28
    go_wp2_with fail
    go_ret
    exact ⟨rfl, rfl⟩
def okB (n : Int) : Bool := decide (0 ≤ n ∧ n ≤ 1099511627776)
theorem okB_yes {n : Int} (h : okB n = true) : 0 ≤ n ∧ n ≤ 1099511627776 := by unfold okB at h; simpa using h
theorem okB_no {n : Int} (h : okB n = false) : n < 0 ∨ 1099511627776 < n := by unfold okB at h; simp at h; omega
theorem price_any (n : Int) (w : World) : Calls Try.prog 28 #[.int .i64 n] w fun e w' => e = .returned (.bool (okB n)) ∧ w = w' := by
  cases h : okB n
  · exact price_no n w (okB_no h)
  · exact price_yes n w (okB_yes h).1 (okB_yes h).2

set_option maxHeartbeats 400000 in
theorem times_any (a b : Nat) (w : World) (ha : a ≤ 1099511627776) (hb : b ≤ 1099511627776) :
    Calls Try.prog 30 #[.int .i64 a, .int .i64 b] w fun e w' => e = .returned (wV (a * b)) ∧ Ext w w' := by
  go_enter Try.func30, Try.ntmps30
  go_wp2_with (go_at_call 48; refine (mul64_any a b _ (by omega) (by omega)).mono ?_; rintro e w' ⟨rfl, rfl⟩)
  exact bodyPost_ret (v := wV (a * b)) (by simp [results, Try.results30, go_sem]) rfl ⟨rfl, (Ext.refl w).alloc _⟩

theorem scaled_hi {n k : Nat} : hiN (n * k) = hiN n * k + hiN (loN n * k) ∧ loN (n * k) = loN (loN n * k) := by
  have e : n * k = loN n * k + 18446744073709551616 * (hiN n * k) := by
    have h := (w2_hiN n).symm
    unfold w2 at h
    calc n * k = (hiN n * 18446744073709551616 + loN n) * k := by rw [← h]
      _ = _ := by rw [Nat.add_mul, Nat.mul_assoc, Nat.mul_left_comm (hiN n), Nat.add_comm]
  constructor
  · unfold hiN at *
    rw [e, Nat.add_mul_div_left _ _ (by omega), Nat.add_comm]
  · rw [e]
    unfold loN
    rw [Nat.add_mul_mod_self_left]
theorem scaled_lo {n k : Nat} : loN (loN n * k) = loN (n * k) := scaled_hi.2.symm

set_option maxHeartbeats 400000 in
theorem scaled_any (n k : Nat) (w : World) (hk : k ≤ 1099511627776) (hn : n * k < 18446744073709551616 * 18446744073709551616) (hh : hiN n < 4294967296 * 4294967296) :
    Calls Try.prog 31 #[wV n, .int .i64 k] w fun e w' => e = .returned (wV (n * k)) ∧ Ext w w' := by
  have HS := Lib.hid (scaled_hi (n := n) (k := k))
  have hlo := loN_lt n
  have hb := hiN_lt hn
  have hb2 : (hiN n : Int) * (k : Int) + (hiN (loN n * k) : Int) ≤ 18446744073709551615 := by
    have := HS.out.1
    omega
  have hp : 0 ≤ (hiN n : Int) * (k : Int) := Int.mul_nonneg (by omega) (by omega)
  clear hb
  go_enter Try.func31, Try.ntmps31
  go_wp2_with (go_at_call 48; refine (mul64_any (loN n) k _ (by omega) (by omega)).mono ?_; rintro e w' ⟨rfl, rfl⟩)
  refine bodyPost_ret (v := .agg #[.int .u64 ((hiN n : Int) * (k : Int) + (hiN (loN n * k) : Int)), .int .u64 (loN (loN n * k) : Nat)]) (by simp [results, Try.results31, go_sem]) rfl ⟨?_, ((Ext.refl w).alloc _).alloc _⟩
  unfold wV
  rw [HS.out.1, HS.out.2]
  simp

theorem plus_hi {n m : Nat} : hiN (n + m) = hiN n + hiN m + (loN n + loN m) / 18446744073709551616 ∧ loN (n + m) = (loN n + loN m) % 18446744073709551616 := by
  unfold hiN loN; omega

theorem add64_eq (x y c : Int) (hx : 0 ≤ x) (hy : 0 ≤ y) (h0 : 0 ≤ c) (hc : c ≤ 1) (w : World) :
    (callFunc 49 #[.int .u64 x, .int .u64 y, .int .u64 c]).run Try.prog w =
      .ok (.value (.tuple #[.int .u64 ((x + y + c) % 18446744073709551616), .int .u64 ((x + y + c) / 18446744073709551616)])) w := by
  rw [run_callFunc_extern Try.func49 (by kernel_rfl) (by kernel_rfl) (by kernel_rfl) (e := add64Entry) (by kernel_rfl), run_add64 x y c hx hy h0 hc]
  rfl

set_option maxHeartbeats 400000 in
theorem plus_any (n m : Nat) (w : World) (hn : n + m < 18446744073709551616 * 18446744073709551616) :
    Calls Try.prog 32 #[wV n, wV m] w fun e w' => e = .returned (wV (n + m)) ∧ Ext w w' := by
  have HP := Lib.hid (plus_hi (n := n) (m := m))
  have hq : hiN (n + m) ≤ 18446744073709551615 := by have := hiN_lt hn; omega
  have ln := loN_lt n
  have lm := loN_lt m
  have ha := add64_eq (loN n) (loN m) 0 (by omega) (by omega) (by omega) (by omega)
  have hb := add64_eq (hiN n) (hiN m) (((loN n : Int) + loN m) / 18446744073709551616) (by omega) (by omega) (by omega) (by omega)
  rw [Int.add_zero] at ha
  go_enter Try.func32, Try.ntmps32
  go_wp2_with (first | rw [ha] | rw [hb])
  refine bodyPost_ret (v := .agg #[.int .u64 (((hiN n : Int) + hiN m + ((loN n : Int) + loN m) / 18446744073709551616) % 18446744073709551616), .int .u64 (((loN n : Int) + loN m) % 18446744073709551616)]) (by simp [results, Try.results32, go_sem]) rfl ⟨?_, (((Ext.refl w).alloc _).alloc _).alloc _⟩
  unfold wV
  have e1 : ((hiN n : Int) + hiN m + ((loN n : Int) + loN m) / 18446744073709551616) % 18446744073709551616 = (hiN (n + m) : Nat) := by
    have := HP.out.1
    omega
  have e2 : ((loN n : Int) + loN m) % 18446744073709551616 = (loN (n + m) : Nat) := by
    have := HP.out.2
    omega
  rw [e1, e2]
end Go.Proofs.Ytepcnpnpjfdfmaa
