/- Walks of the specification's wide numbers: plus, add, times, inside, above. -/
import Derived.Test.YtepcnpnpjfdfmaaInvB
namespace Go.Proofs.Ytepcnpnpjfdfmaa
open Go.RowKit

def PlusPost (h l n : Int) (w : World) (e : Ending) (w' : World) : Prop :=
  ∃ h' l' : Int, e = .returned (.agg #[.int .i64 h', .int .i64 l']) ∧ w' = (w.alloc (.cells #[.int .i64 h, .int .i64 l] 78)).alloc (.cells #[.int .i64 h', .int .i64 l'] 78) ∧
    h' * 1099511627776 + l' = h * 1099511627776 + l + n ∧ 0 ≤ l' ∧ l' < 1099511627776 ∧ 0 ≤ h' ∧ h' ≤ h + 1048577

theorem plus_hl (h l n : Int) (w : World) (h0 : 0 ≤ h) (h1 : h ≤ 4611686018427387904) (l0 : 0 ≤ l) (l1 : l < 1099511627776) (n0 : 0 ≤ n) (n1 : n ≤ 1152921504606846976) :
    Calls Try.prog 51 #[.agg #[.int .i64 h, .int .i64 l], .int .i64 n] w fun e w' => PlusPost h l n w e w' := by
  go_enter Try.func51, Try.ntmps51
  go_wp2_with fail
  refine bodyPost_ret (v := .agg #[.int .i64 (h + n / 1099511627776 + (l + n % 1099511627776) / 1099511627776), .int .i64 ((l + n) % 1099511627776)]) (by simp [results, Try.results51, go_sem]) rfl ⟨_, _, rfl, rfl, by omega, by omega, by omega, by omega, by omega⟩

def hi40 (n : Nat) : Nat := n / 1099511627776
def lo40 (n : Nat) : Nat := n % 1099511627776
theorem lo40_lt (n : Nat) : lo40 n < 1099511627776 := Nat.mod_lt _ (by omega)
theorem hl40 (n : Nat) : hi40 n * 1099511627776 + lo40 n = n := by unfold hi40 lo40; omega
abbrev rV (n : Nat) : Value := .agg #[.int .i64 (hi40 n : Nat), .int .i64 (lo40 n : Nat)]
theorem rV_of {h l : Int} {n : Nat} (l0 : 0 ≤ l) (l1 : l < 1099511627776) (_ : 0 ≤ h) (e : h * 1099511627776 + l = n) : (.agg #[.int .i64 h, .int .i64 l] : Value) = rV n := by
  have e1 : h = (hi40 n : Nat) := by unfold hi40; omega
  have e2 : l = (lo40 n : Nat) := by unfold lo40; omega
  rw [e1, e2]

theorem add_ref (a b : Nat) (w : World) (ha : hi40 a ≤ 2305843009213693952) (hb : hi40 b ≤ 2305843009213693952) :
    Calls Try.prog 34 #[rV a, rV b] w fun e w' => e = .returned (rV (a + b)) ∧ Ext w w' := by
  have la := lo40_lt a
  have lb := lo40_lt b
  have ea := Lib.hid (hl40 a)
  have eb := Lib.hid (hl40 b)
  go_enter Try.func34, Try.ntmps34
  go_wp2_with (go_at_call 51; refine (plus_hl _ _ _ _ (by omega) (by omega) (by omega) (by omega) (by omega) (by omega)).mono ?_; rintro e w' ⟨h', l', rfl, rfl, k1, k2, k3, k4, -⟩; have K1 := Lib.hid k1; clear k1)
  refine bodyPost_ret (v := .agg #[.int .i64 h', .int .i64 l']) (by simp [results, Try.results34, go_sem]) rfl ⟨?_, ?_⟩
  · have := K1.out
    have := ea.out
    have := eb.out
    rw [rV_of k2 k3 k4 (n := a + b) (by omega)]
  · exact ((((Ext.refl w).alloc _).alloc _).alloc _).alloc _ |>.alloc _

theorem dig_le (a : Nat) (h : a ≤ 1099511627776) : a / 1048576 / 1048576 ≤ 1 := by omega

theorem and_one (x : Nat) (h : x < 9223372036854775808) : bits .and .i64 (x : Int) 1 = ((x % 2 : Nat) : Int) := by
  have h1 : (BitVec.ofInt 64 1).toNat = 2 ^ 1 - 1 := by decide
  have key : (BitVec.ofInt 64 (x : Int) &&& BitVec.ofInt 64 1).toNat = ((x : Int) % ((2 ^ 64 : Nat) : Int)).toNat % 2 ^ 1 := by
    rw [BitVec.toNat_and, BitVec.toNat_ofInt, h1, Nat.and_two_pow_sub_one_eq_mod]
  show IntKind.i64.wrap ((BitVec.ofInt 64 (x : Int) &&& BitVec.ofInt 64 1).toNat : Nat) = _
  rw [key, IntKind.wrap_i64]
  omega
def pfx (a t : Nat) : Nat := a / 2 ^ (40 - t)
theorem pfx_zero (a : Nat) : pfx a 0 = hi40 a := rfl
theorem pfx_full (a : Nat) : pfx a 40 = a := by unfold pfx; simp
theorem pfx_le (a t : Nat) : pfx a t ≤ a := Nat.div_le_self _ _
theorem pfx_succ (a t : Nat) (h : t < 40) : pfx a (t + 1) = 2 * pfx a t + lo40 a / 2 ^ (39 - t) % 2 := by
  unfold pfx lo40
  obtain ⟨s, hs⟩ : ∃ s, s = 39 - t := ⟨_, rfl⟩
  rw [show 40 - (t + 1) = s from by omega, show 40 - t = s + 1 from by omega, ← hs, Nat.pow_succ, ← Nat.div_div_eq_div_mul]
  have hb : (a % 1099511627776) / 2 ^ s % 2 = a / 2 ^ s % 2 := by
    have h1 := Nat.testBit_mod_two_pow a 40 s
    rw [Nat.testBit_eq_decide_div_mod_eq, Nat.testBit_eq_decide_div_mod_eq, decide_eq_true (show s < 40 by omega), Bool.true_and] at h1
    have h2 : (a % 2 ^ 40) / 2 ^ s % 2 = 1 ↔ a / 2 ^ s % 2 = 1 := by
      constructor
      · intro h; simpa [h] using h1
      · intro h; simpa [h] using h1
    rw [show (1099511627776 : Nat) = 2 ^ 40 from by decide]
    generalize (a % 2 ^ 40) / 2 ^ s = u at *
    generalize a / 2 ^ s = v at *
    omega
  rw [hb]
  omega
def aboveN (a n : Nat) : Nat := if 1048576 ≤ hi40 a / n then 1152921504606846976 else (a + n - 1) / n
theorem above_q {a n : Nat} (hn : 1 ≤ n) (h : hi40 a / n < 1048576) : a / n < 1152921504606846976 := by
  have h1 : hi40 a < 1048576 * n := (Nat.div_lt_iff_lt_mul hn).1 h
  have h2 := hl40 a
  have h3 := lo40_lt a
  refine (Nat.div_lt_iff_lt_mul hn).2 ?_
  omega
theorem above_step {P n β : Nat} (hn : 1 ≤ n) : (2 * P + β) / n = 2 * (P / n) + (2 * (P % n) + β) / n ∧ (2 * P + β) % n = (2 * (P % n) + β) % n := by
  have e : 2 * P + β = n * (2 * (P / n)) + (2 * (P % n) + β) := by
    have h := Nat.div_add_mod P n
    calc 2 * P + β = 2 * (n * (P / n) + P % n) + β := by rw [h]
      _ = _ := by rw [Nat.mul_add, Nat.mul_left_comm 2 n (P / n)]; omega
  constructor
  · rw [e, Nat.mul_add_div (by omega)]
  · rw [e, Nat.mul_add_mod]
theorem ceil_yes {a n : Nat} (hn : 1 ≤ n) (h : 0 < a % n) : a / n + 1 = (a + n - 1) / n := by
  have e := Nat.div_add_mod a n
  have hm := Nat.mod_lt a hn
  have : a + n - 1 = n * (a / n + 1) + (a % n - 1) := by
    rw [Nat.mul_add, Nat.mul_one]; omega
  rw [this, Nat.mul_add_div (by omega), Nat.div_eq_of_lt (show a % n - 1 < n by omega), Nat.add_zero]
theorem ceil_no {a n : Nat} (hn : 1 ≤ n) (h : a % n = 0) : a / n = (a + n - 1) / n := by
  have e := Nat.div_add_mod a n
  have : a + n - 1 = n * (a / n) + (n - 1) := by omega
  rw [this, Nat.mul_add_div (by omega), Nat.div_eq_of_lt (show n - 1 < n by omega), Nat.add_zero]

set_option maxHeartbeats 4000000 in
theorem above_hl (a n H L : Nat) (w : World) (hn : 1 ≤ n) (hn2 : n ≤ 1099511627776) (hH : hi40 a = H) (hLo : lo40 a = L) (ha : H ≤ 4611686018427387904) : Calls Try.prog 37 #[.agg #[.int .i64 H, .int .i64 L], .int .i64 n] w fun e w' => e = .returned (.int .i64 (aboveN a n : Nat)) ∧ Ext w w' := by
  have hl := lo40_lt a
  rw [hLo] at hl
  by_cases hb : 1048576 ≤ H / n
  · have hge : n ≤ H := by
      have h1 := Nat.div_add_mod H n
      have h2 := Nat.mul_le_mul_left n hb
      omega
    have hA : aboveN a n = 1152921504606846976 := if_pos (by rw [hH]; exact hb)
    have hq : (n : Int) ≤ (H : Int) := by omega
    have hd : (H : Int) / (n : Int) = ((H / n : Nat) : Int) := (Int.natCast_ediv _ _).symm
    have hd2 : H / n ≤ 4611686018427387904 := Nat.le_trans (Nat.div_le_self _ _) ha
    obtain ⟨D, hD⟩ : ∃ D, D = H / n := ⟨_, rfl⟩
    rw [← hD] at hd hd2 hb
    clear hD
    have hb2 : (1048576 : Int) ≤ (D : Int) := by omega
    rw [hA]
    clear hH hLo hl
    go_enter Try.func37, Try.ntmps37
    go_wp2_with fail
    go_ret
    exact ⟨rfl, (Ext.refl w).alloc _⟩
  · have hA : aboveN a n = (a + n - 1) / n := if_neg (by rw [hH]; exact hb)
    have hqa := Lib.hid (above_q (a := a) hn (by rw [hH]; omega))
    have hd : (H : Int) / (n : Int) = ((H / n : Nat) : Int) := (Int.natCast_ediv _ _).symm
    have hm : (H : Int) % (n : Int) = ((H % n : Nat) : Int) := (Int.natCast_emod _ _).symm
    obtain ⟨c, hc⟩ : ∃ c : Nat, c = if 0 < a % n then a / n + 1 else a / n := ⟨_, rfl⟩
    have HC := Lib.hid hc
    have hL : Calls Try.prog 37 #[.agg #[.int .i64 H, .int .i64 L], .int .i64 n] w fun e w' => e = .returned (.int .i64 (c : Nat)) ∧ Ext w w' := by
      clear hc
      obtain ⟨D, hD⟩ : ∃ D, D = H / n := ⟨_, rfl⟩
      obtain ⟨M, hM⟩ : ∃ M, M = H % n := ⟨_, rfl⟩
      have HD := Lib.hid hD
      have HM := Lib.hid hM
      rw [← hD] at hd hb
      rw [← hM] at hm
      have hMn : M < n := by rw [hM]; exact Nat.mod_lt _ hn
      clear hD hM
      have hb2 : ¬ (1048576 : Int) ≤ (D : Int) := by omega
      have hMi : (M : Int) < (n : Int) := by omega
      have hn1 : (1 : Int) ≤ (n : Int) := by omega
      have HA := Lib.hid ha
      have HL := Lib.hid hl
      have ha' : (H : Int) ≤ 4611686018427387904 := by omega
      have hl' : (L : Int) ≤ 1099511627775 := by omega
      have hn2' : (n : Int) ≤ 1099511627776 := by omega
      have HB := Lib.hid hb
      clear ha hl hn2 hb
      have HP0 := Lib.hid ((pfx_zero a).trans hH)
      have HPS : Hid (∀ t, t < 40 → pfx a (t + 1) = 2 * pfx a t + L / 2 ^ (39 - t) % 2) := Lib.hid (fun t h => by rw [← hLo]; exact pfx_succ a t h)
      clear hH hLo hA
      have hor : (H : Int) < (n : Int) ∨ (n : Int) ≤ (H : Int) := by omega
      rcases hor with hq | hq
      all_goals
        go_enter Try.func37, Try.ntmps37
        go_wp2_with fail
        go_quiet (fail)
        go_wp2_with fail
        go_loop [5, 6, 7] (fun q r i => ∃ t Q R : Nat, t ≤ 40 ∧ i = .int .i64 (39 - (t : Int)) ∧ q = .int .i64 Q ∧ r = .int .i64 R ∧ Hid (Q = pfx a t / n ∧ R = pfx a t % n)) (fun _ _ i => (intOf i + 1).toNat)
        case atStart => exact ⟨0, D, M, by omega, rfl, rfl, by rw [hm], Lib.hid ⟨by rw [HP0.out]; exact HD.out, by rw [HP0.out]; exact HM.out⟩⟩
        case round =>
          obtain ⟨t, Q, R, ht, rfl, rfl, rfl, HI⟩ := hrel
          have hQ : (Q : Int) ≤ 1152921504606846975 := by
            have h1 := HI.out.1
            have h2 := Nat.div_le_div_right (c := n) (pfx_le a t)
            have h3 := hqa.out
            omega
          have hR : (R : Int) < (n : Int) := by
            have h1 := HI.out.2
            have h2 := Nat.mod_lt (pfx a t) hn
            omega
          by_cases h40 : t < 40
          · have h40' : (t : Int) ≤ 39 := by omega
            obtain ⟨β, hβ⟩ : ∃ β, β = L / 2 ^ (39 - t) % 2 := ⟨_, rfl⟩
            have hβ1 : (β : Int) ≤ 1 := by omega
            have hbit : bits BinOp.and IntKind.i64 ((L : Int) / 2 ^ (39 - t)) 1 = (β : Int) := by
              have h1 := and_one (L / 2 ^ (39 - t)) (Nat.lt_of_le_of_lt (Nat.div_le_self _ _) (by omega))
              rw [← hβ] at h1
              rw [← h1]
              simp
            obtain ⟨d, hdd⟩ : ∃ d, d = (2 * R + β) / n := ⟨_, rfl⟩
            obtain ⟨r2, hr2⟩ : ∃ r2, r2 = (2 * R + β) % n := ⟨_, rfl⟩
            have e1 : (2 * (R : Int) + (β : Int)) / (n : Int) = (d : Int) := by rw [hdd]; simp
            have e2 : (2 * (R : Int) + (β : Int)) % (n : Int) = (r2 : Int) := by rw [hr2]; simp
            have hd1 : (d : Int) ≤ 1 := by
              have : d < 2 := by rw [hdd]; exact (Nat.div_lt_iff_lt_mul hn).2 (by omega)
              omega
            have hst := above_step (P := pfx a t) (n := n) (β := β) hn
            rw [← HI.out.1, ← HI.out.2, ← hdd, ← hr2, hβ, ← HPS.out t h40] at hst
            have HS := Lib.hid hst
            have hQ2 : 2 * (Q : Int) + (d : Int) ≤ 1152921504606846975 := by
              have h2 := Nat.div_le_div_right (c := n) (pfx_le a (t + 1))
              have h1 := hst.1
              have h3 := hqa.out
              omega
            clear hst hdd hr2 hβ
            go_wp2_with fail
            go_round
            case rel => exact ⟨t + 1, 2 * Q + d, r2, by omega, by go_num, by go_num, by rw [e2], Lib.hid ⟨HS.out.1.symm, HS.out.2.symm⟩⟩
            case measure => simp [intOf]; omega
          · obtain rfl : t = 40 := by omega
            have h0 := HI.out
            rw [pfx_full] at h0
            have H0 := Lib.hid h0
            clear h0 HI ht h40 hb2 hMi hn1 ha' hl' hn2' hd hm
            by_cases hz : (1 : Int) ≤ (R : Int)
            · go_wp2_with fail
              go_ret
              have hcc := HC.out
              rw [← H0.out.1, ← H0.out.2, if_pos (by omega)] at hcc
              exact ⟨ret_int (by omega), ((Ext.refl w).alloc _).drewN _⟩
            · have hz' : R = 0 := by omega
              subst hz'
              go_wp2_with fail
              go_ret
              have hcc := HC.out
              rw [← H0.out.1, ← H0.out.2, if_neg (by omega)] at hcc
              exact ⟨ret_int (by omega), ((Ext.refl w).alloc _).drewN _⟩
    refine hL.mono ?_
    rintro e w' ⟨rfl, hX⟩
    refine ⟨?_, hX⟩
    rw [hA, hc]
    split
    · rw [ceil_yes hn (by assumption)]
    · rw [ceil_no hn (by omega)]
theorem above_ref (a n : Nat) (w : World) (hn : 1 ≤ n) (hn2 : n ≤ 1099511627776) (ha : hi40 a ≤ 4611686018427387904) : Calls Try.prog 37 #[rV a, .int .i64 n] w fun e w' => e = .returned (.int .i64 (aboveN a n : Nat)) ∧ Ext w w' :=
  above_hl a n _ _ w hn hn2 rfl rfl ha
end Go.Proofs.Ytepcnpnpjfdfmaa
