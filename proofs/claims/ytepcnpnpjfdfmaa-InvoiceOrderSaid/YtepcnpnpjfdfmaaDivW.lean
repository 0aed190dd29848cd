/- Walk of math/bits.Div64: the quotient and the remainder. -/
import Derived.Test.YtepcnpnpjfdfmaaKit
import Derived.Test.YtepcnpnpjfdfmaaShelf
import Derived.Test.YtepcnpnpjfdfmaaDivP
import Derived.Deep.DeepCutAuto
import Derived.Deep.CutBlock
namespace Go.Proofs.Ytepcnpnpjfdfmaa
open Go.RowKit

/-- the number of two words -/
def w2 (hi lo : Nat) : Nat := hi * 18446744073709551616 + lo

theorem Dv.Prep.result {hi lo y L Y y1 y0 L1 u1 u0 U q1 q0 r1 : Nat} (hp : Dv.Prep hi lo y L Y y1 y0 L1 u1 u0 U) (e1 : q1 = (U * 4294967296 + u1) / Y) (er : r1 = (U * 4294967296 + u1) % Y) (e0 : q0 = (r1 * 4294967296 + u0) / Y) :
    q1 * 4294967296 + q0 = w2 hi lo / y ∧ (r1 * 4294967296 + u0) % Y / 2 ^ (64 - L) = w2 hi lo % y := by
  have hP : 0 < 2 ^ (64 - L) := Nat.two_pow_pos _
  have hY : 0 < Y := by have := hp.Ylo; omega
  obtain ⟨a, b⟩ := Dv.two_digits hY e1 er e0
  rw [← hp.whole, hp.Ydef] at a b
  obtain ⟨c, d⟩ := Dv.shifted (N := hi * 18446744073709551616 + lo) (y := y) hP
  unfold w2
  exact ⟨a.trans c, by rw [hp.Ydef, b]; exact d⟩

theorem minus_mod {U u q Y r : Nat} (h : q * Y + r = U * 4294967296 + u) (hr : r < 18446744073709551616) :
    IntKind.u64.wrap (IntKind.u64.wrap (IntKind.u64.wrap ((U : Int) * 4294967296) + (u : Int)) - IntKind.u64.wrap ((q : Int) * (Y : Int))) = (r : Int) := by
  have h2 : (q : Int) * (Y : Int) + (r : Int) = (U : Int) * 4294967296 + (u : Int) := by omega
  simp only [IntKind.wrap_u64]
  generalize (q : Int) * (Y : Int) = A at *
  omega

/-- what the guess of a digit begins with -/
theorem first_guess {U u y1 y0 Y : Nat} (hY : Y = y1 * 4294967296 + y0) (hU : U < Y) (hu : u < 4294967296) (h0 : y0 < 4294967296) (h1 : 2147483648 ≤ y1) (h2 : y1 < 4294967296) :
    ∃ q r : Nat, (U : Int) / (y1 : Int) = (q : Int) ∧ 0 ≤ (q : Int) * (y1 : Int) ∧ (q : Int) * (y1 : Int) ≤ (U : Int) ∧ (U : Int) - (q : Int) * (y1 : Int) = (r : Int) ∧ q ≤ 4294967297 ∧ r < 4294967296 ∧ Dv.Inv 4294967296 U u y1 y0 q r := by
  have hqr : U / y1 * y1 + U % y1 = U := by rw [Nat.mul_comm]; exact Nat.div_add_mod _ _
  have hm : U % y1 < y1 := Nat.mod_lt _ (by omega)
  have hg : U / y1 ≤ 4294967296 + 1 := Dv.guess_le (y0 := y0) (by omega) h0 (by omega) (by omega)
  have hd : (U : Int) / (y1 : Int) = ((U / y1 : Nat) : Int) := (Int.natCast_ediv _ _).symm
  have hge := Dv.guess_ge (B := 4294967296) (U := U) (u := u) (y1 := y1) (y0 := y0) hu (by omega) (by omega)
  generalize U / y1 = q at *
  generalize U % y1 = r at *
  have hqr2 : (q : Int) * (y1 : Int) + (r : Int) = (U : Int) := by omega
  have hn : 0 ≤ (q : Int) * (y1 : Int) := Int.mul_nonneg (by omega) (by omega)
  exact ⟨q, r, hd, hn, by omega, by omega, by omega, by omega, ⟨hqr, hge, hg⟩⟩

theorem prod_le {q y0 : Nat} (hq : q ≤ 4294967297) (h0 : y0 < 4294967296) : 0 ≤ (q : Int) * (y0 : Int) ∧ (q : Int) * (y0 : Int) ≤ 18446744073709551615 := by
  have h : q * y0 ≤ 4294967297 * 4294967295 := Nat.mul_le_mul hq (by omega)
  have e : (q : Int) * (y0 : Int) = ((q * y0 : Nat) : Int) := by simp
  rw [e]
  omega

set_option maxHeartbeats 4000000 in
set_option maxRecDepth 100000 in
theorem div64_big (hi lo y : Nat) (w : World) (h0 : 0 < hi) (h1 : hi < y) (h2 : y < 18446744073709551616) (h3 : lo < 18446744073709551616) :
    Calls Try.prog 33 #[.int .u64 hi, .int .u64 lo, .int .u64 y] w fun e w' => e = .returned (.tuple #[.int .u64 (w2 hi lo / y : Nat), .int .u64 (w2 hi lo % y : Nat)]) ∧ w = w' := by
  have a1 : (0 : Int) < (hi : Int) := by omega
  have a2 : (hi : Int) < (y : Int) := by omega
  obtain ⟨Y, y1, y0, L1, u1, u0, U, hp⟩ := Dv.prep h1 h2 h3
  go_enter Try.func33, Try.ntmps33
  go_wp2_with fail
  refine (Try.bits_LeadingZeros64 y _ (by omega) (by omega)).mono ?_
  rintro e w' ⟨rfl, hw⟩
  subst hw
  rw [Int.toNat_natCast]
  have l1 := hp.l1
  have l2 := hp.l2
  have f1 := hp.f1
  have f2 := hp.f2
  have f3 := hp.f3
  have f4 := hp.f4
  have f5 := hp.f5
  have f6 := hp.f6
  have f7 := hp.f7
  have c1 := hp.y1lo
  have c2 := hp.y1hi
  have c3 := hp.y0lt
  have c4 := hp.u1lt
  have c5 := hp.u0lt
  have c6 := hp.Yhi
  have c7 := hp.Ult
  generalize Lib.bitLen y = L at *
  obtain ⟨q, r, g1, g2, g3, g4, g5, g6, hI⟩ := first_guess hp.Ysplit c7 c4 c3 c1 c2
  go_upto_block 0 with (fail)
  go_cut [15, 16] (fun s15 s16 wx => s15 = .int .u64 ((U * 4294967296 + u1) / Y : Nat) ∧ w' = wx)
  case first =>
    clear f1 f2 f3 f4 f5 f6 f7 g1 g2 g3 g4
    go_wp2_with fail
    go_loop [15, 16] (fun s t => ∃ q r : Nat, s = .int .u64 q ∧ t = .int .u64 r ∧ q ≤ 4294967297 ∧ r < 4294967296 ∧ Dv.Inv 4294967296 U u1 y1 y0 q r) (fun s _ => (intOf s).toNat)
    case atStart => exact ⟨q, r, rfl, rfl, g5, g6, hI⟩
    case round =>
      obtain ⟨q, r, rfl, rfl, g5, g6, hI⟩ := hrel
      obtain ⟨p1, p2⟩ := prod_le g5 c3
      have hYe := hp.Ysplit
      by_cases t1 : (4294967296 : Int) ≤ (q : Int)
      · obtain ⟨k1, k2, k3⟩ := Dv.go hI (by omega) c4 (.inl (by omega))
        have HYe := Lib.hid hYe
        clear hYe
        by_cases t2 : (4294967296 : Int) ≤ (r : Int) + (y1 : Int)
        · have hst := Dv.stop_big k2 k3 c3 (by omega) (by omega)
          have HST := Lib.hid hst
          clear hst
          go_wp2_with fail
          go_meet
          exact ⟨by rw [HYe.out, ← HST.out]; go_num, rfl⟩
        · go_wp2_with fail
          go_round
          case rel => exact ⟨q - 1, r + y1, by go_num, by go_num, by omega, by omega, k2⟩
          case measure => simp [intOf]; omega
      · by_cases t3 : r * 4294967296 + u1 < q * y0
        · obtain ⟨k1, k2, k3⟩ := Dv.go hI (by omega) c4 (.inr t3)
          have t3' : 4294967296 * (r : Int) + (u1 : Int) < (q : Int) * (y0 : Int) := by
            omega
          have HYe := Lib.hid hYe
          clear hYe t3
          by_cases t2 : (4294967296 : Int) ≤ (r : Int) + (y1 : Int)
          · have hst := Dv.stop_big k2 k3 c3 (by omega) (by omega)
            have HST := Lib.hid hst
            clear hst
            go_wp2_with fail
            go_meet
            exact ⟨by rw [HYe.out, ← HST.out]; go_num, rfl⟩
          · go_wp2_with fail
            go_round
            case rel => exact ⟨q - 1, r + y1, by go_num, by go_num, by omega, by omega, k2⟩
            case measure => simp [intOf]; omega
        · have hst := Dv.stop hI (by omega) t3
          have HST := Lib.hid hst
          have t3' : (q : Int) * (y0 : Int) ≤ 4294967296 * (r : Int) + (u1 : Int) := by
            omega
          have HYe := Lib.hid hYe
          clear hYe t3 hst
          go_wp2_with fail
          go_meet
          exact ⟨by rw [HYe.out, ← HST.out], rfl⟩
  case rest =>
    obtain ⟨rfl, rfl⟩ := hcut
    clear g1 g2 g3 g4 g5 g6 hI
    obtain ⟨q1, hq1⟩ : ∃ q1, q1 = (U * 4294967296 + u1) / Y := ⟨_, rfl⟩
    obtain ⟨r1, hr1⟩ : ∃ r1, r1 = (U * 4294967296 + u1) % Y := ⟨_, rfl⟩
    have hq1lt : q1 < 4294967296 := by rw [hq1]; exact Dv.digit_lt c7 c4
    have hr1lt : r1 < Y := by rw [hr1]; exact Nat.mod_lt _ (by omega)
    have m1 := minus_mod (q := q1) (Y := Y) (r := r1) (by rw [hq1, hr1, Nat.mul_comm]; exact Nat.div_add_mod _ _) (by omega)
    rw [← hq1]
    have HQ1 := Lib.hid hq1
    have HR1 := Lib.hid hr1
    clear hq1 hr1
    obtain ⟨q, r, g1, g2, g3, g4, g5, g6, hI⟩ := first_guess hp.Ysplit hr1lt c5 c3 c1 c2
    go_upto_block 2 with (fail)
    go_cut [18, 16] (fun s18 s16 wx => s18 = .int .u64 ((r1 * 4294967296 + u0) / Y : Nat) ∧ w' = wx)
    case first =>
      clear f1 f2 f3 f4 f5 f6 f7 g1 g2 g3 g4 m1
      go_wp2_with fail
      go_loop [18, 16] (fun s t => ∃ q r : Nat, s = .int .u64 q ∧ t = .int .u64 r ∧ q ≤ 4294967297 ∧ r < 4294967296 ∧ Dv.Inv 4294967296 r1 u0 y1 y0 q r) (fun s _ => (intOf s).toNat)
      case atStart => exact ⟨q, r, rfl, rfl, g5, g6, hI⟩
      case round =>
        obtain ⟨q, r, rfl, rfl, g5, g6, hI⟩ := hrel
        obtain ⟨p1, p2⟩ := prod_le g5 c3
        have hYe := hp.Ysplit
        by_cases t1 : (4294967296 : Int) ≤ (q : Int)
        · obtain ⟨k1, k2, k3⟩ := Dv.go hI (by omega) c5 (.inl (by omega))
          have HYe := Lib.hid hYe
          clear hYe
          by_cases t2 : (4294967296 : Int) ≤ (r : Int) + (y1 : Int)
          · have hst := Dv.stop_big k2 k3 c3 (by omega) (by omega)
            have HST := Lib.hid hst
            clear hst
            go_wp2_with fail
            go_meet
            exact ⟨by rw [HYe.out, ← HST.out]; go_num, rfl⟩
          · go_wp2_with fail
            go_round
            case rel => exact ⟨q - 1, r + y1, by go_num, by go_num, by omega, by omega, k2⟩
            case measure => simp [intOf]; omega
        · by_cases t3 : r * 4294967296 + u0 < q * y0
          · obtain ⟨k1, k2, k3⟩ := Dv.go hI (by omega) c5 (.inr t3)
            have t3' : 4294967296 * (r : Int) + (u0 : Int) < (q : Int) * (y0 : Int) := by
              omega
            have HYe := Lib.hid hYe
            clear hYe t3
            by_cases t2 : (4294967296 : Int) ≤ (r : Int) + (y1 : Int)
            · have hst := Dv.stop_big k2 k3 c3 (by omega) (by omega)
              have HST := Lib.hid hst
              clear hst
              go_wp2_with fail
              go_meet
              exact ⟨by rw [HYe.out, ← HST.out]; go_num, rfl⟩
            · go_wp2_with fail
              go_round
              case rel => exact ⟨q - 1, r + y1, by go_num, by go_num, by omega, by omega, k2⟩
              case measure => simp [intOf]; omega
          · have hst := Dv.stop hI (by omega) t3
            have HST := Lib.hid hst
            have t3' : (q : Int) * (y0 : Int) ≤ 4294967296 * (r : Int) + (u0 : Int) := by
              omega
            have HYe := Lib.hid hYe
            clear hYe t3 hst
            go_wp2_with fail
            go_meet
            exact ⟨by rw [HYe.out, ← HST.out], rfl⟩
    case rest =>
      obtain ⟨rfl, rfl⟩ := hcut
      clear g1 g2 g3 g4 g5 g6 hI m1
      obtain ⟨q0, hq0⟩ : ∃ q0, q0 = (r1 * 4294967296 + u0) / Y := ⟨_, rfl⟩
      obtain ⟨r0, hr0⟩ : ∃ r0, r0 = (r1 * 4294967296 + u0) % Y := ⟨_, rfl⟩
      have hq0lt : q0 < 4294967296 := by rw [hq0]; exact Dv.digit_lt hr1lt c5
      have hr0lt : r0 < Y := by rw [hr0]; exact Nat.mod_lt _ (by omega)
      have m2 := minus_mod (q := q0) (Y := Y) (r := r0) (by rw [hq0, hr0, Nat.mul_comm]; exact Nat.div_add_mod _ _) (by omega)
      have res := hp.result HQ1.out HR1.out hq0
      rw [← hr0] at res
      rw [← hq0]
      have RES := Lib.hid res
      clear hq0 hr0 res f1 f2 f3 f4 f5 f6 f7
      go_wp2_with fail
      go_ret2
      obtain ⟨e1, e2⟩ := RES.out
      rw [← e1, ← e2]
      exact ⟨by congr 1, rfl⟩

set_option maxHeartbeats 400000 in
theorem div64_small (lo y : Nat) (w : World) (h1 : 0 < y) (h2 : y < 18446744073709551616) (h3 : lo < 18446744073709551616) :
    Calls Try.prog 33 #[.int .u64 0, .int .u64 lo, .int .u64 y] w fun e w' => e = .returned (.tuple #[.int .u64 (w2 0 lo / y : Nat), .int .u64 (w2 0 lo % y : Nat)]) ∧ Ext w w' := by
  have a2 : (0 : Int) < (y : Int) := by omega
  have e0 : w2 0 lo = lo := by unfold w2; omega
  have E1 : Hid (((w2 0 lo / y : Nat) : Int) = (lo : Int) / (y : Int)) := Lib.hid (by rw [e0]; exact Int.natCast_ediv _ _)
  have E2 : Hid (((w2 0 lo % y : Nat) : Int) = (lo : Int) % (y : Int)) := Lib.hid (by rw [e0]; exact Int.natCast_emod _ _)
  have b1 : 0 ≤ (lo : Int) / (y : Int) := Int.ediv_nonneg (by omega) (by omega)
  have b2 : (lo : Int) / (y : Int) ≤ (lo : Int) := Int.ediv_le_self _ (by omega)
  clear e0
  go_enter Try.func33, Try.ntmps33
  go_wp2_with fail
  go_quiet (fail)
  go_wp2_with fail
  go_ret2
  rw [E1.out, E2.out]
  exact ⟨rfl, (Ext.refl w).drewN _⟩

/-- bits.Div64 -/
theorem div64_any (hi lo y : Nat) (w : World) (h1 : hi < y) (h2 : y < 18446744073709551616) (h3 : lo < 18446744073709551616) :
    Calls Try.prog 33 #[.int .u64 hi, .int .u64 lo, .int .u64 y] w fun e w' => e = .returned (.tuple #[.int .u64 (w2 hi lo / y : Nat), .int .u64 (w2 hi lo % y : Nat)]) ∧ Ext w w' := by
  rcases Nat.eq_zero_or_pos hi with rfl | h0
  · exact div64_small lo y w (by omega) h2 h3
  · exact (div64_big hi lo y w h0 h1 h2 h3).mono fun _ _ ⟨he, hw⟩ => ⟨he, by subst hw; exact Ext.refl _⟩
end Go.Proofs.Ytepcnpnpjfdfmaa
