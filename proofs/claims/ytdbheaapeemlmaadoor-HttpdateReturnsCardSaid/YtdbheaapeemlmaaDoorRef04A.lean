/- Walks of the reference of chapter 04: numbers, days, dates. -/
import Derived.Test.YtdbheaapeemlmaaDoorHttpA
namespace Go.Proofs.YtdbheaapeemlmaaDoor
open Go.RowKit

set_option maxHeartbeats 400000 in
theorem rleap_any (y : Int) (w : World) (h0 : 0 ≤ y) (h1 : y ≤ 10000) :
    Calls Tryd.prog 31 #[.int .i64 y] w fun e w' => e = .returned (.int .i64 (Cal.lp y)) ∧ w = w' := by
  go_enter Tryd.func31, Tryd.ntmps31
  go_wp2
  all_goals go_ret
  all_goals exact ⟨ret_int (by simp [Cal.lp, Cal.leapB, *]), rfl⟩

set_option maxHeartbeats 400000 in
theorem rlength_any (y m : Int) (w : World) (h0 : 0 ≤ y) (h1 : y ≤ 10000) :
    Calls Tryd.prog 30 #[.int .i64 y, .int .i64 m] w fun e w' => e = .returned (.int .i64 (Cal.dim y m)) ∧ w = w' := by
  have hl := Cal.lp_cases y
  by_cases m2 : m = 2
  · subst m2
    have hd : Cal.dim y 2 = 28 + Cal.lp y := by simp [Cal.dim]
    have HD := Lib.hid hd
    clear hd
    have l0 : 0 ≤ Cal.lp y := by omega
    have l1 : Cal.lp y ≤ 1 := by omega
    clear hl
    go_enter Tryd.func30, Tryd.ntmps30
    go_wp2_with (go_at_call 31; refine (rleap_any _ _ h0 h1).mono ?_; rintro e w' ⟨rfl, rfl⟩)
    go_ret
    exact ⟨ret_int HD.out.symm, rfl⟩
  · have hd : Cal.dim y m = dim0 m := dim_eq m2
    have HD := Lib.hid hd
    clear hd hl
    by_cases m4 : m = 4
    · subst m4
      go_enter Tryd.func30, Tryd.ntmps30
      go_wp2_with fail
      go_ret
      exact ⟨ret_int (by rw [HD.out]; rfl), rfl⟩
    by_cases m6 : m = 6
    · subst m6
      go_enter Tryd.func30, Tryd.ntmps30
      go_wp2_with fail
      go_ret
      exact ⟨ret_int (by rw [HD.out]; rfl), rfl⟩
    by_cases m9 : m = 9
    · subst m9
      go_enter Tryd.func30, Tryd.ntmps30
      go_wp2_with fail
      go_ret
      exact ⟨ret_int (by rw [HD.out]; rfl), rfl⟩
    by_cases m11 : m = 11
    · subst m11
      go_enter Tryd.func30, Tryd.ntmps30
      go_wp2_with fail
      go_ret
      exact ⟨ret_int (by rw [HD.out]; rfl), rfl⟩
    have e0 : dim0 m = 31 := by unfold dim0; rw [if_neg m2, if_neg (by omega)]
    have E0 := Lib.hid e0
    clear e0
    go_enter Tryd.func30, Tryd.ntmps30
    go_wp2_with fail
    go_ret
    exact ⟨ret_int (by rw [HD.out, E0.out]), rfl⟩

set_option maxHeartbeats 400000 in
theorem rday_no (y m d : Int) (w : World) (h : Cal.vldB y m d = false) :
    Calls Tryd.prog 15 #[.int .i64 y, .int .i64 m, .int .i64 d] w fun e w' => e = .returned (.tuple #[.int .i64 0, .bool false]) ∧ w = w' := by
  have h' := Cal.vldB_not.1 h
  clear h
  by_cases a1 : y < 1970
  · clear h'; go_enter Tryd.func15, Tryd.ntmps15
    go_wp2_with fail
    go_ret2
    exact ⟨rfl, rfl⟩
  have b1 : 1970 ≤ y := by omega
  clear a1
  by_cases a2 : 9999 < y
  · clear h'; go_enter Tryd.func15, Tryd.ntmps15
    go_wp2_with fail
    go_ret2
    exact ⟨rfl, rfl⟩
  have b2 : y ≤ 9999 := by omega
  clear a2
  by_cases a3 : m < 1
  · clear h'; go_enter Tryd.func15, Tryd.ntmps15
    go_wp2_with fail
    go_ret2
    exact ⟨rfl, rfl⟩
  have b3 : 1 ≤ m := by omega
  clear a3
  by_cases a4 : 12 < m
  · clear h'; go_enter Tryd.func15, Tryd.ntmps15
    go_wp2_with fail
    go_ret2
    exact ⟨rfl, rfl⟩
  have b4 : m ≤ 12 := by omega
  clear a4
  by_cases a5 : d < 1
  · clear h'; go_enter Tryd.func15, Tryd.ntmps15
    go_wp2_with fail
    go_ret2
    exact ⟨rfl, rfl⟩
  have b5 : 1 ≤ d := by omega
  clear a5
  have b6 : Cal.dim y m < d := by unfold Cal.Vld at h'; omega
  clear h'
  go_enter Tryd.func15, Tryd.ntmps15
  go_wp2_with (go_at_call 30; refine (rlength_any _ _ _ (by omega) (by omega)).mono ?_; rintro e w' ⟨rfl, rfl⟩)
  go_ret2
  exact ⟨rfl, rfl⟩

set_option maxHeartbeats 1000000 in
theorem rday_ok (y m d : Int) (w : World) (h : Cal.vldB y m d = true) :
    Calls Tryd.prog 15 #[.int .i64 y, .int .i64 m, .int .i64 d] w fun e w' => e = .returned (.tuple #[.int .i64 (Cal.num y m d), .bool true]) ∧ w = w' := by
  obtain ⟨b1, b2, b3, b4, b5, b6⟩ := Cal.vldB_iff.1 h
  clear h
  have hd := Cal.dim_hi y m
  go_enter Tryd.func15, Tryd.ntmps15
  go_wp2_with (go_at_call 30; refine (rlength_any _ _ _ (by omega) (by omega)).mono ?_; rintro e w' ⟨rfl, rfl⟩)
  go_loop [8, 9] (fun n i => ∃ k : Int, 1970 ≤ k ∧ k ≤ y ∧ i = .int .i64 k ∧ n = .int .i64 (d - 1 + Cal.bef k)) (fun _ i => (9999 - intOf i).toNat)
  case atStart => exact ⟨1970, by omega, by omega, rfl, by rw [Cal.bef_1970, Int.add_zero]⟩
  case round =>
    obtain ⟨k, hk1, hk2, rfl, rfl⟩ := hrel
    obtain ⟨hb1, hb2⟩ := Cal.bef_bd k hk1 (by omega)
    have hl := Cal.lp_cases k
    have l0 : 0 ≤ Cal.lp k := by omega
    have l1 : Cal.lp k ≤ 1 := by omega
    clear hl
    by_cases hlt : k < y
    · go_wp2_with (go_at_call 31; refine (rleap_any _ _ (by omega) (by omega)).mono ?_; rintro e w' ⟨rfl, rfl⟩)
      go_round
      case rel => exact ⟨k + 1, by omega, by omega, rfl, by rw [Cal.bef_succ k]; go_num⟩
      case measure => simp [intOf]; omega
    · have e : k = y := by omega
      subst e
      clear hlt l0 l1
      go_wp2_with fail
      go_loop [8, 10] (fun n i => ∃ j : Int, 1 ≤ j ∧ j ≤ m ∧ i = .int .i64 j ∧ n = .int .i64 (d - 1 + Cal.bef k + Cal.cum k j)) (fun _ i => (13 - intOf i).toNat)
      case atStart => exact ⟨1, by omega, by omega, rfl, by rw [Cal.cum_1, Int.add_zero]⟩
      case round =>
        obtain ⟨j, hj1, hj2, rfl, rfl⟩ := hrel
        have cb := Cal.cum_bd k j hj1 (by omega)
        have dl := Cal.dim_lo k j
        have dh := Cal.dim_hi k j
        obtain ⟨cb1, cb2⟩ := cb
        by_cases hlt : j < m
        · go_wp2_with (go_at_call 30; refine (rlength_any _ _ _ (by omega) (by omega)).mono ?_; rintro e w' ⟨rfl, rfl⟩)
          go_round
          case rel => exact ⟨j + 1, by omega, by omega, rfl, by rw [Cal.cum_succ k j (by omega) (by omega)]; go_num⟩
          case measure => simp [intOf]; omega
        · have e : j = m := by omega
          subst e
          go_wp2_with fail
          go_ret2
          exact ⟨ret_int2 (by unfold Cal.num; omega), rfl⟩

def RDateP (n : Int) (w : World) (e : Ending) (w' : World) : Prop :=
  ∃ y m d : Int, Cal.vldB y m d = true ∧ Cal.num y m d = n ∧ e = .returned (.tuple #[.int .i64 y, .int .i64 m, .int .i64 d]) ∧ w = w'

set_option maxHeartbeats 1000000 in
theorem rdate_ok (n : Int) (w : World) (h0 : 0 ≤ n) (h1 : n ≤ 2932896) :
    Calls Tryd.prog 17 #[.int .i64 n] w (RDateP n w) := by
  go_enter Tryd.func17, Tryd.ntmps17
  go_wp2_with fail
  go_loop [0, 5] (fun r t => ∃ y : Int, 1970 ≤ y ∧ y ≤ 9999 ∧ Cal.bef y ≤ n ∧ t = .int .i64 y ∧ r = .int .i64 (n - Cal.bef y)) (fun _ t => (9999 - intOf t).toNat)
  case atStart => exact ⟨1970, by omega, by omega, by rw [Cal.bef_1970]; exact h0, rfl, by rw [Cal.bef_1970, Int.sub_zero]⟩
  case round =>
    obtain ⟨y, hy1, hy2, hy3, rfl, rfl⟩ := hrel
    obtain ⟨hb1, hb2⟩ := Cal.bef_bd y hy1 (by omega)
    have hl := Cal.lp_cases y
    have l0 : 0 ≤ Cal.lp y := by omega
    have l1 : Cal.lp y ≤ 1 := by omega
    clear hl
    have hs := Lib.hid (Cal.bef_succ y)
    by_cases hc : 365 + Cal.lp y ≤ n - Cal.bef y
    · have hy4 : y < 9999 := by
        by_cases e : y = 9999
        · subst e; have := Cal.bef_10000; have h2 := hs.out; have e2 : (9999 : Int) + 1 = 10000 := rfl; rw [e2] at h2; omega
        · omega
      go_wp2_with (go_at_call 31; refine (rleap_any _ _ (by omega) (by omega)).mono ?_; rintro e w' ⟨rfl, rfl⟩)
      go_round
      case rel => exact ⟨y + 1, by omega, by omega, by rw [hs.out]; omega, rfl, by rw [hs.out]; go_num⟩
      case measure => simp [intOf]; omega
    · have hz : n - Cal.bef y < 365 + Cal.lp y := by omega
      clear hc
      go_wp2_with (go_at_call 31; refine (rleap_any _ _ (by omega) (by omega)).mono ?_; rintro e w' ⟨rfl, rfl⟩)
      go_loop [0, 6] (fun r k => ∃ m : Int, 1 ≤ m ∧ m ≤ 12 ∧ k = .int .i64 m ∧ 0 ≤ n - Cal.bef y - Cal.cum y m ∧ r = .int .i64 (n - Cal.bef y - Cal.cum y m)) (fun _ k => (12 - intOf k).toNat)
      case atStart => exact ⟨1, by omega, by omega, rfl, by rw [Cal.cum_1]; omega, by rw [Cal.cum_1, Int.sub_zero]⟩
      case round =>
        obtain ⟨m, hm1, hm2, rfl, hr, rfl⟩ := hrel
        obtain ⟨cb1, cb2⟩ := Cal.cum_bd y m hm1 (by omega)
        have dl := Cal.dim_lo y m
        have dh := Cal.dim_hi y m
        by_cases hc : Cal.dim y m ≤ n - Cal.bef y - Cal.cum y m
        · have hm : m < 12 := by
            by_cases e : m = 12
            · subst e
              have := Cal.cum_12 y
              omega
            · omega
          go_wp2_with (go_at_call 30; refine (rlength_any _ _ _ (by omega) (by omega)).mono ?_; rintro e w' ⟨rfl, rfl⟩)
          go_round
          case rel => exact ⟨m + 1, by omega, by omega, rfl, by rw [Cal.cum_succ y m hm1 hm2]; omega, by rw [Cal.cum_succ y m hm1 hm2]; go_num⟩
          case measure => simp [intOf]; omega
        · have hc' : n - Cal.bef y - Cal.cum y m < Cal.dim y m := by omega
          clear hc
          go_wp2_with (go_at_call 30; refine (rlength_any _ _ _ (by omega) (by omega)).mono ?_; rintro e w' ⟨rfl, rfl⟩)
          go_ret3
          exact ⟨y, m, _, vld_of hy1 hy2 hm1 hm2 hr hc', num_of, rfl, rfl⟩

set_option maxHeartbeats 400000 in
theorem rweekday_any (n : Int) (w : World) :
    Calls Tryd.prog 22 #[.int .i64 n] w fun e w' => e = .returned (.int .i64 (wkd n)) ∧ w = w' := by
  obtain ⟨a1, a2⟩ := tmod7 n
  obtain ⟨b1, b2⟩ := tmod7 (n.tmod 7 + 4)
  go_enter Tryd.func22, Tryd.ntmps22
  go_wp2
  go_ret
  exact ⟨rfl, rfl⟩
end Go.Proofs.YtdbheaapeemlmaaDoor
