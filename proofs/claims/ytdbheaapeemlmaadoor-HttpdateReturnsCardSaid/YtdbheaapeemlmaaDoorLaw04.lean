/- The laws of chapter 04, walked. -/
import Derived.Test.YtdbheaapeemlmaaDoorRef04C
namespace Go.Proofs.YtdbheaapeemlmaaDoor
open Go.RowKit

def ex1 : ByteArray := ⟨#[83, 117, 110, 44, 32, 48, 54, 32, 78, 111, 118, 32, 49, 57, 57, 52, 32, 48, 56, 58, 52, 57, 58, 51, 55, 32, 71, 77, 84]⟩
theorem ex1_text : IsText ex1 784111777 := ⟨by decide, by decide, 1994, 11, 6, by decide, by decide, rfl⟩
theorem ex2 : Cal.num 2000 3 1 = 11017 := by decide
theorem ex2v : Cal.vldB 2000 3 1 = true := by decide

set_option maxHeartbeats 1000000 in
theorem awake_any (w : World) (hL : Laid w) : Calls Tryd.prog 10 #[] w fun e w' => e = .returned (.bool true) ∧ Ext w w' := by
  go_enter Tryd.func10, Tryd.ntmps10
  go_wp2_with fail
  refine (format_q _ _ hL (by omega) (by omega)).mono ?_
  rintro e w' ⟨F, hT, hS, rfl, fx⟩
  have hF := hT.uniq ex1_text
  subst hF
  have hx : Hid (Cal.num 2000 3 1 = 11017) := ex2
  go_wp2_with fail
  refine (day_ok _ _ _ _ (hL.ext fx) ex2v).mono ?_
  rintro e w' ⟨rfl, rfl⟩
  rw [hx.out]
  have hl : (ex1.toList == [83, 117, 110, 44, 32, 48, 54, 32, 78, 111, 118, 32, 49, 57, 57, 52, 32, 48, 56, 58, 52, 57, 58, 51, 55, 32, 71, 77, 84]) = true := by unfold ex1; simp [ByteArray.toList_eq]
  go_wp2_with fail
  go_ret
  exact ⟨rfl, fx⟩

set_option maxHeartbeats 1000000 in
theorem formats_law (n : Int) (w : World) (hL : Laid w) : Calls Tryd.prog 3 #[.int .i64 n] w fun e w' => e = .returned (.bool true) ∧ Ext w w' := by
  by_cases h : n < 0 ∨ 253402300799 < n
  · go_enter Tryd.func3, Tryd.ntmps3
    go_wp2_with fail
    refine (awake_any w hL).mono ?_
    rintro e w1 ⟨rfl, hx⟩
    go_wp2_with fail
    refine (format_no n _ h).mono ?_
    rintro e w2 ⟨rfl, hx2⟩
    rcases h with h | h
    · go_wp2_with (go_at_call 12; refine (is_err 1 _ (by omega)).mono ?_; rintro e w' ⟨rfl, rfl⟩)
      go_ret
      exact ⟨rfl, hx.trans hx2⟩
    · have h' : ¬ n < 0 := by omega
      go_wp2_with (go_at_call 12; refine (is_err 1 _ (by omega)).mono ?_; rintro e w' ⟨rfl, rfl⟩)
      go_ret
      exact ⟨rfl, hx.trans hx2⟩
  · have h0 : 0 ≤ n := by omega
    have h1 : n ≤ 253402300799 := by omega
    clear h
    go_enter Tryd.func3, Tryd.ntmps3
    go_wp2_with fail
    refine (awake_any w hL).mono ?_
    rintro e w1 ⟨rfl, hx⟩
    go_wp2_with fail
    refine (format_q n _ (hL.ext hx) h0 h1).mono ?_
    rintro e w2 ⟨F, hT, hS, rfl, hx2⟩
    go_wp2_with fail
    refine (rformat_any n _ h0 h1).mono ?_
    rintro e w3 ⟨G, hT2, hS2, rfl, hx3⟩
    obtain rfl := hT.uniq hT2
    go_wp2_with fail
    go_ret
    exact ⟨ret_bool (by simp), (hx.trans hx2).trans hx3⟩

set_option maxHeartbeats 1000000 in
theorem days_law (y m d : Int) (w : World) (hL : Laid w) : Calls Tryd.prog 4 #[.int .i64 y, .int .i64 m, .int .i64 d] w fun e w' => e = .returned (.bool true) ∧ Ext w w' := by
  by_cases h : Cal.vldB y m d = true
  · go_enter Tryd.func4, Tryd.ntmps4
    go_wp2_with fail
    refine (awake_any w hL).mono ?_
    rintro e w1 ⟨rfl, hx⟩
    go_wp2_with (first
      | (go_at_call 14; refine (day_ok _ _ _ _ (hL.ext hx) h).mono ?_; rintro e w' ⟨rfl, rfl⟩)
      | (go_at_call 15; refine (rday_ok _ _ _ _ h).mono ?_; rintro e w' ⟨rfl, rfl⟩))
    go_ret
    exact ⟨ret_bool (by simp), hx⟩
  · have h' : Cal.vldB y m d = false := by simpa using h
    clear h
    go_enter Tryd.func4, Tryd.ntmps4
    go_wp2_with fail
    refine (awake_any w hL).mono ?_
    rintro e w1 ⟨rfl, hx⟩
    go_wp2_with (first
      | (go_at_call 14; refine (day_no _ _ _ _ (hL.ext hx) h').mono ?_; rintro e w' ⟨rfl, rfl⟩)
      | (go_at_call 15; refine (rday_no _ _ _ _ h').mono ?_; rintro e w' ⟨rfl, rfl⟩)
      | (go_at_call 12; refine (is_err 1 _ (by omega)).mono ?_; rintro e w' ⟨rfl, rfl⟩))
    go_ret
    exact ⟨rfl, hx⟩

set_option maxHeartbeats 1000000 in
theorem dates_law (n : Int) (w : World) (hL : Laid w) : Calls Tryd.prog 5 #[.int .i64 n] w fun e w' => e = .returned (.bool true) ∧ Ext w w' := by
  by_cases h : n < 0 ∨ 2932896 < n
  · go_enter Tryd.func5, Tryd.ntmps5
    go_wp2_with fail
    refine (awake_any w hL).mono ?_
    rintro e w1 ⟨rfl, hx⟩
    go_wp2_with fail
    refine (date_no n _ h).mono ?_
    rintro e w2 ⟨rfl, rfl⟩
    rcases h with h | h
    · go_wp2_with (go_at_call 12; refine (is_err 1 _ (by omega)).mono ?_; rintro e w' ⟨rfl, rfl⟩)
      go_ret
      exact ⟨rfl, hx⟩
    · have h' : ¬ n < 0 := by omega
      go_wp2_with (go_at_call 12; refine (is_err 1 _ (by omega)).mono ?_; rintro e w' ⟨rfl, rfl⟩)
      go_ret
      exact ⟨rfl, hx⟩
  · have h0 : 0 ≤ n := by omega
    have h1 : n ≤ 2932896 := by omega
    clear h
    go_enter Tryd.func5, Tryd.ntmps5
    go_wp2_with fail
    refine (awake_any w hL).mono ?_
    rintro e w1 ⟨rfl, hx⟩
    go_wp2_with fail
    refine (date_ok n _ (hL.ext hx) h0 h1).mono ?_
    rintro e w2 ⟨y, m, d, hv, hn, rfl, rfl⟩
    have HN := Lib.hid hn
    clear hn
    go_wp2_with fail
    refine (rdate_ok n _ h0 h1).mono ?_
    rintro e w2 ⟨y', m', d', hv', hn', rfl, rfl⟩
    obtain ⟨rfl, rfl, rfl⟩ := Cal.num_inj (Cal.vldB_iff.1 hv) (Cal.vldB_iff.1 hv') (HN.out.trans hn'.symm)
    clear hn' hv'
    go_wp2_with fail
    refine (day_ok _ _ _ _ (hL.ext hx) hv).mono ?_
    rintro e w2 ⟨rfl, rfl⟩
    rw [HN.out]
    go_wp2_with fail
    go_ret
    exact ⟨ret_bool (by simp), hx⟩

theorem wkd_eq (n : Int) : wkd n = (n + 4) % 7 := by
  have a := Int.mul_tdiv_add_tmod n 7
  have b := Int.mul_tdiv_add_tmod (n.tmod 7 + 4) 7
  unfold wkd
  omega
theorem wkd_next (n : Int) : wkd (n + 1) = (wkd n + 1) % 7 := by rw [wkd_eq, wkd_eq]; omega
theorem wkd_week (n : Int) : wkd (n + 7) = wkd n := by rw [wkd_eq, wkd_eq]; omega

theorem day_step {y m d y' m' d' : Int} (h : Cal.Vld y m d) (h' : Cal.Vld y' m' d') (e : Cal.num y' m' d' = Cal.num y m d + 1) :
    (d' = d + 1 ∧ y' = y ∧ m' = m ∧ d' ≤ 31) ∨ (d' = 1 ∧ m' = m + 1 ∧ y' = y ∧ 28 ≤ d) ∨ (d' = 1 ∧ m' = 1 ∧ m = 12 ∧ d = 31 ∧ y' = y + 1) := by
  obtain ⟨h1, h2, h3, h4, h5, h6⟩ := h
  have a := Cal.dim_lo y m
  have b := Cal.dim_hi y m
  by_cases c : d < Cal.dim y m
  · have hv : Cal.Vld y m (d + 1) := ⟨h1, h2, h3, h4, by omega, by omega⟩
    obtain ⟨rfl, rfl, rfl⟩ := Cal.num_inj h' hv (by rw [e]; unfold Cal.num; omega)
    exact .inl ⟨rfl, rfl, rfl, by omega⟩
  · have hd : d = Cal.dim y m := by omega
    by_cases cm : m < 12
    · have hv : Cal.Vld y (m + 1) 1 := ⟨h1, h2, by omega, by omega, by omega, by have := Cal.dim_lo y (m + 1); omega⟩
      have hs := Cal.cum_succ y m h3 h4
      obtain ⟨rfl, rfl, rfl⟩ := Cal.num_inj h' hv (by rw [e]; unfold Cal.num; omega)
      exact .inr (.inl ⟨rfl, rfl, rfl, by omega⟩)
    · have hm : m = 12 := by omega
      subst hm
      have hs := Cal.bef_succ y
      have h12 := Cal.cum_12 y
      have h31 : Cal.dim y 12 = 31 := by simp [Cal.dim]
      have hr := Cal.num_range h'
      have hy : y < 9999 := by
        by_cases c9 : y = 9999
        · subst c9
          have e1 : Cal.bef (9999 + 1) = 2932897 := Cal.bef_10000
          rw [e] at hr
          unfold Cal.num at hr
          omega
        · omega
      have hv : Cal.Vld (y + 1) 1 1 := ⟨by omega, by omega, by omega, by omega, by omega, by have := Cal.dim_lo (y + 1) 1; omega⟩
      have h01 := Cal.cum_1 (y + 1)
      obtain ⟨rfl, rfl, rfl⟩ := Cal.num_inj h' hv (by rw [e]; unfold Cal.num; omega)
      exact .inr (.inr ⟨rfl, rfl, rfl, by omega, rfl⟩)

set_option maxHeartbeats 2000000 in
theorem steps_law (n : Int) (w : World) (hL : Laid w) : Calls Tryd.prog 6 #[.int .i64 n] w fun e w' => e = .returned (.bool true) ∧ Ext w w' := by
  go_enter Tryd.func6, Tryd.ntmps6
  go_wp2_with fail
  refine (awake_any w hL).mono ?_
  rintro e w1 ⟨rfl, hx⟩
  go_wp2_with fail
  refine (clip_any _ _ _ _).mono ?_
  rintro e w1 ⟨rfl, rfl⟩
  obtain ⟨k, hk⟩ : ∃ k, k = max 0 (min n 2932895) := ⟨_, rfl⟩
  have k0 : 0 ≤ k := by omega
  have k1 : k ≤ 2932895 := by omega
  rw [← hk]
  clear hk
  go_wp2_with fail
  refine (date_ok k _ (hL.ext hx) k0 (by omega)).mono ?_
  rintro e w2 ⟨y, m, d, hv, hn, rfl, rfl⟩
  have HN := Lib.hid hn
  clear hn
  go_wp2_with fail
  refine (date_ok (k + 1) _ (hL.ext hx) (by omega) (by omega)).mono ?_
  rintro e w2 ⟨y', m', d', hv', hn', rfl, rfl⟩
  have HN' := Lib.hid hn'
  clear hn'
  have hs := day_step (Cal.vldB_iff.1 hv) (Cal.vldB_iff.1 hv') (by rw [HN.out, HN'.out])
  have HW := Lib.hid (wkd_next k)
  obtain ⟨v1, v2, v3, v4, v5, v6⟩ := Cal.vldB_iff.1 hv
  have v7 := Cal.dim_hi y m
  obtain ⟨q1, q2⟩ := wkd_bd k
  clear hv hv'
  have hwk : (wkd (k + 1) != (wkd k + 1) % 7) = false := by rw [HW.out]; simp
  rcases hs with ⟨s1, s2, s3, s4⟩ | ⟨s1, s2, s3, s4⟩ | ⟨s1, s2, s3, s4, s5⟩
  · obtain rfl := s2
    obtain rfl := s3
    obtain rfl := s1
    go_wp2_with (go_at_call 19; refine (weekday_any _ _).mono ?_; rintro e w' ⟨rfl, rfl⟩)
    go_ret
    exact ⟨ret_bool (by simp), hx⟩
  · obtain rfl := s3
    obtain rfl := s2
    obtain rfl := s1
    go_wp2_with (go_at_call 19; refine (weekday_any _ _).mono ?_; rintro e w' ⟨rfl, rfl⟩)
    go_ret
    exact ⟨ret_bool (by simp), hx⟩
  · obtain rfl := s5
    obtain rfl := s1
    obtain rfl := s2
    obtain rfl := s3
    obtain rfl := s4
    go_wp2_with (go_at_call 19; refine (weekday_any _ _).mono ?_; rintro e w' ⟨rfl, rfl⟩)
    go_ret
    exact ⟨ret_bool (by simp), hx⟩

set_option maxHeartbeats 2000000 in
theorem weekdays_law (n : Int) (w : World) (hL : Laid w) (hn0 : -9223372036854775808 ≤ n) (hn1 : n ≤ 9223372036854775807) : Calls Tryd.prog 7 #[.int .i64 n] w fun e w' => e = .returned (.bool true) ∧ Ext w w' := by
  go_enter Tryd.func7, Tryd.ntmps7
  go_wp2_with fail
  refine (awake_any w hL).mono ?_
  rintro e w1 ⟨rfl, hx⟩
  go_wp2_with fail
  refine (time_any _ _).mono ?_
  rintro e w1 ⟨rfl, rfl⟩
  go_wp2_with fail
  refine (floor_any _ _).mono ?_
  rintro e w1 ⟨rfl, rfl⟩
  obtain ⟨k, hk⟩ : ∃ k, k = max 0 (min n 1099511627776) := ⟨_, rfl⟩
  have k0 : 0 ≤ k := by omega
  have k1 : k ≤ 1099511627776 := by omega
  rw [← hk]
  clear hk
  obtain ⟨q1, q2⟩ := wkd_bd n
  have HW := Lib.hid (wkd_week n)
  by_cases c1 : 1099511627776 < n
  · go_wp2_with (first
      | (go_at_call 19; refine (weekday_any _ _).mono ?_; rintro e w' ⟨rfl, rfl⟩)
      | (go_at_call 22; refine (rweekday_any _ _).mono ?_; rintro e w' ⟨rfl, rfl⟩))
    all_goals go_ret
    all_goals exact ⟨rfl, hx⟩
  by_cases c2 : n < -1099511627776
  · go_wp2_with (first
      | (go_at_call 19; refine (weekday_any _ _).mono ?_; rintro e w' ⟨rfl, rfl⟩)
      | (go_at_call 22; refine (rweekday_any _ _).mono ?_; rintro e w' ⟨rfl, rfl⟩))
    all_goals go_ret
    all_goals exact ⟨rfl, hx⟩
  go_wp2_with (first
    | (go_at_call 19; refine (weekday_any _ _).mono ?_; rintro e w' ⟨rfl, rfl⟩)
    | (go_at_call 22; refine (rweekday_any _ _).mono ?_; rintro e w' ⟨rfl, rfl⟩))
  all_goals go_ret
  all_goals exact ⟨ret_bool (by rw [HW.out]; simp), hx⟩

set_option maxHeartbeats 1000000 in
theorem parses_law (s : ByteArray) (w : World) (hL : Laid w) : Calls Tryd.prog 8 #[.string s] w fun e w' => e = .returned (.bool true) ∧ Ext w w' := by
  go_enter Tryd.func8, Tryd.ntmps8
  go_wp2_with fail
  refine (awake_any w hL).mono ?_
  rintro e w1 ⟨rfl, hx⟩
  go_wp2_with fail
  refine (parse_any s _ (hL.ext hx)).mono ?_
  rintro e w2 ⟨hx2, hp⟩
  rcases hp with ⟨n, ht, rfl⟩ | ⟨hno, rfl⟩
  · go_wp2_with fail
    refine (rparse_any s _).mono ?_
    rintro e w3 ⟨hx3, hr⟩
    rcases hr with ⟨k, ht2, rfl⟩ | ⟨hno2, x, rfl⟩
    · obtain rfl := ht.inj ht2
      go_wp2_with fail
      go_ret
      exact ⟨ret_bool (by simp), (hx.trans hx2).trans hx3⟩
    · exact absurd ht (hno2 n)
  · have HNO := Lib.hid hno
    clear hno
    go_wp2_with fail
    refine (rparse_any s _).mono ?_
    rintro e w3 ⟨hx3, hr⟩
    rcases hr with ⟨k, ht2, rfl⟩ | ⟨hno2, x, rfl⟩
    · exact absurd ht2 (HNO.out k)
    · clear hno2
      go_wp2_with (go_at_call 12; refine (is_err 2 _ (by omega)).mono ?_; rintro e w' ⟨rfl, rfl⟩)
      go_ret
      exact ⟨rfl, (hx.trans hx2).trans hx3⟩
end Go.Proofs.YtdbheaapeemlmaaDoor
