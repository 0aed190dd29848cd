/- Walks of package httpdate: numbers, days and dates. -/
import Derived.Test.YtdbheaapeemlmaaDoorProg
import Derived.Test.YtdbheaapeemlmaaDoorKit
import Derived.Test.YtdbheaapeemlmaaDoorCal
import Derived.Test.YtdbheaapeemlmaaDoorBase
namespace Go.Proofs.YtdbheaapeemlmaaDoor
open Go.RowKit

def wdS : Nat → ByteArray
  | 0 => ⟨#[83, 117, 110]⟩ | 1 => ⟨#[77, 111, 110]⟩ | 2 => ⟨#[84, 117, 101]⟩ | 3 => ⟨#[87, 101, 100]⟩ | 4 => ⟨#[84, 104, 117]⟩ | 5 => ⟨#[70, 114, 105]⟩ | _ => ⟨#[83, 97, 116]⟩
def moS : Nat → ByteArray
  | 0 => ⟨#[74, 97, 110]⟩ | 1 => ⟨#[70, 101, 98]⟩ | 2 => ⟨#[77, 97, 114]⟩ | 3 => ⟨#[65, 112, 114]⟩ | 4 => ⟨#[77, 97, 121]⟩ | 5 => ⟨#[74, 117, 110]⟩
  | 6 => ⟨#[74, 117, 108]⟩ | 7 => ⟨#[65, 117, 103]⟩ | 8 => ⟨#[83, 101, 112]⟩ | 9 => ⟨#[79, 99, 116]⟩ | 10 => ⟨#[78, 111, 118]⟩ | _ => ⟨#[68, 101, 99]⟩
def dim0 (m : Int) : Int := if m = 2 then 28 else if m = 4 ∨ m = 6 ∨ m = 9 ∨ m = 11 then 30 else 31
/-- the package's three tables -/
structure Laid (w : World) : Prop where
  wd : ∀ k : Nat, k < 7 → w.cell? ⟨0, k, none⟩ = some (.string (wdS k))
  mo : ∀ k : Nat, k < 12 → w.cell? ⟨1, k, none⟩ = some (.string (moS k))
  le : ∀ k : Nat, k < 12 → w.cell? ⟨2, k, none⟩ = some (.int .i64 (dim0 ((k : Int) + 1)))
theorem Laid.ext {w w' : World} (h : Laid w) (e : Ext w w') : Laid w' :=
  ⟨fun k hk => e.cell (h.wd k hk), fun k hk => e.cell (h.mo k hk), fun k hk => e.cell (h.le k hk)⟩



set_option maxHeartbeats 400000 in
theorem leap_any (y : Int) (w : World) (h0 : 0 ≤ y) (h1 : y ≤ 10000) :
    Calls Tryd.prog 34 #[.int .i64 y] w fun e w' => e = .returned (.bool (Cal.leapB y)) ∧ w = w' := by
  go_enter Tryd.func34, Tryd.ntmps34
  go_wp2
  all_goals go_ret
  all_goals exact ⟨ret_bool (by simp [Cal.leapB, *]), rfl⟩

theorem dim_eq {y m : Int} (h : m ≠ 2) : Cal.dim y m = dim0 m := by unfold Cal.dim dim0; rw [if_neg h, if_neg h]
theorem dim_two_yes {y : Int} (h : Cal.leapB y = true) : Cal.dim y 2 = 29 := by unfold Cal.dim Cal.lp; rw [if_pos rfl, if_pos h]; rfl
theorem dim_two_no {y : Int} (h : Cal.leapB y = false) : Cal.dim y 2 = 28 := by unfold Cal.dim Cal.lp; rw [if_pos rfl, h]; rfl

set_option maxHeartbeats 400000 in
theorem month_any (y m : Int) (w : World) (hL : Laid w) (h0 : 0 ≤ y) (h1 : y ≤ 10000) (h2 : 1 ≤ m) (h3 : m ≤ 12) :
    Calls Tryd.prog 28 #[.int .i64 y, .int .i64 m] w fun e w' => e = .returned (.int .i64 (Cal.dim y m)) ∧ w = w' := by
  have hc : w.cell? ⟨2, m.toNat - 1, none⟩ = some (.int .i64 (dim0 m)) := by
    have := hL.le (m.toNat - 1) (by omega)
    rwa [show (((m.toNat - 1 : Nat) : Int) + 1) = m from by omega] at this
  by_cases hm : m = 2
  · subst hm
    by_cases hl : Cal.leapB y = true
    · go_enter Tryd.func28, Tryd.ntmps28
      go_wp2_with (go_at_call 34; refine (leap_any _ _ h0 h1).mono ?_; rintro e w' ⟨rfl, rfl⟩)
      go_ret
      exact ⟨ret_int (dim_two_yes hl).symm, rfl⟩
    · have hl' : Cal.leapB y = false := by simpa using hl
      clear hl
      have hc2 : w.cell? ⟨2, 1, none⟩ = some (.int .i64 28) := hL.le 1 (by omega)
      go_enter Tryd.func28, Tryd.ntmps28
      go_wp2_with (go_at_call 34; refine (leap_any _ _ h0 h1).mono ?_; rintro e w' ⟨rfl, rfl⟩)
      go_ret
      exact ⟨ret_int (dim_two_no hl').symm, rfl⟩
  · have hd := Lib.hid (dim_eq (y := y) hm)
    go_enter Tryd.func28, Tryd.ntmps28
    go_wp2_with fail
    go_ret
    exact ⟨ret_int hd.out.symm, rfl⟩

set_option maxHeartbeats 400000 in
theorem before_any (y : Int) (w : World) (h0 : 1 ≤ y) (h1 : y ≤ 10000) :
    Calls Tryd.prog 29 #[.int .i64 y] w fun e w' => e = .returned (.int .i64 (Cal.bef y)) ∧ w = w' := by
  go_enter Tryd.func29, Tryd.ntmps29
  go_wp2
  go_ret
  exact ⟨ret_int (by unfold Cal.bef; omega), rfl⟩

theorem tmod7 (n : Int) : -6 ≤ n.tmod 7 ∧ n.tmod 7 ≤ 6 := by
  rcases Int.le_total 0 n with h | h
  · rw [Int.tmod_eq_emod_of_nonneg h]; omega
  · have e : n.tmod 7 = -((-n).tmod 7) := by rw [Int.neg_tmod, Int.neg_neg]
    rw [e, Int.tmod_eq_emod_of_nonneg (by omega)]; omega
def wkd (n : Int) : Int := ((n.tmod 7 + 4).tmod 7 + 7) % 7
theorem wkd_bd (n : Int) : 0 ≤ wkd n ∧ wkd n ≤ 6 := by unfold wkd; omega
set_option maxHeartbeats 400000 in
theorem weekday_any (n : Int) (w : World) :
    Calls Tryd.prog 19 #[.int .i64 n] w fun e w' => e = .returned (.int .i64 (wkd n)) ∧ w = w' := by
  obtain ⟨a1, a2⟩ := tmod7 n
  obtain ⟨b1, b2⟩ := tmod7 (n.tmod 7 + 4)
  go_enter Tryd.func19, Tryd.ntmps19
  go_wp2
  go_ret
  exact ⟨rfl, rfl⟩

set_option maxHeartbeats 400000 in
theorem day_no (y m d : Int) (w : World) (hL : Laid w) (h : Cal.vldB y m d = false) :
    Calls Tryd.prog 14 #[.int .i64 y, .int .i64 m, .int .i64 d] w fun e w' => e = .returned (.tuple #[.int .i64 0, errV 1]) ∧ w = w' := by
  have h' := Cal.vldB_not.1 h
  clear h
  by_cases a1 : y < 1970
  · clear h'; go_enter Tryd.func14, Tryd.ntmps14
    go_wp2_with fail
    go_ret2
    exact ⟨rfl, rfl⟩
  have b1 : 1970 ≤ y := by omega
  clear a1
  by_cases a2 : 9999 < y
  · clear h'; go_enter Tryd.func14, Tryd.ntmps14
    go_wp2_with fail
    go_ret2
    exact ⟨rfl, rfl⟩
  have b2 : y ≤ 9999 := by omega
  clear a2
  by_cases a3 : m < 1
  · clear h'; go_enter Tryd.func14, Tryd.ntmps14
    go_wp2_with fail
    go_ret2
    exact ⟨rfl, rfl⟩
  have b3 : 1 ≤ m := by omega
  clear a3
  by_cases a4 : 12 < m
  · clear h'; go_enter Tryd.func14, Tryd.ntmps14
    go_wp2_with fail
    go_ret2
    exact ⟨rfl, rfl⟩
  have b4 : m ≤ 12 := by omega
  clear a4
  by_cases a5 : d < 1
  · clear h'; go_enter Tryd.func14, Tryd.ntmps14
    go_wp2_with fail
    go_ret2
    exact ⟨rfl, rfl⟩
  have b5 : 1 ≤ d := by omega
  clear a5
  have b6 : Cal.dim y m < d := by unfold Cal.Vld at h'; omega
  clear h'
  go_enter Tryd.func14, Tryd.ntmps14
  go_wp2_with (go_at_call 28; refine (month_any _ _ _ hL (by omega) (by omega) b3 b4).mono ?_; rintro e w' ⟨rfl, rfl⟩)
  go_ret2
  exact ⟨rfl, rfl⟩

set_option maxHeartbeats 400000 in
theorem day_ok (y m d : Int) (w : World) (hL : Laid w) (h : Cal.vldB y m d = true) :
    Calls Tryd.prog 14 #[.int .i64 y, .int .i64 m, .int .i64 d] w fun e w' => e = .returned (.tuple #[.int .i64 (Cal.num y m d), .nilIface]) ∧ w = w' := by
  obtain ⟨b1, b2, b3, b4, b5, b6⟩ := Cal.vldB_iff.1 h
  clear h
  have hb := Cal.bef_bd y b1 (by omega)
  have hd := Cal.dim_hi y m
  obtain ⟨hb1, hb2⟩ := hb
  go_enter Tryd.func14, Tryd.ntmps14
  go_wp2_with (first
    | (go_at_call 28; refine (month_any _ _ _ hL (by omega) (by omega) b3 b4).mono ?_; rintro e w' ⟨rfl, rfl⟩)
    | (go_at_call 29; refine (before_any _ _ (by omega) (by omega)).mono ?_; rintro e w' ⟨rfl, rfl⟩))
  go_loop [8, 9] (fun n i => ∃ k : Int, 1 ≤ k ∧ k ≤ m ∧ i = .int .i64 k ∧ n = .int .i64 (Cal.bef y + Cal.cum y k + d - 1)) (fun _ i => (13 - intOf i).toNat)
  case atStart => exact ⟨1, by omega, by omega, rfl, by rw [Cal.cum_1, Int.add_zero]⟩
  case round =>
    obtain ⟨k, hk1, hk2, rfl, rfl⟩ := hrel
    have cb := Cal.cum_bd y k hk1 (by omega)
    have dl := Cal.dim_lo y k
    have dh := Cal.dim_hi y k
    obtain ⟨cb1, cb2⟩ := cb
    by_cases hlt : k < m
    · go_wp2_with (go_at_call 28; refine (month_any _ _ _ hL (by omega) (by omega) (by omega) (by omega)).mono ?_; rintro e w' ⟨rfl, rfl⟩)
      go_round
      case rel => exact ⟨k + 1, by omega, by omega, rfl, by rw [Cal.cum_succ y k (by omega) (by omega)]; go_num⟩
      case measure => simp [intOf]; omega
    · go_wp2_with fail
      go_ret2
      have e : k = m := by omega
      subst e
      exact ⟨by unfold Cal.num; rfl, rfl⟩

theorem date_no (n : Int) (w : World) (h : n < 0 ∨ 2932896 < n) :
    Calls Tryd.prog 16 #[.int .i64 n] w fun e w' => e = .returned (.tuple #[.int .i64 0, .int .i64 0, .int .i64 0, errV 1]) ∧ w = w' := by
  rcases h with h | h
  · go_enter Tryd.func16, Tryd.ntmps16
    go_wp2_with fail
    exact bodyPost_ret (v := .tuple #[.int .i64 0, .int .i64 0, .int .i64 0, errV 1]) (by simp [results, Tryd.results16, go_sem]) rfl ⟨rfl, rfl⟩
  · have h' : ¬ n < 0 := by omega
    go_enter Tryd.func16, Tryd.ntmps16
    go_wp2_with fail
    exact bodyPost_ret (v := .tuple #[.int .i64 0, .int .i64 0, .int .i64 0, errV 1]) (by simp [results, Tryd.results16, go_sem]) rfl ⟨rfl, rfl⟩

def DateP (n : Int) (w : World) (e : Ending) (w' : World) : Prop :=
  ∃ y m d : Int, Cal.vldB y m d = true ∧ Cal.num y m d = n ∧ e = .returned (.tuple #[.int .i64 y, .int .i64 m, .int .i64 d, .nilIface]) ∧ w = w'

theorem vld_of {n y k : Int} (a : 1970 ≤ y) (b : y ≤ 9999) (h1 : 1 ≤ k) (h2 : k ≤ 12) (c : 0 ≤ n - Cal.bef y - Cal.cum y k) (d : n - Cal.bef y - Cal.cum y k < Cal.dim y k) :
    Cal.vldB y k (n - Cal.bef y - Cal.cum y k + 1) = true := Cal.vldB_iff.2 ⟨a, b, h1, h2, by omega, by omega⟩
theorem num_of {n y k : Int} : Cal.num y k (n - Cal.bef y - Cal.cum y k + 1) = n := by unfold Cal.num; omega

set_option maxHeartbeats 1000000 in
theorem date_ok (n : Int) (w : World) (hL : Laid w) (h0 : 0 ≤ n) (h1 : n ≤ 2932896) :
    Calls Tryd.prog 16 #[.int .i64 n] w (DateP n w) := by
  obtain ⟨g0, g1, g2⟩ := Cal.guess n h0 h1
  go_enter Tryd.func16, Tryd.ntmps16
  go_wp2_with fail
  go_loop [2] (fun t => ∃ y : Int, 1970 ≤ y ∧ y ≤ 9999 ∧ Cal.bef y ≤ n ∧ t = .int .i64 y) (fun t => (9999 - intOf t).toNat)
  case atStart => exact ⟨_, g1, g2, g0, rfl⟩
  case round =>
    obtain ⟨y, hy1, hy2, hy3, rfl⟩ := hrel
    clear g0 g1 g2
    by_cases hc : y < 9999 ∧ Cal.bef (y + 1) ≤ n
    · obtain ⟨hlt, hd⟩ := hc
      go_wp2_with (go_at_call 29; refine (before_any _ _ (by omega) (by omega)).mono ?_; rintro e w' ⟨rfl, rfl⟩)
      go_round
      case rel => exact ⟨y + 1, by omega, by omega, hd, rfl⟩
      case measure => simp [intOf]; omega
    · have hz : n < Cal.bef (y + 1) := by
        by_cases e : y = 9999
        · subst e; have := Cal.bef_10000; show n < Cal.bef 10000; omega
        · omega
      have hs := Cal.bef_succ y
      have hl := Cal.lp_cases y
      have hb := Cal.bef_bd y hy1 (by omega)
      obtain ⟨hb1, hb2⟩ := hb
      have hz' : n - Cal.bef y < 365 + Cal.lp y := by omega
      have HL := Lib.hid hl
      clear hc hs hl
      by_cases hlt : y < 9999
      all_goals
        go_wp2_with (go_at_call 29; refine (before_any _ _ (by omega) (by omega)).mono ?_; rintro e w' ⟨rfl, rfl⟩)
        go_loop [0, 3] (fun r k => ∃ m : Int, 1 ≤ m ∧ m ≤ 12 ∧ k = .int .i64 m ∧ 0 ≤ n - Cal.bef y - Cal.cum y m ∧ r = .int .i64 (n - Cal.bef y - Cal.cum y m)) (fun _ k => (12 - intOf k).toNat)
        case atStart => exact ⟨1, by omega, by omega, rfl, by rw [Cal.cum_1]; omega, by rw [Cal.cum_1, Int.sub_zero]⟩
        case round =>
          obtain ⟨m, hm1, hm2, rfl, hr, rfl⟩ := hrel
          obtain ⟨cb1, cb2⟩ := Cal.cum_bd y m hm1 (by omega)
          have dl := Cal.dim_lo y m
          have dh := Cal.dim_hi y m
          by_cases hc : Cal.dim y m ≤ n - Cal.bef y - Cal.cum y m
          · have hm : m < 12 := by
              by_cases e : m = 12
              · subst e
                have := Cal.cum_12 y
                omega
              · omega
            go_wp2_with (go_at_call 28; refine (month_any _ _ _ hL (by omega) (by omega) (by omega) (by omega)).mono ?_; rintro e w' ⟨rfl, rfl⟩)
            go_round
            case rel => exact ⟨m + 1, by omega, by omega, rfl, by rw [Cal.cum_succ y m hm1 hm2]; omega, by rw [Cal.cum_succ y m hm1 hm2]; go_num⟩
            case measure => simp [intOf]; omega
          · have hc' : n - Cal.bef y - Cal.cum y m < Cal.dim y m := by omega
            clear hc
            go_wp2_with (go_at_call 28; refine (month_any _ _ _ hL (by omega) (by omega) (by omega) (by omega)).mono ?_; rintro e w' ⟨rfl, rfl⟩)
            exact bodyPost_ret (v := .tuple #[.int .i64 y, .int .i64 m, .int .i64 (n - Cal.bef y - Cal.cum y m + 1), .nilIface]) (by simp [results, Tryd.results16, go_sem]) rfl
              ⟨y, m, _, vld_of hy1 hy2 hm1 hm2 hr hc', num_of, rfl, rfl⟩

set_option maxHeartbeats 400000 in
theorem floor_any (n : Int) (w : World) :
    Calls Tryd.prog 21 #[.int .i64 n] w fun e w' => e = .returned (.int .i64 (max 0 (min n 1099511627776) / 1000)) ∧ w = w' := by
  have a1 : 0 ≤ max 0 (min n 1099511627776) := by omega
  have a2 : max 0 (min n 1099511627776) ≤ 1099511627776 := by omega
  go_enter Tryd.func21, Tryd.ntmps21
  go_wp2
  all_goals go_ret
  all_goals exact ⟨ret_int (by omega), rfl⟩
end Go.Proofs.YtdbheaapeemlmaaDoor
