/- Walks of the reference of chapter 04: Format and Parse. -/
import Derived.Test.YtdbheaapeemlmaaDoorRef04B
import Derived.Deep.RegionWith
namespace Go.Proofs.YtdbheaapeemlmaaDoor
open Go.RowKit

theorem wd_extract (k : Int) (h0 : 0 ≤ k) (h1 : k ≤ 6) : (⟨#[83, 117, 110, 77, 111, 110, 84, 117, 101, 87, 101, 100, 84, 104, 117, 70, 114, 105, 83, 97, 116]⟩ : ByteArray).extract (3 * k).toNat (3 * k + 3).toNat = wdS k.toNat := by
  have h : k = 0 ∨ k = 1 ∨ k = 2 ∨ k = 3 ∨ k = 4 ∨ k = 5 ∨ k = 6 := by omega
  rcases h with rfl | rfl | rfl | rfl | rfl | rfl | rfl <;> rfl
theorem mo_extract (k : Int) (h0 : 1 ≤ k) (h1 : k ≤ 12) : (⟨#[74, 97, 110, 70, 101, 98, 77, 97, 114, 65, 112, 114, 77, 97, 121, 74, 117, 110, 74, 117, 108, 65, 117, 103, 83, 101, 112, 79, 99, 116, 78, 111, 118, 68, 101, 99]⟩ : ByteArray).extract (3 * k - 3).toNat (3 * k).toNat = moS (k.toNat - 1) := by
  have h : k = 1 ∨ k = 2 ∨ k = 3 ∨ k = 4 ∨ k = 5 ∨ k = 6 ∨ k = 7 ∨ k = 8 ∨ k = 9 ∨ k = 10 ∨ k = 11 ∨ k = 12 := by omega
  rcases h with rfl | rfl | rfl | rfl | rfl | rfl | rfl | rfl | rfl | rfl | rfl | rfl <;> rfl

def RFormatQ (n : Int) (w : World) (e : Ending) (w' : World) : Prop := ∃ s : ByteArray, IsText s n ∧ s.size = 29 ∧ e = .returned (.string s) ∧ Ext w w'
set_option maxHeartbeats 400000 in
theorem rformat_any (n : Int) (w : World) (h0 : 0 ≤ n) (h1 : n ≤ 253402300799) :
    Calls Tryd.prog 13 #[.int .i64 n] w (RFormatQ n w) := by
  have hX := Ext.refl w
  have hd0 : 0 ≤ n / 86400 := by omega
  have hd1 : n / 86400 ≤ 2932896 := by omega
  go_enter Tryd.func13, Tryd.ntmps13
  go_wp2_with fail
  refine (rdate_ok (n / 86400) w hd0 hd1).mono ?_
  rintro e w' ⟨y, m, d, hv, hnum, rfl, rfl⟩
  obtain ⟨b1, b2, b3, b4, b5, b6⟩ := Cal.vldB_iff.1 hv
  have b7 := Cal.dim_hi y m
  obtain ⟨k1, k2⟩ := wkd_bd (n / 86400)
  have HV := Lib.hid hv
  have HNUM := Lib.hid hnum
  clear hv hnum
  have s2 := twoS_size
  obtain ⟨A, hA⟩ : ∃ A, A = wdS (wkd (n / 86400)).toNat := ⟨_, rfl⟩
  obtain ⟨B, hB⟩ : ∃ B, B = moS (m.toNat - 1) := ⟨_, rfl⟩
  have sA : A.size = 3 := by rw [hA]; exact wdS_size _
  have sB : B.size = 3 := by rw [hB]; exact moS_size _
  have xA := wd_extract (wkd (n / 86400)) k1 k2
  have xB := mo_extract m b3 b4
  rw [← hA] at xA
  rw [← hB] at xB
  have HA := Lib.hid hA
  have HB := Lib.hid hB
  clear hA hB
  go_wp2_with (first
    | (go_at_call 22; refine (rweekday_any _ _).mono ?_; rintro e w' ⟨rfl, rfl⟩)
    | (go_at_call 27; refine (rdigits2 _ _ (by omega) (by omega)).mono ?_; rintro e w1 ⟨rfl, hx⟩; replace hX := hX.trans hx; clear hx))
  refine wp_region_wd (by kernel_rfl) (by kernel_rfl) ?_
  repeat (go_big_quiet_step (first | (go_at_call_of 27 (Value.int .i64 y); exact Calls.wd_of (rdigits4 _ _ (by omega) (by omega))) | (go_at_call_of 27 (Value.int .i64 d); exact Calls.wd_of (rdigits2 _ _ (by omega) (by omega)))))
  refine wpQuiet_nil ?_
  rintro _ ⟨nq, rfl⟩
  go_wp2
  go_ret
  refine ⟨fmtS A B y d (n % 86400), ⟨h0, h1, y, m, d, HV.out, HNUM.out, by rw [← HA.out, ← HB.out]⟩, fmtS_size _ _ _ _ _ sA sB, ret_str ?_, hX.trans nq.ext⟩
  unfold fmtS
  rw [show n % 86400 % 60 = n % 60 from by omega]
  simp only [ByteArray.append_assoc]

/-- no match among the first k months -/
theorem moK_none {t : ByteArray} : ∀ k, (∀ j, j < k → (t.toList == (moS j).toList) = false) → moK t k = 0
  | 0, _ => rfl
  | k + 1, h => by rw [moK_miss (h k (by omega))]; exact moK_none k (fun j hj => h j (by omega))
theorem moK_some {t : ByteArray} {m : Int} (h0 : 1 ≤ m) (h1 : m ≤ 12) (h : (t.toList == (moS (m.toNat - 1)).toList) = true) : moK t 12 = m := by
  rw [ba_eq h]; exact moK_of m h0 h1

theorem rparse_len (s : ByteArray) (w : World) (h : s.size ≠ 29) :
    Calls Tryd.prog 24 #[.string s] w fun e w' => e = .returned (.tuple #[.int .i64 0, .bool false]) ∧ Ext w w' := by
  have h' : ((s.size : Int) != 29) = true := by rw [bne_iff_ne]; omega
  clear h
  go_enter Tryd.func24, Tryd.ntmps24
  go_wp2_with fail
  go_ret2
  exact ⟨rfl, Ext.refl w⟩

def RParseP (s : ByteArray) (w : World) (e : Ending) (w' : World) : Prop :=
  Ext w w' ∧ ((∃ n, IsText s n ∧ e = .returned (.tuple #[.int .i64 n, .bool true])) ∨ ((∀ n, ¬ IsText s n) ∧ ∃ x, e = .returned (.tuple #[.int .i64 x, .bool false])))
theorem rparse_no {s : ByteArray} {w w' : World} (hx : Ext w w') (h : ∀ n, ¬ IsText s n) {x : Int} {e : Ending} (he : e = .returned (.tuple #[.int .i64 x, .bool false])) : RParseP s w e w' := ⟨hx, .inr ⟨h, x, he⟩⟩
theorem rparse_yes {s : ByteArray} {w w' : World} (hx : Ext w w') {n : Int} (h : IsText s n) {e : Ending} (he : e = .returned (.tuple #[.int .i64 n, .bool true])) : RParseP s w e w' := ⟨hx, .inl ⟨n, h, he⟩⟩

theorem six (H M S : Int) : H < 0 ∨ (0 ≤ H ∧ 23 < H) ∨ (0 ≤ H ∧ H ≤ 23 ∧ M < 0) ∨ (0 ≤ H ∧ H ≤ 23 ∧ 0 ≤ M ∧ 59 < M) ∨ (0 ≤ H ∧ H ≤ 23 ∧ 0 ≤ M ∧ M ≤ 59 ∧ S < 0) ∨ (0 ≤ H ∧ H ≤ 23 ∧ 0 ≤ M ∧ M ≤ 59 ∧ 0 ≤ S ∧ 59 < S)
    ∨ (0 ≤ H ∧ H ≤ 23 ∧ 0 ≤ M ∧ M ≤ 59 ∧ 0 ≤ S ∧ S ≤ 59) := by
  rcases Int.lt_or_le H 0 with h3 | h3
  · exact .inl h3
  refine .inr ?_
  rcases Int.lt_or_le 23 H with h4 | h4
  · exact .inl ⟨h3, h4⟩
  refine .inr ?_
  rcases Int.lt_or_le M 0 with h5 | h5
  · exact .inl ⟨h3, h4, h5⟩
  refine .inr ?_
  rcases Int.lt_or_le 59 M with h6 | h6
  · exact .inl ⟨h3, h4, h5, h6⟩
  refine .inr ?_
  rcases Int.lt_or_le S 0 with h7 | h7
  · exact .inl ⟨h3, h4, h5, h6, h7⟩
  refine .inr ?_
  rcases Int.lt_or_le 59 S with h8 | h8
  · exact .inl ⟨h3, h4, h5, h6, h7, h8⟩
  exact .inr ⟨h3, h4, h5, h6, h7, h8⟩

/-- the numbers that stand in a text, under names -/
theorem names (s : ByteArray) : ∃ D C Y H M S O y4 : Int, Hid (numS (s.extract 5 7) = D) ∧ Hid (numS (s.extract 12 14) = C) ∧ Hid (numS (s.extract 14 16) = Y) ∧ Hid (numS (s.extract 17 19) = H) ∧ Hid (numS (s.extract 20 22) = M) ∧ Hid (numS (s.extract 23 25) = S)
    ∧ Hid (moK (s.extract 8 11) 12 = O) ∧ Hid (num4 (s.extract 12 16) = y4) := ⟨_, _, _, _, _, _, _, _, rfl, rfl, rfl, rfl, rfl, rfl, rfl, rfl⟩
theorem no_text4 {s : ByteArray} (h : s.size = 29) {D C Y H M S O y4 : Int} (hD : Hid (numS (s.extract 5 7) = D)) (hC : Hid (numS (s.extract 12 14) = C)) (hY : Hid (numS (s.extract 14 16) = Y)) (hH : Hid (numS (s.extract 17 19) = H)) (hM : Hid (numS (s.extract 20 22) = M)) (hS : Hid (numS (s.extract 23 25) = S)) (hO : Hid (moK (s.extract 8 11) 12 = O))
    (h4 : Hid (num4 (s.extract 12 16) = y4)) (hv : ¬ Cal.Vld y4 O D) : ∀ n, ¬ IsText s n := by
  have e := num4_eq s 12 (by omega)
  have e1 := h4.out; have e2 := hC.out; have e3 := hY.out
  simp only [Nat.reduceAdd] at e
  rw [e1, e2, e3] at e
  by_cases c : 0 ≤ C ∧ 0 ≤ Y
  · rw [if_pos c] at e
    rw [e] at hv
    exact no_text hD hC hY hH hM hS hO (.inr (.inr (.inr (.inr (.inr (.inr (.inr (.inr (.inr hv)))))))))
  · have : C < 0 ∨ Y < 0 := by omega
    rcases this with c | c
    · exact no_text hD hC hY hH hM hS hO (.inr (.inl c))
    · exact no_text hD hC hY hH hM hS hO (.inr (.inr (.inl c)))
theorem year4 {s : ByteArray} (h : s.size = 29) {C Y y4 : Int} (hC : Hid (numS (s.extract 12 14) = C)) (hY : Hid (numS (s.extract 14 16) = Y)) (h4 : Hid (num4 (s.extract 12 16) = y4)) (hp : 0 ≤ y4) : y4 = 100 * C + Y := by
  have e := num4_eq s 12 (by omega)
  have e1 := h4.out; have e2 := hC.out; have e3 := hY.out
  simp only [Nat.reduceAdd] at e
  rw [e1, e2, e3] at e
  by_cases c : 0 ≤ C ∧ 0 ≤ Y
  · rw [if_pos c] at e; exact e
  · rw [if_neg c] at e; omega

set_option maxHeartbeats 4000000 in
theorem rparse_29 (s : ByteArray) (w : World) (h : s.size = 29) :
    Calls Tryd.prog 24 #[.string s] w (RParseP s w) := by
  have e5 : (s.extract 8 11).size = 3 := by rw [ByteArray.size_extract]; omega
  obtain ⟨D, C, Y, H, M, S, O, y4, HD, HC, HY, HH, HM, HS, HO, H4⟩ := names s
  have n4 : ∀ w : World, Calls Tryd.prog 33 #[.string (s.extract 12 16)] w fun e w' => e = .returned (.int .i64 y4) ∧ Ext w w' := fun w => by
    rw [← H4.out]; exact rnumber4 _ w (by rw [ByteArray.size_extract]; omega)
  have nD : ∀ w : World, Calls Tryd.prog 33 #[.string (s.extract 5 7)] w fun e w' => e = .returned (.int .i64 D) ∧ Ext w w' := fun w => by
    rw [← HD.out]; exact rnumber2 _ w (by rw [ByteArray.size_extract]; omega)
  have nH : ∀ w : World, Calls Tryd.prog 33 #[.string (s.extract 17 19)] w fun e w' => e = .returned (.int .i64 H) ∧ Ext w w' := fun w => by
    rw [← HH.out]; exact rnumber2 _ w (by rw [ByteArray.size_extract]; omega)
  have nM : ∀ w : World, Calls Tryd.prog 33 #[.string (s.extract 20 22)] w fun e w' => e = .returned (.int .i64 M) ∧ Ext w w' := fun w => by
    rw [← HM.out]; exact rnumber2 _ w (by rw [ByteArray.size_extract]; omega)
  have nS : ∀ w : World, Calls Tryd.prog 33 #[.string (s.extract 23 25)] w fun e w' => e = .returned (.int .i64 S) ∧ Ext w w' := fun w => by
    rw [← HS.out]; exact rnumber2 _ w (by rw [ByteArray.size_extract]; omega)
  have N4 := Lib.hid n4
  have ND := Lib.hid nD
  have NH := Lib.hid nH
  have NM := Lib.hid nM
  have NS := Lib.hid nS
  clear n4 nD nH nM nS
  go_enter Tryd.func24, Tryd.ntmps24
  go_wp2_with fail
  go_loopw [4] (fun t wr => ∃ m : Int, 1 ≤ m ∧ m ≤ 13 ∧ t = .int .i64 m ∧ Ext w wr ∧ Hid (∀ j, j < m.toNat - 1 → ((s.extract 8 11).toList == (moS j).toList) = false)) (fun t _ => (13 - intOf t).toNat)
  case atStart => exact ⟨1, by omega, by omega, rfl, Ext.refl w, Lib.hid (fun j hj => by omega)⟩
  case round =>
    obtain ⟨m, hm1, hm2, rfl, hX, HN⟩ := hrel
    by_cases hlt : m < 13
    · have xB := mo_extract m hm1 (by omega)
      obtain ⟨B, hB⟩ : ∃ B, B = moS (m.toNat - 1) := ⟨_, rfl⟩
      rw [← hB] at xB
      have HB := Lib.hid hB
      clear hB
      by_cases hq : (B.toList == (s.extract 8 11).toList) = true
      · have hO : O = m := by
          rw [← HO.out]
          refine moK_some hm1 (by omega) ?_
          rw [← HB.out, beq_iff_eq]
          exact (eq_of_beq hq).symm
        subst hO
        go_wp2_with fail
        go_quiet (fail)
        have hx2 := hX.drewN nq
        by_cases hv : Cal.vldB y4 O D = true
        · have HV := Cal.vldB_iff.1 hv
          have hr := Cal.num_range HV
          obtain ⟨hr1, hr2⟩ := hr
          have hy := year4 h HC HY H4 (by have := HV.1; omega)
          have HYY := Lib.hid hy
          clear HV hy
          go_wp2_with fail
          refine wp_region_wd (by kernel_rfl) (by kernel_rfl) ?_
          repeat (go_big_quiet_step (first | (go_at_call_of 33 (Value.string (s.extract 12 16)); exact Calls.wd_of (N4.out _)) | (go_at_call_of 33 (Value.string (s.extract 5 7)); exact Calls.wd_of (ND.out _)) | (go_at_call 15; exact Calls.wd_of_same (rday_ok _ _ _ _ hv))))
          refine wpQuiet_nil ?_
          rintro _ ⟨np, rfl⟩
          go_wp2_with fail
          refine wp_region_wd (by kernel_rfl) (by kernel_rfl) ?_
          repeat (go_big_quiet_step (first | (go_at_call_of 33 (Value.string (s.extract 17 19)); exact Calls.wd_of (NH.out _)) | (go_at_call_of 33 (Value.string (s.extract 20 22)); exact Calls.wd_of (NM.out _)) | (go_at_call_of 33 (Value.string (s.extract 23 25)); exact Calls.wd_of (NS.out _))))
          refine wpQuiet_nil ?_
          rintro _ ⟨nt, rfl⟩
          have hx3 := (hx2.trans np.ext).trans nt.ext
          rcases six H M S with k3 | ⟨k3, k4⟩ | ⟨k3, k4, k5⟩ | ⟨k3, k4, k5, k6⟩ | ⟨k3, k4, k5, k6, k7⟩ | ⟨k3, k4, k5, k6, k7, k8⟩ | ⟨k3, k4, k5, k6, k7, k8⟩
          iterate 6
            · have bad := no_text HD HC HY HH HM HS HO (by first | exact .inr (.inr (.inr (.inl ‹_›))) | exact .inr (.inr (.inr (.inr (.inl ‹_›)))) | exact .inr (.inr (.inr (.inr (.inr (.inl ‹_›))))) | exact .inr (.inr (.inr (.inr (.inr (.inr (.inl ‹_›)))))) | exact .inr (.inr (.inr (.inr (.inr (.inr (.inr (.inl ‹_›))))))) | exact .inr (.inr (.inr (.inr (.inr (.inr (.inr (.inr (.inl ‹_›)))))))))
              have BAD := Lib.hid bad
              clear bad
              go_wp2_with fail
              go_ret2
              exact rparse_no hx3 BAD.out rfl
          go_wp2_with fail
          refine (rformat_any _ _ (by omega) (by omega)).mono ?_
          rintro e w' ⟨F, hT, hS2, rfl, fx⟩
          by_cases hq2 : (F.toList == s.toList) = true
          · have HE := Lib.hid (ba_eq hq2)
            go_wp2_with fail
            go_ret2
            exact rparse_yes (hx3.trans fx) (by rw [← HE.out]; exact hT) rfl
          · have hq3 : (F.toList == s.toList) = false := by simpa using hq2
            have HE := ba_ne hq3
            have BAD : Hid (∀ n, ¬ IsText s n) := by
              refine Lib.hid ?_
              intro n hn
              have e := text_sec HD HC HY HH HM HS HO hn
              rw [← HYY.out] at e
              rw [e] at hn
              exact HE (hT.uniq hn)
            clear hq2 HE
            go_wp2_with fail
            go_ret2
            exact rparse_no (hx3.trans fx) BAD.out rfl
        · have hv' : Cal.vldB y4 O D = false := by simpa using hv
          have bad := no_text4 h HD HC HY HH HM HS HO H4 (Cal.vldB_not.1 hv')
          have BAD := Lib.hid bad
          clear hv bad
          go_wp2_with fail
          refine wp_region_wd (by kernel_rfl) (by kernel_rfl) ?_
          repeat (go_big_quiet_step (first | (go_at_call_of 33 (Value.string (s.extract 12 16)); exact Calls.wd_of (N4.out _)) | (go_at_call_of 33 (Value.string (s.extract 5 7)); exact Calls.wd_of (ND.out _)) | (go_at_call 15; exact Calls.wd_of_same (rday_no _ _ _ _ hv'))))
          refine wpQuiet_nil ?_
          rintro _ ⟨np, rfl⟩
          go_wp2_with fail
          refine wp_region_wd (by kernel_rfl) (by kernel_rfl) ?_
          repeat (go_big_quiet_step (first | (go_at_call_of 33 (Value.string (s.extract 17 19)); exact Calls.wd_of (NH.out _)) | (go_at_call_of 33 (Value.string (s.extract 20 22)); exact Calls.wd_of (NM.out _)) | (go_at_call_of 33 (Value.string (s.extract 23 25)); exact Calls.wd_of (NS.out _))))
          refine wpQuiet_nil ?_
          rintro _ ⟨nt, rfl⟩
          go_wp2_with fail
          go_ret2
          exact rparse_no ((hx2.trans np.ext).trans nt.ext) BAD.out rfl
      · have hq2 : (B.toList == (s.extract 8 11).toList) = false := by simpa using hq
        clear hq
        have HN2 : Hid (∀ j, j < (m + 1).toNat - 1 → ((s.extract 8 11).toList == (moS j).toList) = false) := by
          refine Lib.hid ?_
          intro j hj
          by_cases c : j < m.toNat - 1
          · exact HN.out j c
          · have : j = m.toNat - 1 := by omega
            subst this
            rw [← HB.out, Bool.eq_false_iff]
            intro c2
            rw [eq_of_beq c2] at hq2
            simp at hq2
        go_wp2_with fail
        go_quiet (fail)
        go_wp2_with fail
        go_roundw
        case rel => exact ⟨m + 1, by omega, by omega, rfl, hX.drewN _, HN2⟩
        case measure => simp [intOf]; omega
    · have hm : m = 13 := by omega
      subst hm
      have hO : O = 0 := by
        rw [← HO.out]
        exact moK_none 12 (fun j hj => HN.out j (by omega))
      have bad := no_text HD HC HY HH HM HS HO (.inr (.inr (.inr (.inr (.inr (.inr (.inr (.inr (.inr (by rw [hO]; rintro ⟨_, _, c, _⟩; omega))))))))))
      have BAD := Lib.hid bad
      have hv' : Cal.vldB y4 13 D = false := Cal.vldB_not.2 (by rintro ⟨_, _, _, c, _⟩; omega)
      clear bad hO hlt
      go_wp2_with fail
      go_quiet (fail)
      have hx2 := hX.drewN nq
      go_wp2_with fail
      refine wp_region_wd (by kernel_rfl) (by kernel_rfl) ?_
      repeat (go_big_quiet_step (first | (go_at_call_of 33 (Value.string (s.extract 12 16)); exact Calls.wd_of (N4.out _)) | (go_at_call_of 33 (Value.string (s.extract 5 7)); exact Calls.wd_of (ND.out _)) | (go_at_call 15; exact Calls.wd_of_same (rday_no _ _ _ _ hv'))))
      refine wpQuiet_nil ?_
      rintro _ ⟨np, rfl⟩
      go_wp2_with fail
      refine wp_region_wd (by kernel_rfl) (by kernel_rfl) ?_
      repeat (go_big_quiet_step (first | (go_at_call_of 33 (Value.string (s.extract 17 19)); exact Calls.wd_of (NH.out _)) | (go_at_call_of 33 (Value.string (s.extract 20 22)); exact Calls.wd_of (NM.out _)) | (go_at_call_of 33 (Value.string (s.extract 23 25)); exact Calls.wd_of (NS.out _))))
      refine wpQuiet_nil ?_
      rintro _ ⟨nt, rfl⟩
      go_wp2_with fail
      go_ret2
      exact rparse_no ((hx2.trans np.ext).trans nt.ext) BAD.out rfl

theorem rparse_any (s : ByteArray) (w : World) : Calls Tryd.prog 24 #[.string s] w (RParseP s w) := by
  by_cases h : s.size = 29
  · exact rparse_29 s w h
  · exact (rparse_len s w h).mono fun _ _ ⟨he, hx⟩ => rparse_no hx (fun n hn => h hn.fields.1) he
end Go.Proofs.YtdbheaapeemlmaaDoor
