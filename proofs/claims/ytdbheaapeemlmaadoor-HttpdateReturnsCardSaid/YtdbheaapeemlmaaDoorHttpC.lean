/- Walks of package httpdate: Parse. -/
import Derived.Test.YtdbheaapeemlmaaDoorHttpT
namespace Go.Proofs.YtdbheaapeemlmaaDoor
open Go.RowKit

def moArr : Array Value := #[.string (moS 0), .string (moS 1), .string (moS 2), .string (moS 3), .string (moS 4), .string (moS 5), .string (moS 6), .string (moS 7), .string (moS 8), .string (moS 9), .string (moS 10), .string (moS 11)]
theorem mo_index (k : Nat) (hk : k < 12) : ∀ w : World, (Instr.index 48 (.agg moArr) (.int .i64 (k : Int))).run Tryd.prog w = .ok (.string (moS k)) w := by
  have h : k = 0 ∨ k = 1 ∨ k = 2 ∨ k = 3 ∨ k = 4 ∨ k = 5 ∨ k = 6 ∨ k = 7 ∨ k = 8 ∨ k = 9 ∨ k = 10 ∨ k = 11 := by omega
  clear hk
  rcases h with h | h | h | h | h | h | h | h | h | h | h | h <;> subst h <;> exact fun _ => by kernel_rfl
theorem Laid.moCells {w : World} (h : Laid w) : ∀ j v, moArr.toList[j]? = some v → w.cell? ⟨1, j, none⟩ = some v := by
  intro j v hv
  have hj : j < 12 := by
    have := (List.getElem?_eq_some_iff.1 hv).1
    simpa [moArr] using this
  rw [h.mo j hj, ← hv]
  have h : j = 0 ∨ j = 1 ∨ j = 2 ∨ j = 3 ∨ j = 4 ∨ j = 5 ∨ j = 6 ∨ j = 7 ∨ j = 8 ∨ j = 9 ∨ j = 10 ∨ j = 11 := by omega
  rcases h with h | h | h | h | h | h | h | h | h | h | h | h <;> subst h <;> rfl

theorem parse_len (s : ByteArray) (w : World) (h : s.size ≠ 29) :
    Calls Tryd.prog 23 #[.string s] w fun e w' => e = .returned (.tuple #[.int .i64 0, errV 2]) ∧ Ext w w' := by
  have h' : ((s.size : Int) != 29) = true := by rw [bne_iff_ne]; omega
  clear h
  go_enter Tryd.func23, Tryd.ntmps23
  go_wp2_with fail
  go_ret2
  exact ⟨rfl, Ext.refl w⟩

def FormatQ (n : Int) (w : World) (e : Ending) (w' : World) : Prop := ∃ s : ByteArray, IsText s n ∧ s.size = 29 ∧ e = .returned (.tuple #[.string s, .nilIface]) ∧ Ext w w'
theorem format_q (n : Int) (w : World) (hL : Laid w) (h0 : 0 ≤ n) (h1 : n ≤ 253402300799) : Calls Tryd.prog 11 #[.int .i64 n] w (FormatQ n w) :=
  (format_ok n w hL h0 h1).mono fun _ _ ⟨y, m, d, hv, hn, he, hx⟩ => ⟨_, ⟨h0, h1, y, m, d, hv, hn, rfl⟩, fmtS_size _ _ _ _ _ (wdS_size _) (moS_size _), he, hx⟩

def ParseP (s : ByteArray) (w : World) (e : Ending) (w' : World) : Prop :=
  Ext w w' ∧ ((∃ n, IsText s n ∧ e = .returned (.tuple #[.int .i64 n, .nilIface])) ∨ ((∀ n, ¬ IsText s n) ∧ e = .returned (.tuple #[.int .i64 0, errV 2])))
theorem parse_no {s : ByteArray} {w w' : World} (hx : Ext w w') (h : ∀ n, ¬ IsText s n) {e : Ending} (he : e = .returned (.tuple #[.int .i64 0, errV 2])) : ParseP s w e w' := ⟨hx, .inr ⟨h, he⟩⟩
theorem parse_yes {s : ByteArray} {w w' : World} (hx : Ext w w') {n : Int} (h : IsText s n) {e : Ending} (he : e = .returned (.tuple #[.int .i64 n, .nilIface])) : ParseP s w e w' := ⟨hx, .inl ⟨n, h, he⟩⟩

set_option maxHeartbeats 4000000 in
theorem parse_29 (s : ByteArray) (w : World) (hL : Laid w) (h : s.size = 29) :
    Calls Tryd.prog 23 #[.string s] w (ParseP s w) := by
  go_enter Tryd.func23, Tryd.ntmps23
  go_wp2_with fail
  refine wp_region_wd (by kernel_rfl) (by kernel_rfl) ?_
  repeat (go_big_quiet_step ((go_at_call 32; exact Calls.wd_of (number_any _ _ (by rw [ByteArray.size_extract]; omega)))))
  refine wpQuiet_nil ?_
  rintro _ ⟨nq, rfl⟩
  go_wp2_with fail
  refine wp_region_wd (by kernel_rfl) (by kernel_rfl) ?_
  repeat (go_big_quiet_step ((go_at_call 32; exact Calls.wd_of (number_any _ _ (by rw [ByteArray.size_extract]; omega)))))
  refine wpQuiet_nil ?_
  rintro _ ⟨nr, rfl⟩
  have hL2 := hL.ext (nq.ext.trans nr.ext)
  have hmc := Lib.hid hL2.moCells
  generalize hD : numS (s.extract 5 7) = D
  generalize hC : numS (s.extract 12 14) = C
  generalize hY : numS (s.extract 14 16) = Y
  generalize hH : numS (s.extract 17 19) = H
  generalize hM : numS (s.extract 20 22) = M
  generalize hS : numS (s.extract 23 25) = S
  have HD := Lib.hid hD
  have HC := Lib.hid hC
  have HY := Lib.hid hY
  have HH := Lib.hid hH
  have HM := Lib.hid hM
  have HS := Lib.hid hS
  clear hD hC hY hH hM hS
  have bD := numS_bd _ _ HD
  have bC := numS_bd _ _ HC
  have bY := numS_bd _ _ HY
  have bH := numS_bd _ _ HH
  have bM := numS_bd _ _ HM
  have bS := numS_bd _ _ HS
  go_wp2_with ((with_reducible show wpList _ _ _ _ _ _); refine wpList_load_cells (o := ⟨some 40, Op.load 48 (Operand.global 1), _, _, _, _⟩) rfl 48 _ rfl 1 rfl moArr _ hmc.out Tryd.underlying48 rfl (by kernel_rfl) ?_)
  go_loop [10, 41] (fun m i => ∃ k : Nat, k ≤ 12 ∧ i = .int .i64 k ∧ m = .int .i64 (moK (s.extract 8 11) k)) (fun _ i => 12 - (intOf i).toNat)
  case atStart => exact ⟨0, by omega, rfl, rfl⟩
  case round =>
    obtain ⟨k, hk, rfl, rfl⟩ := hrel
    by_cases hlt : k < 12
    · have hi := mo_index k hlt nr.val
      have hb := moK_bd (s.extract 8 11) k
      obtain ⟨hb1, hb2⟩ := hb
      by_cases hq : ((s.extract 8 11).toList == (moS k).toList) = true
      · have HQ := Lib.hid (moK_hit hq)
        go_wp2_with fail
        go_round
        case rel => exact ⟨k + 1, by omega, by go_num, by rw [HQ.out]⟩
        case measure => simp [intOf]; omega
      · have hq' : ((s.extract 8 11).toList == (moS k).toList) = false := by simpa using hq
        have HQ := Lib.hid (moK_miss hq')
        clear hq
        go_wp2_with fail
        go_round
        case rel => exact ⟨k + 1, by omega, by go_num, by rw [HQ.out]⟩
        case measure => simp [intOf]; omega
    · have hk12 : k = 12 := by omega
      subst hk12
      clear hlt hk
      have hb := moK_bd (s.extract 8 11) 12
      generalize hO : moK (s.extract 8 11) 12 = O at *
      have HO := Lib.hid hO
      clear hO
      obtain ⟨hb1, hb2⟩ := hb
      have hx := nq.ext.trans nr.ext
      have key := nine D C Y H M S
      rcases key with k1 | ⟨k0, k1⟩ | ⟨k0, k1, k2⟩ | ⟨k0, k1, k2, k3⟩ | ⟨k0, k1, k2, k3, k4⟩ | ⟨k0, k1, k2, k3, k4, k5⟩ | ⟨k0, k1, k2, k3, k4, k5, k6⟩ | ⟨k0, k1, k2, k3, k4, k5, k6, k7⟩ | ⟨k0, k1, k2, k3, k4, k5, k6, k7, k8⟩ | ⟨k0, k1, k2, k3, k4, k5, k6, k7, k8⟩
      iterate 9
        · have bad := no_text HD HC HY HH HM HS HO (by first | exact .inl ‹_› | exact .inr (.inl ‹_›) | exact .inr (.inr (.inl ‹_›)) | exact .inr (.inr (.inr (.inl ‹_›))) | exact .inr (.inr (.inr (.inr (.inl ‹_›)))) | exact .inr (.inr (.inr (.inr (.inr (.inl ‹_›))))) | exact .inr (.inr (.inr (.inr (.inr (.inr (.inl ‹_›)))))) | exact .inr (.inr (.inr (.inr (.inr (.inr (.inr (.inl ‹_›))))))) | exact .inr (.inr (.inr (.inr (.inr (.inr (.inr (.inr (.inl ‹_›)))))))))
          have BAD := Lib.hid bad
          clear bad
          go_wp2_with fail
          go_ret2
          exact parse_no hx BAD.out rfl
      by_cases hv : Cal.vldB (100 * C + Y) O D = true
      · have HV := Cal.vldB_iff.1 hv
        have hr := Cal.num_range HV
        obtain ⟨hr1, hr2⟩ := hr
        clear HV
        go_wp2_with (go_at_call 14; refine (day_ok _ _ _ _ hL2 hv).mono ?_; rintro e w' ⟨rfl, rfl⟩)
        refine (format_q _ _ hL2 (by omega) (by omega)).mono ?_
        rintro e w' ⟨F, hT, hS, rfl, fx⟩
        by_cases hq : (F.toList == s.toList) = true
        · have HE := Lib.hid (ba_eq hq)
          go_wp2_with fail
          go_ret2
          exact parse_yes (hx.trans fx) (by rw [← HE.out]; exact hT) rfl
        · have hq' : (F.toList == s.toList) = false := by simpa using hq
          have HE := ba_ne hq'
          have BAD : Hid (∀ n, ¬ IsText s n) := by
            refine Lib.hid ?_
            intro n hn
            have e := text_sec HD HC HY HH HM HS HO hn
            rw [e] at hn
            exact HE (hT.uniq hn)
          clear hq HE
          go_wp2_with fail
          go_ret2
          exact parse_no (hx.trans fx) BAD.out rfl
      · have hv' : Cal.vldB (100 * C + Y) O D = false := by simpa using hv
        have bad := no_text HD HC HY HH HM HS HO (.inr (.inr (.inr (.inr (.inr (.inr (.inr (.inr (.inr (Cal.vldB_not.1 hv'))))))))))
        have BAD := Lib.hid bad
        clear hv bad
        go_wp2_with (go_at_call 14; refine (day_no _ _ _ _ hL2 hv').mono ?_; rintro e w' ⟨rfl, rfl⟩)
        go_ret2
        exact parse_no hx BAD.out rfl

theorem parse_any (s : ByteArray) (w : World) (hL : Laid w) : Calls Tryd.prog 23 #[.string s] w (ParseP s w) := by
  by_cases h : s.size = 29
  · exact parse_29 s w hL h
  · exact (parse_len s w h).mono fun _ _ ⟨he, hx⟩ => parse_no hx (fun n hn => h hn.fields.1) he
end Go.Proofs.YtdbheaapeemlmaaDoor
