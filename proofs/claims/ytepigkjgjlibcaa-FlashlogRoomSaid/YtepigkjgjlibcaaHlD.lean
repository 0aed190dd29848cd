/- Chapter 23: law FlashlogMaps. -/
import Derived.Test.YtepigkjgjlibcaaHlC
import Derived.Lib.SlBytesConst
namespace Go.Proofs.Ytepigkjgjlibcaa
open Go.RowKit Go.Deep Go.Proofs.Ytepigkjgjlibcaa.FL
set_option maxRecDepth 100000
theorem is_any23 (k : Int) (n : Int) (w : World) (hk : k ≠ n) : Calls Try.prog 13 #[errV k, .int .i64 n] w fun e w' => e = .returned (.bool false) ∧ w = w' := by
  have hk2 : (k == n) = false := by rw [beq_eq_false_iff_ne]; exact hk
  go_enter Try.func13, Try.ntmps13
  go_wp2_with (go_at_call 40; refine (num_err _ _).mono ?_; rintro e w' ⟨rfl, rfl⟩)
  go_ret
  exact ⟨rfl, rfl⟩
theorem is_gen23 (k n : Int) (w : World) (hn : n ≠ 0) : Calls Try.prog 13 #[errV k, .int .i64 n] w fun e w' => e = .returned (.bool (decide (k = n))) ∧ w = w' := by
  by_cases h : k = n
  · subst h
    rw [decide_eq_true rfl]
    exact is_err k w hn
  · rw [decide_eq_false h]
    exact is_any23 k n w h
set_option maxHeartbeats 16000000 in
theorem maps23_law {W : World} {x y : Nat} (hx : x < 256) (hy : y < 256) {v : Value} {acts : List Act4} (hv : ActsIn W v acts) :
    Calls Try.prog 3 #[.agg #[.int .u8 x, .int .u8 y], v] W fun e w' => e = .returned (.bool true) ∧ Ext W w' := by
  obtain ⟨A, cap, rfl, hrd⟩ := hv
  obtain ⟨len, hlen⟩ : ∃ z, z = acts.length := ⟨_, rfl⟩
  rw [← hlen] at hrd ⊢
  have HLN := Lib.hid hlen
  have HRD := Lib.hid hrd
  have HAW := Lib.hid (fun w => awake23 w)
  have HMD := Lib.hid (fun w => made23 x y hx hy w)
  have hmm := @run_makeMap Try.prog
  clear hrd hlen
  by_cases hl : len ≤ 40
  · have hli : ¬ (40 : Int) < (len : Int) := by omega
    go_enter Try.func3, Try.ntmps3
    go_upto_region 2 with (go_at_call 8; refine (HMD.out _).mono ?_; rintro e w1 ⟨d, S1, G1, rfl, hx1, hd1, hs1⟩; have HX1 := Lib.hid (Ext.trans ((Ext.refl W).alloc _) hx1); have HD1 := Lib.hid hd1; have HS1 := Lib.hid (fun z hz => Nat.le_trans ((Ext.refl W).alloc _).size (hs1 z hz)); clear hx1 hd1 hs1)
    go_upto_region 4 with (go_at_call 9; refine (HAW.out _).mono ?_; rintro e w2 ⟨rfl, hx2⟩; have HX2 := Lib.hid hx2; clear hx2)
    obtain ⟨L0, hop, hmi, hnone⟩ := MInv.new (n := 3 + x % 3) (m := 1 + y % 8) (by omega) (by omega)
    have HO := Lib.hid (open_any (HD1.out.ext HX2.out) (newDev_ok (n := 3 + x % 3) (m := 1 + y % 8) (by omega) (by omega)).1 (Nat.zero_le _))
    rw [hop] at HO
    have HO2 := Lib.hid (show Calls Try.prog 10 #[.pointer (some ⟨d, 0, none⟩)] w2 (fun e w' => ∃ l S', e = .returned (.tuple #[.pointer (some ⟨l, 0, none⟩), .nilIface]) ∧ LogOn w' S' l d L0 ∧ Mod S1 w2 w' ∧ ∀ x, S' x → S1 x ∨ w2.heap.size ≤ x) from HO.out)
    have HMI := Lib.hid (And.intro hmi hnone)
    clear HO hop hmi hnone
    go_upto_region 8 with (go_at_call 10; refine HO2.out.mono ?_; rintro e w3 ⟨l0, S3, rfl, hl3, hm3, hs3⟩; have HL3 := Lib.hid (And.intro hl3 (And.intro hm3 hs3)); clear hl3 hm3 hs3)
    have HLM := Lib.hid (show LM W (w3.alloc (.map #[] 0)) d l0 (1 + y % 8) 1 w3.heap.size [] L0 ∧ Same [] L0 by
      have hX12 := HX1.out.trans HX2.out
      have hX3 : Ext W w3 := ext_step hX12 HS1.out HL3.out.2.1
      refine ⟨⟨hX3.trans ((Ext.refl w3).alloc _), ⟨S3, HL3.out.1.ext ((Ext.refl w3).alloc _), from_step hX12 HS1.out HL3.out.2.2, fun h9 => ?_⟩, MsAt.made w3, hX3.size, HMI.out.1⟩, Same.empty HMI.out.2⟩
      obtain ⟨F, SD, G, -, h8⟩ := HL3.out.1
      exact absurd (Typed.lt h8.ty h9) (Nat.lt_irrefl _))
    obtain ⟨w4, hw4⟩ : ∃ z, z = w3.alloc (.map #[] 0) := ⟨_, rfl⟩
    obtain ⟨mb, hmb⟩ : ∃ z, z = w3.heap.size := ⟨_, rfl⟩
    obtain ⟨np, hnp⟩ : ∃ z, z = 1 + y % 8 := ⟨_, rfl⟩
    rw [← hw4, ← hmb, ← hnp] at HLM
    rw [← hw4, ← hmb]
    clear hw4 hmb hnp HL3 HMI HO2 HS1 HD1 HX1 HX2 hmm HMD HAW
    go_wp2_with fail
    go_loopw [6, 9] (fun v6 i wr => ∃ (l k : Nat), v6 = .pointer (some ⟨l, 0, none⟩) ∧ i = .int .i64 k ∧ k ≤ len ∧ Hid (∃ lst L, LM W wr d l np (k + 1) mb lst L ∧ Same lst L)) (fun _ i _ => len - (intOf i).toNat)
    case atStart => exact ⟨l0, 0, rfl, rfl, by omega, Lib.hid ⟨[], L0, HLM.out⟩⟩
    case round =>
      clear HLM
      obtain ⟨l, k, rfl, rfl, hk, hD⟩ := hrel
      obtain ⟨lst, L, hD⟩ := hD.out
      have HD := Lib.hid hD
      clear hD
      by_cases hkl : k < len
      · have hki : (k : Int) < (len : Int) := by omega
        obtain ⟨a, ha⟩ : ∃ a, acts[k]? = some a := ⟨_, List.getElem?_eq_getElem (by rw [← HLN.out]; exact hkl)⟩
        obtain ⟨g, o, rfl, hcs⟩ := HRD.out (by omega)
        obtain ⟨hok, hc0, hc1, hc2, hc3⟩ := hcs k a ha
        have c0 := HD.out.1.ext.cell hc0
        have c1 := HD.out.1.ext.cell hc1
        have c2 := HD.out.1.ext.cell hc2
        have c3 := HD.out.1.ext.cell hc3
        have HOK := Lib.hid hok
        obtain ⟨ak, ay, af, am⟩ := a
        simp only at c0 c1 c2 c3
        clear hc0 hc1 hc2 hc3 hcs ha hok
        have HKY := Lib.hid (fun w => key23 ay HOK.out.2.1 w)
        go_upto_region 12 with fail
        obtain ⟨wa, hwa⟩ : ∃ z, z = wr.alloc (.cells #[.int .u8 ak, .int .u8 ay, .int .u8 af, .int .u16 am] 36) := ⟨_, rfl⟩
        obtain ⟨tb, htb⟩ : ∃ z, z = wr.heap.size := ⟨_, rfl⟩
        have HRB := Lib.hid (show RowB wa tb 36 [.int .u8 ak, .int .u8 ay, .int .u8 af, .int .u16 am] by rw [hwa, htb]; exact row_laid wr _ _)
        have HD2 := Lib.hid (And.intro (HD.out.1.grow (show Ext wr wa by rw [hwa]; exact (Ext.refl wr).alloc _)) HD.out.2)
        rw [← hwa, ← htb]
        have d1 := HRB.out.cell (j := 1) rfl
        clear hwa htb HD c0 c1 c2 c3
        go_upto_region 13 with (go_at_call 11; refine (HKY.out _).mono ?_; rintro e w5 ⟨rfl, hx5⟩; have HX5 := Lib.hid hx5; clear hx5)
        have HD5 := Lib.hid (And.intro (HD2.out.1.grow HX5.out) HD2.out.2)
        have HRB5 := Lib.hid (HRB.out.ext HX5.out)
        obtain ⟨ky, hky⟩ : ∃ z, z = keyF ay := ⟨_, rfl⟩
        rw [← hky]
        have HKL := Lib.hid (show ky.length ≤ 2049 by rw [hky]; exact keyF_len ay)
        clear hky HKY HD2 HRB d1
        have HLK := HD5.out.1.map.look Try.underlying33 Try.underlying9 (st ky) (st_max (by have := HKL.out; omega)) (zero_str w5) true
        obtain ⟨q, hq⟩ : ∃ z, z = (valL L ky).isSome := ⟨_, rfl⟩
        obtain ⟨wv, hwv⟩ : ∃ z, z = (valL L ky).getD [] := ⟨_, rfl⟩
        have HQ := Lib.hid (And.intro hq hwv)
        have HLK2 : (Instr.lookup 33 (.map (some mb)) (.string (st ky)) true).run Try.prog w5 = .ok (.tuple #[.string (st wv), .bool q]) w5 := by
          rw [HLK, HD5.out.2 ky, hq, hwv]
          cases valL L ky <;> rfl
        clear HLK hq hwv
        obtain ⟨r, hr⟩ : ∃ r, r = ak % 5 := ⟨_, rfl⟩
        have er : (ak : Int) % 5 = (r : Nat) := by omega
        have hr5 : r < 5 := by omega
        have d0 := HRB5.out.cell (j := 0) rfl
        clear hr
        have HKE := Lib.hid (show k + 1 ≤ 500 by omega)
        go_upto_block 2 with fail
        rw [er]
        clear er
        go_cut [6, 14, 15, 16, 17, 18, 19] (fun v6 _ _ _ _ _ _ wx => ∃ l', v6 = .pointer (some ⟨l', 0, none⟩) ∧ Hid (∃ lst' L', LM W wx d l' np (k + 2) mb lst' L' ∧ Same lst' L'))
        case first =>
          clear HLK2 d0
          by_cases hr1 : r = 1
          · --{A
            subst hr1
            have HDE := Lib.hid (HD5.out.1.delete HKE.out (key := ky))
            rcases hdl : deleteF L ky with ⟨c, L'⟩
            simp only [hdl] at HDE
            obtain ⟨cq, hcq⟩ : ∃ z, z = codeV c := ⟨_, rfl⟩
            have HC := Lib.hid (show (cq = if q then .nilIface else errV 3) ∧ ∀ k', valL L' k' = if k' = ky then none else valL L k' by
              rcases HD5.out.1.inv.delete (by omega) hdl with ⟨h0, h1, h2⟩ | ⟨v, h1, h2, -, h3⟩
              · refine ⟨by rw [HQ.out.1, h0, hcq, h1]; rfl, fun k' => ?_⟩
                rw [h2]
                by_cases hk9 : k' = ky
                · rw [if_pos hk9, hk9, h0]
                · rw [if_neg hk9]
              · exact ⟨by rw [HQ.out.1, h1, hcq, h2]; rfl, h3⟩)
            rw [← hcq] at HDE
            clear hcq hdl
            cases q with
            | false =>
              obtain rfl : cq = errV 3 := HC.out.1
              have HI3 := Lib.hid (fun w => is_err 3 w (by decide))
              go_upto_region 26 with (first
                | (go_at_call 13; refine (HI3.out _).mono ?_; rintro e w7 ⟨rfl, rfl⟩)
                | (go_at_call 12; refine HDE.out.mono ?_; rintro e w6 ⟨rfl, hl6⟩; have HL6 := Lib.hid hl6; clear hl6))
              obtain ⟨w8, hdel, hm8, hz8, hg8⟩ := HL6.out.map.drop Try.underlying33 Try.underlying9 (st ky) (st_max (by have := HKL.out; omega)) 0
              have HL8 := Lib.hid (And.intro (HL6.out.remap hg8 hm8) (HD5.out.2.del HC.out.2))
              clear hm8 hz8 hg8
              go_wp2_with fail
              go_meet
              exact ⟨l, rfl, Lib.hid ⟨_, L', HL8.out⟩⟩
            | true =>
              obtain rfl : cq = .nilIface := HC.out.1
              go_upto_region 26 with (go_at_call 12; refine HDE.out.mono ?_; rintro e w6 ⟨rfl, hl6⟩; have HL6 := Lib.hid hl6; clear hl6)
              obtain ⟨w8, hdel, hm8, hz8, hg8⟩ := HL6.out.map.drop Try.underlying33 Try.underlying9 (st ky) (st_max (by have := HKL.out; omega)) 0
              have HL8 := Lib.hid (And.intro (HL6.out.remap hg8 hm8) (HD5.out.2.del HC.out.2))
              clear hm8 hz8 hg8
              go_wp2_with fail
              go_meet
              exact ⟨l, rfl, Lib.hid ⟨_, L', HL8.out⟩⟩
            --}A
          · have i1 : ¬ (r : Int) = 1 := by omega
            by_cases hr4 : r = 4
            · --{B
              subst hr4
              have HRO := Lib.hid (HD5.out.1.reopen HKE.out)
              go_wp2_with (go_at_call 10; refine HRO.out.mono ?_; rintro e w6 ⟨l6, L6, rfl, hl6, hv6⟩; have HL6 := Lib.hid (And.intro hl6 hv6); clear hl6 hv6)
              go_meet
              exact ⟨l6, rfl, Lib.hid ⟨lst, L6, HL6.out.1.mono (Nat.le_succ _), HD5.out.2.of HL6.out.2⟩⟩
              --}B
            · --{C
              have i4 : ¬ (r : Int) = 4 := by omega
              have HVL := Lib.hid (fun w => value23 ak ay af am HOK.out.2.2.2 w)
              obtain ⟨vl, hvl⟩ : ∃ z, z = valueF af am := ⟨_, rfl⟩
              rw [← hvl] at HVL
              have HVLL := Lib.hid (show vl.length < 4000 by rw [hvl]; exact valueF_len af am)
              clear hvl
              have d0 := HRB5.out.cell (j := 0) rfl
              have d1 := HRB5.out.cell (j := 1) rfl
              have d2 := HRB5.out.cell (j := 2) rfl
              have d3 := HRB5.out.cell (j := 3) rfl
              go_upto_region 16 with (go_at_call 14; refine (HVL.out _).mono ?_; rintro e w6 ⟨v6, rfl, hx6, hb6⟩; have HX6 := Lib.hid hx6; have HB6 := Lib.hid hb6; clear hx6 hb6)
              have HL6 := Lib.hid (HD5.out.1.grow HX6.out)
              have HFR := Lib.hid HL6.out.freeb
              obtain ⟨fb, hfb⟩ : ∃ z, z = freeBytes L := ⟨_, rfl⟩
              rw [← hfb] at HFR
              obtain ⟨A6, c6, rfl, -, -⟩ := HB6.out.slice
              obtain ⟨vn, hvn⟩ : ∃ z, z = vl.length := ⟨_, rfl⟩
              rw [← hvn] at HB6
              rw [← hvn]
              have HVN := Lib.hid (And.intro hvn hfb)
              clear hvn hfb d0 d1 d2 d3
              go_upto_region 17 with (go_at_call 15; refine HFR.out.mono ?_; rintro e w7 ⟨rfl, hx7⟩; have HX7 := Lib.hid hx7; clear hx7)
              have HL7 := Lib.hid (HL6.out.grow HX7.out)
              have HB7 := Lib.hid (HB6.out.ext HX7.out)
              have HPU := Lib.hid (HL7.out.put HKE.out (key := ky) (value := vl) (by have := HKL.out; omega) (by have := HVLL.out; omega) HB7.out)
              rcases hpf : putF L ky vl with ⟨c, L'⟩
              simp only [hpf] at HPU
              have HC := Lib.hid (HD5.out.1.inv.put hpf)
              clear hpf
              by_cases hc0 : c = 0
              · have HV := Lib.hid (show ∀ k', valL L' k' = if k' = ky then some vl else valL L k' by
                  rcases HC.out with ⟨-, -, h9⟩ | ⟨h9, -⟩
                  · exact h9
                  · omega)
                rw [hc0, codeV_zero] at HPU
                clear HC hc0
                go_upto_region 19 with (go_at_call 16; refine HPU.out.mono ?_; rintro e w8 ⟨rfl, hl8, hb8⟩; have HL8 := Lib.hid hl8; have HB8 := Lib.hid (hb8 _ _ HB7.out); clear hl8 hb8)
                have hcv := conv_st (n := vn) HB8.out (by rw [HVN.out.1]; exact Nat.le_refl _)
                rw [List.take_of_length_le (by rw [HVN.out.1]; exact Nat.le_refl _)] at hcv
                obtain ⟨w9, hst, hm9, hz9, hg9⟩ := HL8.out.map.store Try.underlying33 Try.underlying9 (st ky) (st_max (by have := HKL.out; omega)) (.string (st vl))
                have HL9 := Lib.hid (And.intro (HL8.out.remap hg9 hm9) (HD5.out.2.put HV.out))
                clear hm9 hz9 hg9
                go_wp2_with fail
                go_meet
                exact ⟨l, rfl, Lib.hid ⟨_, L', HL9.out⟩⟩
              · have HCC := Lib.hid (show (c = 5 ∨ c = 8 ∨ c = 10) ∧ L' = L by
                  rcases HC.out with ⟨h9, -⟩ | h9
                  · exact absurd h9 hc0
                  · exact h9)
                rw [codeV_pos hc0] at HPU
                clear HC hc0
                obtain ⟨hcc, hL⟩ := HCC.out
                subst hL
                --{D
                rcases hcc with rfl | rfl | rfl
                · have HIG := Lib.hid (fun n w h => is_gen23 5 n w h)
                  go_upto_region 20 with (go_at_call 16; refine HPU.out.mono ?_; rintro e w8 ⟨rfl, hl8, hb8⟩; have HL8 := Lib.hid hl8; clear hl8 hb8)
                  have HF8 := Lib.hid HL8.out.freeb
                  rw [← HVN.out.2] at HF8
                  go_wp2_with (first
                    | (go_at_call 13; refine (HIG.out _ _ (by decide)).mono ?_; rintro e w9 ⟨rfl, rfl⟩)
                    | (go_at_call 15; refine HF8.out.mono ?_; rintro e w9 ⟨rfl, hx9⟩; have HX9 := Lib.hid hx9; clear hx9))
                  go_meet
                  exact ⟨l, rfl, Lib.hid ⟨lst, _, HL8.out.grow HX9.out, HD5.out.2⟩⟩
                · have HIG := Lib.hid (fun n w h => is_gen23 8 n w h)
                  go_upto_region 20 with (go_at_call 16; refine HPU.out.mono ?_; rintro e w8 ⟨rfl, hl8, hb8⟩; have HL8 := Lib.hid hl8; clear hl8 hb8)
                  have HF8 := Lib.hid HL8.out.freeb
                  rw [← HVN.out.2] at HF8
                  go_wp2_with (first
                    | (go_at_call 13; refine (HIG.out _ _ (by decide)).mono ?_; rintro e w9 ⟨rfl, rfl⟩)
                    | (go_at_call 15; refine HF8.out.mono ?_; rintro e w9 ⟨rfl, hx9⟩; have HX9 := Lib.hid hx9; clear hx9))
                  go_meet
                  exact ⟨l, rfl, Lib.hid ⟨lst, _, HL8.out.grow HX9.out, HD5.out.2⟩⟩
                · have HIG := Lib.hid (fun n w h => is_gen23 10 n w h)
                  go_upto_region 20 with (go_at_call 16; refine HPU.out.mono ?_; rintro e w8 ⟨rfl, hl8, hb8⟩; have HL8 := Lib.hid hl8; clear hl8 hb8)
                  have HF8 := Lib.hid HL8.out.freeb
                  rw [← HVN.out.2] at HF8
                  go_wp2_with (first
                    | (go_at_call 13; refine (HIG.out _ _ (by decide)).mono ?_; rintro e w9 ⟨rfl, rfl⟩)
                    | (go_at_call 15; refine HF8.out.mono ?_; rintro e w9 ⟨rfl, hx9⟩; have HX9 := Lib.hid hx9; clear hx9))
                  go_meet
                  exact ⟨l, rfl, Lib.hid ⟨lst, _, HL8.out.grow HX9.out, HD5.out.2⟩⟩
                --}D
              --}C
        case rest =>
          --{E
          obtain ⟨l', rfl, hD'⟩ := hcut
          clear HD5 HRB5 HLK2 HKL HQ d0 hr5 HOK HX5
          obtain ⟨lst', L', hD'⟩ := hD'.out
          have HD7 := Lib.hid hD'
          clear hD'
          obtain ⟨nk, hnk⟩ : ∃ z, z = (keysF L').length := ⟨_, rfl⟩
          have HK := Lib.hid (And.intro hnk (show lst'.length = nk by
            rw [hnk]
            obtain ⟨es, n9, -, -, -, hd9⟩ := HD7.out.1.map
            exact (HD7.out.2.len hd9 HD7.out.1.inv).symm))
          clear hnk
          generalize wc = wq at *
          have HKS := Lib.hid (fun w (hX : Ext wq w) => (HD7.out.1.grow hX).keys)
          have HKS2 := Lib.hid (show ∀ w, Ext wq w → Calls Try.prog 17 #[.pointer (some ⟨l', 0, none⟩)] w (fun e w' => ∃ A c, e = .returned (.slice A nk c) ∧ Ext wq w' ∧ KsAt w' w.heap.size (.slice A nk c) (keysF L')) from fun w hX => (HKS.out w hX).mono (fun e w' ⟨v, e1, hx, hk⟩ => by
            obtain ⟨A, c, rfl⟩ := hk.slice
            rw [← HK.out.1] at hk e1
            exact ⟨A, c, e1, hX.trans hx, hk⟩))
          clear HKS
          go_upto_region 34 with (go_at_call 17; refine (HKS2.out _ (Ext.refl _)).mono ?_; rintro e w10 ⟨A10, c10, rfl, hx10, -⟩; have HX10 := Lib.hid hx10; clear hx10; have hml := ms_len (HD7.out.1.grow HX10.out).map 3; rw [HK.out.2] at hml)
          clear hml
          go_wp2_with (go_at_call 17; refine (HKS2.out _ HX10.out).mono ?_; rintro e w11 ⟨A11, c11, rfl, hx11, hk11⟩; have HX11 := Lib.hid hx11; have HK11 := Lib.hid hk11; clear hx11 hk11)
          have hnk9 : nk ≤ 9223372036854775807 := by rw [HK.out.1]; exact HK11.out.le
          go_loopw [146] (fun i wr => ∃ (j : Nat), i = .int .i64 j ∧ j ≤ nk ∧ Hid (Ext w11 wr)) (fun i _ => nk - (intOf i).toNat)
          case atStart => exact ⟨0, rfl, by omega, Lib.hid (Ext.refl _)⟩
          case round =>
            obtain ⟨j, rfl, hj, hXr⟩ := hrel
            generalize wr = wo at *
            by_cases hjn : j < nk
            · have hji : (j : Int) < (nk : Int) := by omega
              obtain ⟨key, hkey⟩ : ∃ key, (keysF L')[j]? = some key := ⟨_, List.getElem?_eq_getElem (by rw [← HK.out.1]; exact hjn)⟩
              obtain ⟨g9, c9, hee, k0⟩ := HK11.out.get HK.out.1 hkey
              cases hee
              obtain ⟨vv, hvv⟩ := (HD7.out.1.inv.keys key).1 (List.mem_of_getElem? hkey)
              have HL12 := Lib.hid (HD7.out.1.grow (HX11.out.trans hXr.out))
              have HG := Lib.hid (HL12.out.gett hvv)
              have hkl : (st key).size ≤ maxLen := by
                obtain ⟨es, n9, -, -, hs9, -⟩ := HD7.out.1.map
                obtain ⟨TD, P, er, hs⟩ := HD7.out.1.inv.sess
                obtain ⟨e9, he9, -, hek9, -, -⟩ := hs.entry hvv
                have := (hs.core.ents he9).1.arg.key
                rw [hek9] at this
                exact st_max (by omega)
              have HSM := Lib.hid (show mget lst' (st key) = some (.string (st vv)) by rw [HD7.out.2 key, hvv]; rfl)
              have d0 := hXr.out.cell k0
              have HKL := Lib.hid hkl
              clear hkey k0 hvv hkl
              go_upto_region 38 with (go_at_call 18; refine HG.out.mono ?_; rintro e w13 ⟨hx13, u13, rfl, hu13⟩; obtain ⟨A13, c13, rfl, -, -⟩ := hu13.slice; have HX13 := Lib.hid hx13; have HU13 := Lib.hid hu13; clear hx13 hu13)
              have HLK := (HL12.out.grow HX13.out).map.look Try.underlying33 Try.underlying9 (st key) HKL.out (zero_str w13) true
              rw [HSM.out] at HLK
              simp only [if_true] at HLK
              obtain ⟨vn, hvn⟩ : ∃ z, z = vv.length := ⟨_, rfl⟩
              rw [← hvn] at HU13 ⊢
              have hcv := conv_st (n := vn) HU13.out (by rw [hvn]; exact Nat.le_refl _)
              rw [List.take_of_length_le (by rw [hvn]; exact Nat.le_refl _)] at hcv
              clear hvn
              obtain ⟨sv, hsv⟩ : ∃ z, z = st vv := ⟨_, rfl⟩
              rw [← hsv] at hcv HLK
              clear hsv
              go_wp2_with fail
              exact ⟨⟨j + 1, by go_num, by omega, Lib.hid (hXr.out.trans HX13.out)⟩, by simp [intOf]; omega⟩
            · have hji : (nk : Int) ≤ (j : Int) := by omega
              go_wp2_with fail
              exact ⟨⟨l', k + 1, rfl, by go_num, by omega, Lib.hid ⟨lst', L', HD7.out.1.grow (HX11.out.trans hXr.out), HD7.out.2⟩⟩, by simp [intOf]; omega⟩
          --}E
      · have hki : (len : Int) ≤ (k : Int) := by omega
        go_wp2_with fail
        go_ret
        exact ⟨rfl, HD.out.1.ext⟩
  · have hli : (40 : Int) < (len : Int) := by omega
    go_enter Try.func3, Try.ntmps3
    go_upto_region 2 with (go_at_call 8; refine (HMD.out _).mono ?_; rintro e w1 ⟨d, S1, G1, rfl, hx1, hd1, hs1⟩; have HX1 := Lib.hid (Ext.trans ((Ext.refl W).alloc _) hx1); clear hx1 hd1 hs1)
    go_upto_region 3 with (go_at_call 9; refine (HAW.out _).mono ?_; rintro e w2 ⟨rfl, hx2⟩; have HX2 := Lib.hid hx2; clear hx2)
    go_wp2_with (go_at_call 9; refine (HAW.out _).mono ?_; rintro e w3 ⟨rfl, hx3⟩; have HX3 := Lib.hid hx3; clear hx3)
    go_ret
    exact ⟨rfl, (HX1.out.trans HX2.out).trans HX3.out⟩
end Go.Proofs.Ytepigkjgjlibcaa
