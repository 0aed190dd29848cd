/- Chapter 09: the reference's ReadMultipart. -/
import Derived.Test.YteamnofooicbeaaDoorGD
namespace Go.Proofs.YteamnofooicbeaaDoor
open Go.RowKit Go.Deep
set_option maxRecDepth 100000 in
set_option maxHeartbeats 8000000 in
theorem rreadm_any (b s0 : ByteArray) (hb : b.size ≤ 3000) (hs0 : s0.size ≤ 3000) (w : World) :
    Calls Tryd.prog 27 #[.string b, .string s0] w fun e w' => ∃ v n ev, e = .returned (.tuple #[v, .int .i64 n, ev]) ∧
      Hid ((∃ ps, (bndF b = true ∧ rdF b s0 none = some (ps, n)) ∧ ev = .bool true ∧ P3 67 w' w.heap.size v (rq ps) ∧ ps.length ≤ 3000) ∨ ((bndF b = true → rdF b s0 none = none) ∧ ev = .bool false)) ∧ Ext w w' := by
  have HBD := Lib.hid (fun W => rboundary_any b (by omega) W)
  cases hbd : bndF b with
  | false =>
    rw [hbd] at HBD
    clear hbd
    go_enter Tryd.func27, Tryd.ntmps27
    go_wp2_with (go_at_call 61; refine (HBD.out _).mono ?_; rintro e w1 ⟨rfl, rfl⟩)
    go_returns
    exact ⟨_, _, _, rfl, Lib.hid (.inr ⟨fun h => (by cases h), rfl⟩), Ext.refl _⟩
  | true =>
    rw [hbd] at HBD
    clear hbd
    have he1 : (e1B b).size ≤ 4000 := by
      unfold e1B
      rw [app_size]
      have h1 : (⟨#[45, 45]⟩ : ByteArray).size = 2 := rfl
      omega
    obtain ⟨E1, hE1⟩ : ∃ E, e1B b = E := ⟨_, rfl⟩
    have HE1 := Lib.hid (show ⟨#[45, 45]⟩ ++ b = E1 from hE1)
    have HE1' := Lib.hid hE1
    rw [hE1] at he1
    obtain ⟨tot, htot⟩ : ∃ tot, rdF b s0 none = tot := ⟨_, rfl⟩
    have HTOT := Lib.hid htot
    have HST0 := Lib.hid (show Still b tot s0 none [] by rw [← htot]; exact Still.start b s0)
    obtain ⟨i0, hi0, hz0, hz1, hz2⟩ := info_parts rpart_info
    clear hE1 htot
    go_enter Tryd.func27, Tryd.ntmps27
    go_upto_region 5 with (go_at_call 61; refine (HBD.out _).mono ?_; rintro e w1 ⟨rfl, rfl⟩)
    go_loopw [1, 7, 8, 9] (fun sv ov lv mv wr => ∃ (s : ByteArray) (ps : List (Int × Int × ByteArray)) (st : Option (ByteArray × Int)) (k : ByteArray) (n : Int) (A7 : Option Addr) (c7 : Nat), sv = .string s ∧ ov = .slice A7 ps.length c7 ∧ lv = .int .i64 n ∧ mv = .string k ∧ ps.length + s.size ≤ 3000 ∧ Hid ((st = none ∨ st = some (k, n)) ∧ P3 67 wr w.heap.size ov (rq ps) ∧ Ext w wr ∧ Still b tot s st ps)) (fun sv _ _ _ _ => match sv with | .string s => s.size | _ => 0)
    case atStart => exact ⟨s0, [], none, ⟨#[]⟩, 0, none, 0, rfl, rfl, rfl, rfl, by simpa using hs0, Lib.hid ⟨.inl rfl, P3.nil _ _ _, Ext.refl _, HST0.out⟩⟩
    case round =>
      obtain ⟨s, ps, st, k, n, A7, c7, rfl, rfl, rfl, rfl, hlen, HS⟩ := hrel
      have hss : s.size ≤ 3000 := by omega
      by_cases hf : s = finB b
      · have hq : (s.toList == (⟨#[45, 45]⟩ ++ b ++ ⟨#[45, 45, 13, 10]⟩ : ByteArray).toList) = true := by rw [hf]; exact beq_self_eq_true _
        rcases HS.out.2.2.2.fin hf with ⟨hps, ht⟩ | ⟨hps, k', n', hst, ht⟩
        · have hp0 : ps.length = 0 := List.length_eq_zero_iff.2 hps
          have hp0' : ¬ (0 : Int) < (ps.length : Int) := by omega
          have HT := Lib.hid ht
          clear hf ht hps
          go_wp2_with fail
          go_returns
          exact ⟨_, _, _, rfl, Lib.hid (.inr ⟨by first | exact HTOT.out.trans HT.out | exact fun _ => HTOT.out.trans HT.out, by first | rfl | simp [hp0]⟩), HS.out.2.2.1⟩
        · have hp0 : 0 < ps.length := List.length_pos_iff.2 hps
          have hp0' : (0 : Int) < (ps.length : Int) := by omega
          have HT := Lib.hid (show tot = some (ps, n) by
            rcases HS.out.1 with h | h
            · rw [hst] at h; cases h
            · rw [hst] at h
              have := (Prod.mk.inj (Option.some.inj h)).2
              rw [ht, this])
          clear hf ht hps hst
          go_wp2_with fail
          go_returns
          exact ⟨_, _, _, rfl, Lib.hid (.inl ⟨ps, ⟨by first | rfl | trivial, HTOT.out.trans HT.out⟩, by first | rfl | simp [hp0], HS.out.2.1, by omega⟩), HS.out.2.2.1⟩
      · have hq : (s.toList == (⟨#[45, 45]⟩ ++ b ++ ⟨#[45, 45, 13, 10]⟩ : ByteArray).toList) = false := by rw [beq_eq_false_iff_ne]; exact fun h => hf (bs_ext h)
        have HNF := Lib.hid hf
        clear hf
        have g1 := lineF_size E1 s
        have HC1 := Lib.hid (fun W => rline_any s E1 (by omega) (by omega) W)
        obtain ⟨⟨m1, a1, o1⟩, hl1⟩ : ∃ q, lineF E1 s = q := ⟨_, rfl⟩
        rw [hl1] at g1 HC1
        simp only at g1 HC1
        have g2 := lineF_size ctB a1
        have HC2 := Lib.hid (fun W => rline_any a1 ctB (by omega) (by decide) W)
        obtain ⟨⟨m2, a2, o2⟩, hl2⟩ : ∃ q, lineF ctB a1 = q := ⟨_, rfl⟩
        rw [hl2] at g2 HC2
        simp only at g2 HC2
        have g3 := lineF_size crB a2
        have HC3 := Lib.hid (fun W => rline_any a2 crB (by omega) (by decide) W)
        obtain ⟨⟨m3, a3, o3⟩, hl3⟩ : ∃ q, lineF crB a2 = q := ⟨_, rfl⟩
        rw [hl3] at g3 HC3
        simp only at g3 HC3
        have g4 := lineF_size ⟨#[]⟩ a3
        have HC4 := Lib.hid (fun W => rline_any a3 ⟨#[]⟩ (by omega) (by decide) W)
        obtain ⟨⟨m4, e4, o4⟩, hl4⟩ : ∃ q, lineF ⟨#[]⟩ a3 = q := ⟨_, rfl⟩
        rw [hl4] at g4 HC4
        simp only at g4 HC4
        have HR5 := Lib.hid (fun W => rreadcr_any m3 (by omega) W)
        have HKD := Lib.hid (fun W => rkind_any m2 (by omega) W)
        have HQQ : Hid (l1 b s = (m1, a1, o1) ∧ l2 b s = (m2, a2, o2) ∧ l3 b s = (m3, a3, o3) ∧ l4 b s = (m4, e4, o4)) := Lib.hid (by
          have e1 : l1 b s = (m1, a1, o1) := by unfold l1; rw [HE1'.out]; exact hl1
          have e2 : l2 b s = (m2, a2, o2) := by unfold l2; rw [e1]; exact hl2
          have e3 : l3 b s = (m3, a3, o3) := by unfold l3; rw [e2]; exact hl3
          have e4 : l4 b s = (m4, e4, o4) := by unfold l4; rw [e3]; exact hl4
          exact ⟨e1, e2, e3, e4⟩)
        have HQ : Hid (okQ b s ↔ (o1 = true ∧ o2 = true ∧ o3 = true ∧ o4 = true ∧ m1 = ⟨#[]⟩ ∧ m4 = ⟨#[]⟩)) := Lib.hid (by
          unfold okQ
          rw [HQQ.out.1, HQQ.out.2.1, HQQ.out.2.2.1, HQQ.out.2.2.2])
        have hes : e4.size ≤ 3000 := by omega
        clear hl1 hl2 hl3 hl4 g1 g2 g3 g4
        go_upto_region 7 with (go_at_call 62; rw [HE1.out]; refine (HC1.out _).mono ?_; rintro e w1 ⟨rfl, hx1⟩)
        go_upto_region 8 with (go_at_call 62; refine (HC2.out _).mono ?_; rintro e w2 ⟨rfl, hx2⟩)
        go_upto_region 9 with (go_at_call 62; refine (HC3.out _).mono ?_; rintro e w3 ⟨rfl, hx3⟩)
        go_upto_region 10 with (go_at_call 62; refine (HC4.out _).mono ?_; rintro e w4 ⟨rfl, hx4⟩)
        go_upto_region 11 with (go_at_call 22; refine (HR5.out _).mono ?_; rintro e w5 ⟨⟨f, t, nn, ev, rfl, HK5⟩, hx5⟩)
        obtain ⟨w6, hw6⟩ : ∃ wb, wb = w5.alloc (.cells #[.int .i64 f, .int .i64 t] 43) := ⟨_, rfl⟩
        have X6 : Ext w5 w6 := by rw [hw6]; exact (Ext.refl w5).alloc _
        have HBX : Hid (RowB w6 w5.heap.size 43 [.int .i64 f, .int .i64 t]) := Lib.hid (by rw [hw6]; exact row_laid _ _ _)
        rw [← hw6]
        clear hw6
        obtain ⟨rb, hrb⟩ : ∃ q, w5.heap.size = q := ⟨_, rfl⟩
        rw [hrb] at HBX ⊢
        clear hrb
        have HX5 := Lib.hid (hx1.trans (hx2.trans (hx3.trans (hx4.trans (hx5.trans X6)))))
        clear hx1 hx2 hx3 hx4 hx5 X6 HC1 HC2 HC3 HC4 HR5
        have b0 := HBX.out.cell (j := 0) rfl
        have b1 := HBX.out.cell (j := 1) rfl
        cases o1 with
        | false =>
          have HB := Lib.hid (HS.out.2.2.2.bad HNF.out (part_noQ (fun h => absurd (HQ.out.1 h).1 (by decide))))
          have HXF := Lib.hid (HS.out.2.2.1.trans HX5.out)
          go_wp2_with fail
          go_returns
          exact ⟨_, _, _, rfl, Lib.hid (.inr ⟨by first | exact HTOT.out.trans HB.out | exact fun _ => HTOT.out.trans HB.out, rfl⟩), HXF.out⟩
        | true =>
          cases o2 with
          | false =>
            have HB := Lib.hid (HS.out.2.2.2.bad HNF.out (part_noQ (fun h => absurd (HQ.out.1 h).2.1 (by decide))))
            have HXF := Lib.hid (HS.out.2.2.1.trans HX5.out)
            go_wp2_with fail
            go_returns
            exact ⟨_, _, _, rfl, Lib.hid (.inr ⟨by first | exact HTOT.out.trans HB.out | exact fun _ => HTOT.out.trans HB.out, rfl⟩), HXF.out⟩
          | true =>
            cases o3 with
            | false =>
              have HB := Lib.hid (HS.out.2.2.2.bad HNF.out (part_noQ (fun h => absurd (HQ.out.1 h).2.2.1 (by decide))))
              have HXF := Lib.hid (HS.out.2.2.1.trans HX5.out)
              go_wp2_with fail
              go_returns
              exact ⟨_, _, _, rfl, Lib.hid (.inr ⟨by first | exact HTOT.out.trans HB.out | exact fun _ => HTOT.out.trans HB.out, rfl⟩), HXF.out⟩
            | true =>
              cases o4 with
              | false =>
                have HB := Lib.hid (HS.out.2.2.2.bad HNF.out (part_noQ (fun h => absurd (HQ.out.1 h).2.2.2.1 (by decide))))
                have HXF := Lib.hid (HS.out.2.2.1.trans HX5.out)
                go_wp2_with fail
                go_returns
                exact ⟨_, _, _, rfl, Lib.hid (.inr ⟨by first | exact HTOT.out.trans HB.out | exact fun _ => HTOT.out.trans HB.out, rfl⟩), HXF.out⟩
              | true =>
                rcases HK5.out with ⟨k1', k2', rfl⟩ | ⟨k1', rfl, rfl, rfl, rfl⟩
                · have HCR5 := Lib.hid (crO_yes k1' k2')
                  have HOKC := Lib.hid k1'
                  clear k1' k2'
                  rcases Nat.eq_zero_or_pos m1.size with hm1 | hm1
                  · have HM1 := Lib.hid (show m1 = ⟨#[]⟩ from empty_is hm1)
                    have q1 := empty_yes hm1
                    clear hm1
                    rcases Nat.eq_zero_or_pos m4.size with hm4 | hm4
                    · have HM4 := Lib.hid (show m4 = ⟨#[]⟩ from empty_is hm4)
                      have q4 := empty_yes hm4
                      clear hm4
                      cases hkd : kindF m2 with
                      | false =>
                        rw [hkd] at HKD
                        have HNK := Lib.hid (show kindF (l2 b s).1 = false by rw [HQQ.out.2.1]; exact hkd)
                        clear hkd
                        have HB := Lib.hid (HS.out.2.2.2.bad HNF.out (part_noL HNK.out))
                        have HXF := Lib.hid (HS.out.2.2.1.trans HX5.out)
                        go_wp2_with (go_at_call 63; refine (HKD.out _).mono ?_; rintro e w9 ⟨rfl, rfl⟩)
                        go_returns
                        exact ⟨_, _, _, rfl, Lib.hid (.inr ⟨by first | exact HTOT.out.trans HB.out | exact fun _ => HTOT.out.trans HB.out, rfl⟩), HXF.out⟩
                      | true =>
                        rw [hkd] at HKD
                        have HOKP := Lib.hid ((head_same b s).1.1 (HQ.out.2 ⟨rfl, rfl, rfl, rfl, HM1.out, HM4.out⟩))
                        obtain ⟨e2, e3, e4'⟩ := (head_same b s).2 HOKP.out
                        rw [HQQ.out.2.1] at e2
                        rw [HQQ.out.2.2.1] at e3
                        rw [HQQ.out.2.2.2] at e4'
                        simp only at e2 e3 e4'
                        have HKK := Lib.hid (show kindF (k1 b s).1 = true by rw [← e2]; exact hkd)
                        have HM2 := Lib.hid e2
                        have HCO := Lib.hid (show crO (k2 b s).1 = some (f, t, nn) by rw [← e3]; exact HCR5.out)
                        have HE4 := Lib.hid (show e4 = eB b s from e4')
                        clear hkd e2 e3 e4'
                        obtain ⟨⟨p1, p2, p3⟩, -, -, -⟩ := okC_parts HOKC.out
                        obtain ⟨z, hz⟩ : ∃ z : Nat, (z : Int) = t - f := ⟨(t - f).toNat, by omega⟩
                        have HZ2 := Lib.hid (show szI f t = z by unfold szI; omega)
                        have hw : wrap64 (t - f) = (z : Int) := by unfold wrap64; omega
                        have hz6 : (z : Int) ≤ 999999999999999 := by omega
                        clear hz p1 p2 p3
                        rcases HS.out.1 with hst | hst
                        · have HSTE := Lib.hid (show st = none ∨ st = some ((k1 b s).1, nn) from .inl hst)
                          have hps : ps = [] := HS.out.2.2.2.2.2 hst
                          subst hps
                          simp only [List.length_nil] at hlen
                          clear hst
                          go_upto_region 13 with (go_at_call 63; refine (HKD.out _).mono ?_; rintro e w9 ⟨rfl, rfl⟩)
                          by_cases h2 : z + 2 ≤ e4.size
                          · have h2' : ¬ (e4.size : Int) < (z : Int) + 2 := by omega
                            have h2a : (z : Int) + 2 ≤ (e4.size : Int) := by omega
                            have hzl : z ≤ e4.size := by omega
                            have hzz : z ≤ z + 2 := by omega
                            have hcut := cr_cmp h2
                            have HPG := Lib.hid (fun hc hh => part_go HOKP.out HCO.out HKK.out HSTE.out HZ2.out HE4.out h2 hc hh)
                            have HCC := Lib.hid (fun hc => cond_cr (st := st) (f := f) (t := t) (n := nn) HZ2.out HE4.out hc)
                            have HCH := Lib.hid (fun hc => cond_hold (st := st) (f := f) (t := t) (n := nn) HZ2.out HE4.out hc)
                            obtain ⟨cr, hcr⟩ : ∃ c, pfxB crlB (e4.extract z e4.size) = c := ⟨_, rfl⟩
                            rw [hcr] at hcut HPG HCC
                            obtain ⟨y2, hy2⟩ : ∃ y, e4.extract z (z + 2) = y := ⟨_, rfl⟩
                            rw [hy2] at hcut
                            obtain ⟨d4, hd4⟩ : ∃ d, e4.extract 0 z = d := ⟨_, rfl⟩
                            have hd4s : d4.size ≤ 3000 := by rw [← hd4, ByteArray.size_extract]; omega
                            rw [hd4] at HPG HCH
                            have HHD := Lib.hid (fun W => rholds_any d4 b (by omega) (by omega) W)
                            obtain ⟨hh, hhd⟩ : ∃ c, holdF d4 b = c := ⟨_, rfl⟩
                            rw [hhd] at HPG HCH HHD
                            have HYD := Lib.hid (And.intro hy2 hd4)
                            clear hcr hhd
                            cases cr with
                            | false =>
                              have HN := Lib.hid (HCC.out rfl)
                              clear HCC HCH HPG
                              have HB := Lib.hid (HS.out.2.2.2.bad HNF.out (part_no3 HCO.out HN.out))
                              have HXF := Lib.hid (HS.out.2.2.1.trans HX5.out)
                              go_wp2_with fail
                              go_returns
                              exact ⟨_, _, _, rfl, Lib.hid (.inr ⟨by first | exact HTOT.out.trans HB.out | exact fun _ => HTOT.out.trans HB.out, rfl⟩), HXF.out⟩
                            | true =>
                              cases hh with
                              | true =>
                                have HN := Lib.hid (HCH.out rfl)
                                clear HCC HCH HPG
                                have HB := Lib.hid (HS.out.2.2.2.bad HNF.out (part_no3 HCO.out HN.out))
                                have HXF := Lib.hid (HS.out.2.2.1.trans HX5.out)
                                go_wp2_with (go_at_call 64; refine (HHD.out _).mono ?_; rintro e w9 ⟨rfl, hx9⟩)
                                go_returns
                                exact ⟨_, _, _, rfl, Lib.hid (.inr ⟨by first | exact HTOT.out.trans HB.out | exact fun _ => HTOT.out.trans HB.out, rfl⟩), HXF.out.trans hx9⟩
                              | false =>
                                have HST2 := Lib.hid (HS.out.2.2.2.step HNF.out (HPG.out rfl rfl))
                                have HLESS := Lib.hid (part_less (HPG.out rfl rfl))
                                clear HCC HCH HPG
                                go_upto_region 17 with (go_at_call 64; refine (HHD.out _).mono ?_; rintro e w9 ⟨rfl, hx9⟩)
                                have HX9 := Lib.hid (HX5.out.trans hx9)
                                have HB9 := Lib.hid (HBX.out.ext hx9)
                                have HO9 := Lib.hid (HS.out.2.1.ext HX9.out)
                                have HXW := Lib.hid (HS.out.2.2.1.trans HX9.out)
                                clear hx9
                                have c0 := HB9.out.cell (j := 0) rfl
                                have c1 := HB9.out.cell (j := 1) rfl
                                have hown9 : w9.ownsRow w.heap.size 67 3 (.slice A7 ([] : List (Int × Int × ByteArray)).length c7) ([] : List (Int × Int × ByteArray)).length ((rq []).flatMap c3) := by have := HO9.out; unfold P3 at this; rwa [rq_length] at this
                                have HOW := Lib.hid hown9
                                have hpl : ([] : List (Int × Int × ByteArray)).length ≤ 3000 := by first | omega | simp
                                have hsz9 := HXW.out.size
                                clear hown9
                                go_region_law (first
                                  | (refine step_append_any _ (by rfl) (.tmp 139) (.tmp 145) _ (by rfl) w.heap.size 67 i0 _ 3 32 Tryd.underlying61 hi0 hz0 hz1 hz2 rfl (by omega) (.slice A7 ([] : List (Int × Int × ByteArray)).length c7) ([] : List (Int × Int × ByteArray)).length _ (by rfl) (own_kept HOW.out ?_) _ (some ⟨w9.heap.size, 0, none⟩) 1 1 [.int .i64 f, .int .i64 t, .string d4] (by rfl) (reads_one3 (RowB.ext (row_laid w9 67 [.int .i64 f, .int .i64 t, .string d4]) ?_)) (by intro u hu; simp at hu; rcases hu with rfl | rfl | rfl <;> rfl) (by simp only [maxLen]; omega) (by omega) (Nat.le_trans hsz9 (Ext.size ?_)) ?_
                                     · repeat' (first | exact Ext.refl _ | refine Ext.drew ?_ | refine Ext.drewN ?_ _ | refine Ext.alloc ?_ _)
                                     · repeat' (first | exact Ext.refl _ | refine Ext.drew ?_ | refine Ext.drewN ?_ _ | refine Ext.alloc ?_ _)
                                     · repeat' (first | exact Ext.refl _ | refine Ext.drew ?_ | refine Ext.drewN ?_ _ | refine Ext.alloc ?_ _)
                                     intro v10 w10 hown10 hg10 hat10
                                     have X10 : Ext w w10 := Below.grown (Ext.trans HXW.out (by repeat' (first | exact Ext.refl _ | refine Ext.drew ?_ | refine Ext.drewN ?_ _ | refine Ext.alloc ?_ _))) hg10 (Nat.le_trans hsz9 (Ext.size (by repeat' (first | exact Ext.refl _ | refine Ext.drew ?_ | refine Ext.drewN ?_ _ | refine Ext.alloc ?_ _)))) (own_base HOW.out)
                                     have hP3 : P3 67 w10 w.heap.size v10 (rq ([] ++ [(f, t, d4)])) := by
                                       unfold P3
                                       rw [rq_snoc, List.length_append, List.flatMap_append, rq_length]
                                       exact hown10
                                     obtain ⟨A10, c10, rfl, hc10, -⟩ := hP3.parts
                                     rw [rq_length] at hP3 ⊢
                                     have HP3 := Lib.hid hP3
                                     clear hown10 hg10 hat10 hP3))
                                all_goals go_wp2_with fail
                                all_goals go_roundw
                                all_goals first
                                  | exact ⟨e4.extract (z + 2) e4.size, [] ++ [(f, t, d4)], some ((k1 b s).1, nn), m2, nn, A10, c10, rfl, by first | rfl | simp, rfl, rfl, by have := HLESS.out; simp only [List.length_append, List.length_cons, List.length_nil]; omega, Lib.hid ⟨.inr (by rw [HM2.out]), by first | exact HP3.out.ext (by repeat' (first | exact Ext.refl _ | refine Ext.drew ?_ | refine Ext.drewN ?_ _ | refine Ext.alloc ?_ _)) | (have h := HP3.out.ext (by repeat' (first | exact Ext.refl _ | refine Ext.drew ?_ | refine Ext.drewN ?_ _ | refine Ext.alloc ?_ _) : Ext w10 _); simpa only [List.length_append, List.length_cons, List.length_nil, Nat.zero_add] using h), X10.trans (by repeat' (first | exact Ext.refl _ | refine Ext.drew ?_ | refine Ext.drewN ?_ _ | refine Ext.alloc ?_ _)), HST2.out⟩⟩
                                  | exact HLESS.out
                                  | (trace_state; sorry)
                          · have h2' : (e4.size : Int) < (z : Int) + 2 := by omega
                            have HN := Lib.hid (cond_len (st := st) (f := f) (t := t) (n := nn) HZ2.out HE4.out h2)
                            have HB := Lib.hid (HS.out.2.2.2.bad HNF.out (part_no3 HCO.out HN.out))
                            have HXF := Lib.hid (HS.out.2.2.1.trans HX5.out)
                            go_wp2_with fail
                            go_returns
                            exact ⟨_, _, _, rfl, Lib.hid (.inr ⟨by first | exact HTOT.out.trans HB.out | exact fun _ => HTOT.out.trans HB.out, rfl⟩), HXF.out⟩
                        · have hps : 0 < ps.length := by
                            rcases Nat.eq_zero_or_pos ps.length with h0 | h0
                            · have := HS.out.2.2.2.2.1 (List.length_eq_zero_iff.1 h0)
                              rw [hst] at this
                              cases this
                            · exact h0
                          have hps' : (0 : Int) < (ps.length : Int) := by omega
                          have HST0' := Lib.hid hst
                          clear hst
                          by_cases hnn : nn = n
                          · have qn : (nn != n) = false := by simp [hnn]
                            by_cases hmk : m2 = k
                            · have qk : (m2.toList == k.toList) = true := by rw [hmk]; exact beq_self_eq_true _
                              have HSTE := Lib.hid (show st = none ∨ st = some ((k1 b s).1, nn) from .inr (by rw [HST0'.out, ← HM2.out, hmk, hnn]))
                              clear hmk hnn
                              go_upto_region 13 with (go_at_call 63; refine (HKD.out _).mono ?_; rintro e w9 ⟨rfl, rfl⟩)
                              by_cases h2 : z + 2 ≤ e4.size
                              · have h2' : ¬ (e4.size : Int) < (z : Int) + 2 := by omega
                                have h2a : (z : Int) + 2 ≤ (e4.size : Int) := by omega
                                have hzl : z ≤ e4.size := by omega
                                have hzz : z ≤ z + 2 := by omega
                                have hcut := cr_cmp h2
                                have HPG := Lib.hid (fun hc hh => part_go HOKP.out HCO.out HKK.out HSTE.out HZ2.out HE4.out h2 hc hh)
                                have HCC := Lib.hid (fun hc => cond_cr (st := st) (f := f) (t := t) (n := nn) HZ2.out HE4.out hc)
                                have HCH := Lib.hid (fun hc => cond_hold (st := st) (f := f) (t := t) (n := nn) HZ2.out HE4.out hc)
                                obtain ⟨cr, hcr⟩ : ∃ c, pfxB crlB (e4.extract z e4.size) = c := ⟨_, rfl⟩
                                rw [hcr] at hcut HPG HCC
                                obtain ⟨y2, hy2⟩ : ∃ y, e4.extract z (z + 2) = y := ⟨_, rfl⟩
                                rw [hy2] at hcut
                                obtain ⟨d4, hd4⟩ : ∃ d, e4.extract 0 z = d := ⟨_, rfl⟩
                                have hd4s : d4.size ≤ 3000 := by rw [← hd4, ByteArray.size_extract]; omega
                                rw [hd4] at HPG HCH
                                have HHD := Lib.hid (fun W => rholds_any d4 b (by omega) (by omega) W)
                                obtain ⟨hh, hhd⟩ : ∃ c, holdF d4 b = c := ⟨_, rfl⟩
                                rw [hhd] at HPG HCH HHD
                                have HYD := Lib.hid (And.intro hy2 hd4)
                                clear hcr hhd
                                cases cr with
                                | false =>
                                  have HN := Lib.hid (HCC.out rfl)
                                  clear HCC HCH HPG
                                  have HB := Lib.hid (HS.out.2.2.2.bad HNF.out (part_no3 HCO.out HN.out))
                                  have HXF := Lib.hid (HS.out.2.2.1.trans HX5.out)
                                  go_wp2_with fail
                                  go_returns
                                  exact ⟨_, _, _, rfl, Lib.hid (.inr ⟨by first | exact HTOT.out.trans HB.out | exact fun _ => HTOT.out.trans HB.out, rfl⟩), HXF.out⟩
                                | true =>
                                  cases hh with
                                  | true =>
                                    have HN := Lib.hid (HCH.out rfl)
                                    clear HCC HCH HPG
                                    have HB := Lib.hid (HS.out.2.2.2.bad HNF.out (part_no3 HCO.out HN.out))
                                    have HXF := Lib.hid (HS.out.2.2.1.trans HX5.out)
                                    go_wp2_with (go_at_call 64; refine (HHD.out _).mono ?_; rintro e w9 ⟨rfl, hx9⟩)
                                    go_returns
                                    exact ⟨_, _, _, rfl, Lib.hid (.inr ⟨by first | exact HTOT.out.trans HB.out | exact fun _ => HTOT.out.trans HB.out, rfl⟩), HXF.out.trans hx9⟩
                                  | false =>
                                    have HST2 := Lib.hid (HS.out.2.2.2.step HNF.out (HPG.out rfl rfl))
                                    have HLESS := Lib.hid (part_less (HPG.out rfl rfl))
                                    clear HCC HCH HPG
                                    go_upto_region 17 with (go_at_call 64; refine (HHD.out _).mono ?_; rintro e w9 ⟨rfl, hx9⟩)
                                    have HX9 := Lib.hid (HX5.out.trans hx9)
                                    have HB9 := Lib.hid (HBX.out.ext hx9)
                                    have HO9 := Lib.hid (HS.out.2.1.ext HX9.out)
                                    have HXW := Lib.hid (HS.out.2.2.1.trans HX9.out)
                                    clear hx9
                                    have c0 := HB9.out.cell (j := 0) rfl
                                    have c1 := HB9.out.cell (j := 1) rfl
                                    have hown9 : w9.ownsRow w.heap.size 67 3 (.slice A7 ps.length c7) ps.length ((rq ps).flatMap c3) := by have := HO9.out; unfold P3 at this; rwa [rq_length] at this
                                    have HOW := Lib.hid hown9
                                    have hpl : ps.length ≤ 3000 := by first | omega | simp
                                    have hsz9 := HXW.out.size
                                    clear hown9
                                    go_region_law (first
                                      | (refine step_append_any _ (by rfl) (.tmp 139) (.tmp 145) _ (by rfl) w.heap.size 67 i0 _ 3 32 Tryd.underlying61 hi0 hz0 hz1 hz2 rfl (by omega) (.slice A7 ps.length c7) ps.length _ (by rfl) (own_kept HOW.out ?_) _ (some ⟨w9.heap.size, 0, none⟩) 1 1 [.int .i64 f, .int .i64 t, .string d4] (by rfl) (reads_one3 (RowB.ext (row_laid w9 67 [.int .i64 f, .int .i64 t, .string d4]) ?_)) (by intro u hu; simp at hu; rcases hu with rfl | rfl | rfl <;> rfl) (by simp only [maxLen]; omega) (by omega) (Nat.le_trans hsz9 (Ext.size ?_)) ?_
                                         · repeat' (first | exact Ext.refl _ | refine Ext.drew ?_ | refine Ext.drewN ?_ _ | refine Ext.alloc ?_ _)
                                         · repeat' (first | exact Ext.refl _ | refine Ext.drew ?_ | refine Ext.drewN ?_ _ | refine Ext.alloc ?_ _)
                                         · repeat' (first | exact Ext.refl _ | refine Ext.drew ?_ | refine Ext.drewN ?_ _ | refine Ext.alloc ?_ _)
                                         intro v10 w10 hown10 hg10 hat10
                                         have X10 : Ext w w10 := Below.grown (Ext.trans HXW.out (by repeat' (first | exact Ext.refl _ | refine Ext.drew ?_ | refine Ext.drewN ?_ _ | refine Ext.alloc ?_ _))) hg10 (Nat.le_trans hsz9 (Ext.size (by repeat' (first | exact Ext.refl _ | refine Ext.drew ?_ | refine Ext.drewN ?_ _ | refine Ext.alloc ?_ _)))) (own_base HOW.out)
                                         have hP3 : P3 67 w10 w.heap.size v10 (rq (ps ++ [(f, t, d4)])) := by
                                           unfold P3
                                           rw [rq_snoc, List.length_append, List.flatMap_append, rq_length]
                                           exact hown10
                                         obtain ⟨A10, c10, rfl, hc10, -⟩ := hP3.parts
                                         rw [rq_length] at hP3 ⊢
                                         have HP3 := Lib.hid hP3
                                         clear hown10 hg10 hat10 hP3))
                                    all_goals go_wp2_with fail
                                    all_goals go_roundw
                                    all_goals first
                                      | exact ⟨e4.extract (z + 2) e4.size, ps ++ [(f, t, d4)], some ((k1 b s).1, nn), m2, nn, A10, c10, rfl, by first | rfl | simp, rfl, rfl, by have := HLESS.out; simp only [List.length_append, List.length_cons, List.length_nil]; omega, Lib.hid ⟨.inr (by rw [HM2.out]), by first | exact HP3.out.ext (by repeat' (first | exact Ext.refl _ | refine Ext.drew ?_ | refine Ext.drewN ?_ _ | refine Ext.alloc ?_ _)) | (have h := HP3.out.ext (by repeat' (first | exact Ext.refl _ | refine Ext.drew ?_ | refine Ext.drewN ?_ _ | refine Ext.alloc ?_ _) : Ext w10 _); simpa only [List.length_append, List.length_cons, List.length_nil, Nat.zero_add] using h), X10.trans (by repeat' (first | exact Ext.refl _ | refine Ext.drew ?_ | refine Ext.drewN ?_ _ | refine Ext.alloc ?_ _)), HST2.out⟩⟩
                                      | exact HLESS.out
                                      | (trace_state; sorry)
                              · have h2' : (e4.size : Int) < (z : Int) + 2 := by omega
                                have HN := Lib.hid (cond_len (st := st) (f := f) (t := t) (n := nn) HZ2.out HE4.out h2)
                                have HB := Lib.hid (HS.out.2.2.2.bad HNF.out (part_no3 HCO.out HN.out))
                                have HXF := Lib.hid (HS.out.2.2.1.trans HX5.out)
                                go_wp2_with fail
                                go_returns
                                exact ⟨_, _, _, rfl, Lib.hid (.inr ⟨by first | exact HTOT.out.trans HB.out | exact fun _ => HTOT.out.trans HB.out, rfl⟩), HXF.out⟩
                            · have qk : (m2.toList == k.toList) = false := by rw [beq_eq_false_iff_ne]; exact fun h => hmk (bs_ext h)
                              have HN := Lib.hid (fun h : condP b s st f t nn => by
                                rcases h.2.1 with h3 | h3
                                · rw [HST0'.out] at h3; cases h3
                                · rw [HST0'.out] at h3
                                  have h5 := (Prod.mk.inj (Option.some.inj h3)).1
                                  exact hmk (HM2.out.trans h5.symm))
                              clear hmk hnn
                              have HB := Lib.hid (HS.out.2.2.2.bad HNF.out (part_no3 HCO.out HN.out))
                              have HXF := Lib.hid (HS.out.2.2.1.trans HX5.out)
                              go_wp2_with (go_at_call 63; refine (HKD.out _).mono ?_; rintro e w9 ⟨rfl, rfl⟩)
                              go_returns
                              exact ⟨_, _, _, rfl, Lib.hid (.inr ⟨by first | exact HTOT.out.trans HB.out | exact fun _ => HTOT.out.trans HB.out, rfl⟩), HXF.out⟩
                          · have qn : (nn != n) = true := by simp [hnn]
                            have HN := Lib.hid (fun h : condP b s st f t nn => by
                              rcases h.2.1 with h3 | h3
                              · rw [HST0'.out] at h3; cases h3
                              · rw [HST0'.out] at h3
                                have h5 := (Prod.mk.inj (Option.some.inj h3)).2
                                exact hnn h5.symm)
                            clear hnn
                            have HB := Lib.hid (HS.out.2.2.2.bad HNF.out (part_no3 HCO.out HN.out))
                            have HXF := Lib.hid (HS.out.2.2.1.trans HX5.out)
                            go_wp2_with (go_at_call 63; refine (HKD.out _).mono ?_; rintro e w9 ⟨rfl, rfl⟩)
                            go_returns
                            exact ⟨_, _, _, rfl, Lib.hid (.inr ⟨by first | exact HTOT.out.trans HB.out | exact fun _ => HTOT.out.trans HB.out, rfl⟩), HXF.out⟩
                    · have q4 := empty_no hm4
                      have HB := Lib.hid (HS.out.2.2.2.bad HNF.out (part_noQ (fun h => by have := (HQ.out.1 h).2.2.2.2.2; rw [this] at hm4; exact absurd hm4 (by decide))))
                      have HXF := Lib.hid (HS.out.2.2.1.trans HX5.out)
                      go_wp2_with fail
                      go_returns
                      exact ⟨_, _, _, rfl, Lib.hid (.inr ⟨by first | exact HTOT.out.trans HB.out | exact fun _ => HTOT.out.trans HB.out, rfl⟩), HXF.out⟩
                  · have q1 := empty_no hm1
                    have HB := Lib.hid (HS.out.2.2.2.bad HNF.out (part_noQ (fun h => by have := (HQ.out.1 h).2.2.2.2.1; rw [this] at hm1; exact absurd hm1 (by decide))))
                    have HXF := Lib.hid (HS.out.2.2.1.trans HX5.out)
                    go_wp2_with fail
                    go_returns
                    exact ⟨_, _, _, rfl, Lib.hid (.inr ⟨by first | exact HTOT.out.trans HB.out | exact fun _ => HTOT.out.trans HB.out, rfl⟩), HXF.out⟩
                · have HNR := Lib.hid (show crO (l3 b s).1 = none by rw [HQQ.out.2.2.1]; exact crO_no k1')
                  clear k1'
                  have HB := Lib.hid (HS.out.2.2.2.bad HNF.out (part_noR HNR.out))
                  have HXF := Lib.hid (HS.out.2.2.1.trans HX5.out)
                  go_wp2_with fail
                  go_returns
                  exact ⟨_, _, _, rfl, Lib.hid (.inr ⟨by first | exact HTOT.out.trans HB.out | exact fun _ => HTOT.out.trans HB.out, rfl⟩), HXF.out⟩
end Go.Proofs.YteamnofooicbeaaDoor
