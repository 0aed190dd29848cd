/- Chapter 53: the law Bills. -/
import Derived.Test.YtepcnpnpjfdfmaaBlC
namespace Go.Proofs.Ytepcnpnpjfdfmaa
open Go.RowKit Go.Maps
set_option maxRecDepth 100000 in
set_option maxHeartbeats 4000000 in
theorem bills_law {A : Option Addr} {cp : Nat} {es : List Ent} (p : Option Addr) (n cap : Nat) (unit hit least f u : Int) (up pr : Nat → Int) (w : World)
    (h : EnsArg w (.slice A es.length cp) es) (hty : ∀ x ∈ es, x.typed) (ht : Tar w p n cap up pr) :
    Calls Try.prog 9 #[.agg #[.slice A es.length cp, .slice p n cap, .int .i64 unit, .int .i64 hit, .int .i64 least, .int .i64 f, .int .i64 u]] w fun e w' => e = .returned (.bool true) ∧ Ext w w' := by
  obtain ⟨m, hm⟩ : ∃ m, es.length = m := ⟨_, rfl⟩
  have HM := Lib.hid hm
  rw [hm] at h ⊢
  have HE := Lib.hid h
  have HTY := Lib.hid hty
  have HT := Lib.hid ht
  clear hm h hty ht
  go_enter Try.func9, Try.ntmps9
  obtain ⟨w0, hw0⟩ : ∃ w0, w0 = w.alloc (.cells #[.slice A m cp, .slice p n cap, .int .i64 unit, .int .i64 hit, .int .i64 least, .int .i64 f, .int .i64 u] 53) := ⟨_, rfl⟩
  have X0 : Ext w w0 := by rw [hw0]; exact (Ext.refl w).alloc _
  have HTR : Hid (RowB w0 w.heap.size 53 [.slice A m cp, .slice p n cap, .int .i64 unit, .int .i64 hit, .int .i64 least, .int .i64 f, .int .i64 u]) := Lib.hid (by rw [hw0]; exact row_laid _ _ _)
  go_upto_region 1 with fail
  rw [← hw0]
  clear hw0
  obtain ⟨tb, htb⟩ : ∃ tb, w.heap.size = tb := ⟨_, rfl⟩
  have HTB := Lib.hid htb
  rw [htb] at HTR ⊢
  clear htb
  have c0 := HTR.out.cell (j := 0) rfl
  have c1 := HTR.out.cell (j := 1) rfl
  have HX0 := Lib.hid X0
  clear X0
  by_cases hm6 : m ≤ 60
  · by_cases hn : n ≤ 100
    · go_upto_region 3 with (go_at_call 11; refine (awake_any _).mono ?_; rintro e w1 ⟨rfl, hx1⟩)
      have HX1 := Lib.hid (HX0.out.trans hx1)
      have HR1 := Lib.hid (HTR.out.ext hx1)
      clear hx1 c0 c1
      have c0 := HR1.out.cell (j := 0) rfl
      obtain ⟨q, hq⟩ : ∃ q, w1.heap.size + 1 = q := ⟨_, rfl⟩
      obtain ⟨b, hb⟩ : ∃ b, w1.heap.size = b := ⟨_, rfl⟩
      obtain ⟨L, hL⟩ : ∃ L, es.foldl putL [] = L := ⟨_, rfl⟩
      have HS : Hid (Calls Try.prog 21 #[.slice A m cp] w1 fun e w' => e = .returned (.pointer (some ⟨q, 0, none⟩)) ∧ Ext w1 w' ∧ SetAt w' q b L) := Lib.hid (by
        have h1 := set_any w1 (v := .slice A m cp) (HE.out.ext HX1.out) HTY.out (by have := HM.out; omega)
        rwa [hq, hb, hL] at h1)
      have HLL : Hid (L.length ≤ 60) := Lib.hid (by rw [← hL]; have := foldp_len es []; have := HM.out; simp at *; omega)
      clear hq hb hL
      go_upto_region 4 with (go_at_call 21; refine HS.out.mono ?_; rintro e w2 ⟨rfl, hx2, hS2⟩)
      clear c0
      have HX2 := Lib.hid (HX1.out.trans hx2)
      have HR2 := Lib.hid (HR1.out.ext hx2)
      obtain ⟨r, hrr⟩ : ∃ r, srtL L = r := ⟨_, rfl⟩
      have HLS : Hid (∀ Z, Ext w2 Z → ListsTo Z (.pointer (some ⟨q, 0, none⟩)) r) := Lib.hid (fun Z hZ => by rw [← hrr]; exact (hS2.ext hZ).lists (by have := HLL.out; omega))
      have HRG : Hid (r.length ≤ 1000 ∧ ∀ x ∈ r, x.good) := Lib.hid (by rw [← hrr]; exact ⟨by rw [hS2.slen]; have := HLL.out; omega, hS2.good⟩)
      clear hrr hS2 hx2
      obtain ⟨hh, hhh⟩ : ∃ hh : Nat → Int, (fun t : Nat => tot Ent.ht (pB t f u) r) = hh := ⟨_, rfl⟩
      obtain ⟨bb, hbb⟩ : ∃ bb : Nat → Int, (fun t : Nat => tot Ent.by_ (pB t f u) r) = bb := ⟨_, rfl⟩
      have HBW : Hid (∀ (t : Nat) Z, Ext w2 Z → Calls Try.prog 23 #[.pointer (some ⟨q, 0, none⟩), .int .i64 t, .int .i64 f, .int .i64 u] Z fun e w' => e = .returned (.tuple #[.int .i64 (hh t), .int .i64 (bb t)]) ∧ Ext Z w') := Lib.hid (fun t Z hZ => by rw [← hhh, ← hbb]; exact between_any HRG.out.1 HRG.out.2 t f u Z (HLS.out Z hZ))
      obtain ⟨ch, hc⟩ : ∃ ch, chg n unit hit least up pr = ch := ⟨_, rfl⟩
      obtain ⟨bc, hbc⟩ : ∃ bc, bcode n unit hit least up pr f u hh bb = bc := ⟨_, rfl⟩
      have HBI := Lib.hid (bcode_is n unit hit least up pr f u hh bb)
      have HBL : Hid (Calls Try.prog 22 #[.pointer (some ⟨q, 0, none⟩), .agg #[.slice p n cap, .int .i64 unit, .int .i64 hit, .int .i64 least], .int .i64 f, .int .i64 u] w2 fun e w' => ∃ v s ev, e = .returned (.tuple #[v, .int .i64 s, ev]) ∧
          ((bc = 0 ∧ s = smF hh bb ch 16 ∧ ev = .nilIface ∧ LnAt w' v (lns hh bb ch 16)) ∨ (bc ≠ 0 ∧ s = 0 ∧ v = .slice none 0 0 ∧ ev = errV bc)) ∧ Ext w2 w') := Lib.hid ((bill_any p n cap unit hit least f u up pr w2 (HT.out.ext HX2.out) q HRG.out.1 HRG.out.2 HLS.out).mono (by
        rintro e w' ⟨hP, hx⟩
        rw [hhh, hbb] at hP
        unfold BillPost at hP
        rw [hbc, hc] at hP
        rcases hP with ⟨h1, v, rfl, h2⟩ | ⟨h1, rfl⟩
        · exact ⟨_, _, _, rfl, .inl ⟨h1, rfl, rfl, h2⟩, hx⟩
        · exact ⟨_, _, _, rfl, .inr ⟨h1, rfl, rfl, rfl⟩, hx⟩))
      have HCH := Lib.hid (fun W (hW : Ext w2 W) h b => rcharge_f W p n cap unit hit least up pr (HT.out.ext (HX2.out.trans hW)) h b)
      have hcb := chg_bd n unit hit least up pr
      rw [hbc, hc] at HBI
      rw [hc] at HCH hcb
      have HCB := Lib.hid hcb
      have HSB := Lib.hid (sm_bd hh bb ch hcb)
      clear hhh hbb hc hbc hcb
      have c1 := HR2.out.cell (j := 1) rfl
      have c2 := HR2.out.cell (j := 2) rfl
      have c3 := HR2.out.cell (j := 3) rfl
      have c4 := HR2.out.cell (j := 4) rfl
      have c5 := HR2.out.cell (j := 5) rfl
      have c6 := HR2.out.cell (j := 6) rfl
      go_upto_region 5 with (go_at_call 22; refine HBL.out.mono ?_; rintro e w3 ⟨v, s, ev, rfl, hres, hx3⟩)
      clear c1 c2 c3 c4 c5 c6
      have HX3 := Lib.hid hx3
      have HRES := Lib.hid hres
      have c1 := (HR2.out.ext hx3).cell (j := 1) rfl
      have c2 := (HR2.out.ext hx3).cell (j := 2) rfl
      have c3 := (HR2.out.ext hx3).cell (j := 3) rfl
      have c4 := (HR2.out.ext hx3).cell (j := 4) rfl
      have c5 := (HR2.out.ext hx3).cell (j := 5) rfl
      have c6 := (HR2.out.ext hx3).cell (j := 6) rfl
      clear hx3 hres
      go_upto_region 6 with (go_at_call 22; refine (bill_none p n cap unit hit least f u _).mono ?_; rintro e w4 ⟨rfl, hx4⟩)
      clear c1 c2 c3 c4 c5 c6
      have HX4 := Lib.hid (HX3.out.trans hx4)
      have HX34 := Lib.hid hx4
      have HR4 := Lib.hid (HR2.out.ext HX4.out)
      have c1 := HR4.out.cell (j := 1) rfl
      have c2 := HR4.out.cell (j := 2) rfl
      have c3 := HR4.out.cell (j := 3) rfl
      have c4 := HR4.out.cell (j := 4) rfl
      clear hx4
      have HVA : Hid (Calls Try.prog 13 #[.agg #[.slice p n cap, .int .i64 unit, .int .i64 hit, .int .i64 least]] w4 fun e w' => ∃ x, e = .returned (.bool x) ∧ (okTar n unit hit least up pr ∧ x = true ∨ ¬ okTar n unit hit least up pr ∧ x = false) ∧ Ext w4 w') := Lib.hid ((valid_any w4 p n cap unit hit least up pr (HT.out.ext (HX2.out.trans HX4.out))).mono (by
        rintro e w' ⟨⟨h1, rfl⟩ | ⟨h1, rfl⟩, hx⟩
        · exact ⟨_, rfl, .inl ⟨h1, rfl⟩, hx⟩
        · exact ⟨_, rfl, .inr ⟨h1, rfl⟩, hx⟩))
      go_upto_region 9 with (go_at_call 14; refine (is_err 3 _ (by decide)).mono ?_; rintro e w5 ⟨rfl, rfl⟩)
      go_upto_if 65 with (go_at_call 13; refine HVA.out.mono ?_; rintro e w5 ⟨x, rfl, hx, hx5⟩)
      have HX5 := Lib.hid (HX4.out.trans hx5)
      have HX35 := Lib.hid (HX34.out.trans hx5)
      clear hx5
      go_cut [10] (fun cv wx => ∃ c0, cv = .int .i64 c0 ∧ w5 = wx ∧ Hid ((c0 = 0 ∧ okTar n unit hit least up pr ∧ f ≤ u) ∨ (c0 ≠ 0 ∧ bc = c0)))
      case first =>
        rcases hx with ⟨hok, rfl⟩ | ⟨hok, rfl⟩
        · have HOK := Lib.hid hok
          clear hok c1 c2 c3 c4
          have c5 := (HR2.out.ext HX5.out).cell (j := 5) rfl
          have c6 := (HR2.out.ext HX5.out).cell (j := 6) rfl
          by_cases hfu : f ≤ u
          · go_wp2_with fail
            go_meet
            exact ⟨0, rfl, rfl, Lib.hid (.inl ⟨rfl, HOK.out, hfu⟩)⟩
          · go_wp2_with fail
            go_meet
            exact ⟨7, rfl, rfl, Lib.hid (.inr ⟨by decide, HBI.out.2.1 HOK.out hfu⟩)⟩
        · have HOK := Lib.hid hok
          clear hok c1 c2 c3 c4
          go_wp2_with fail
          go_meet
          exact ⟨2, rfl, rfl, Lib.hid (.inr ⟨by decide, HBI.out.2.2 HOK.out⟩)⟩
      obtain ⟨c0, rfl, rfl, HC0⟩ := hcut
      clear c1 c2 c3 c4 hx
      have HR5 := Lib.hid (HR2.out.ext HX5.out)
      obtain ⟨B, hB⟩ : ∃ B, w5.heap.size = B := ⟨_, rfl⟩
      have HBB := Lib.hid hB
      clear hB
      go_wp2_with fail
      go_loopw [10, 11, 12, 13] (fun cv ov sv i wr => ∃ (k : Nat) (cd : Int), k ≤ 16 ∧ i = .int .i64 k ∧ sv = .int .i64 (smF hh bb ch k) ∧ cv = .int .i64 cd ∧ Hid (LnOwn wr B ov (lns hh bb ch k) ∧ Ext w5 wr ∧ ((cd = cdF hh bb ch k ∧ okTar n unit hit least up pr ∧ f ≤ u) ∨ (k = 0 ∧ cd ≠ 0 ∧ bc = cd)))) (fun _ _ _ i _ => 16 - (intOf i).toNat)
      case atStart =>
        refine ⟨0, c0, by omega, rfl, rfl, rfl, Lib.hid ⟨LnOwn.nil _ _, Ext.refl _, ?_⟩⟩
        rcases HC0.out with ⟨h1, h2, h3⟩ | ⟨h1, h2⟩
        · exact .inl ⟨h1, h2, h3⟩
        · exact .inr ⟨rfl, h1, h2⟩
      case round =>
        obtain ⟨k, cd, hk, rfl, rfl, rfl, HR⟩ := hrel
        have hcase : (k < 16 ∧ cd = 0) ∨ ((k < 16 ∧ cd ≠ 0) ∨ ¬ k < 16) := by omega
        rcases hcase with ⟨hlt, rfl⟩ | hend
        · obtain ⟨hcd, hok, hfu⟩ : 0 = cdF hh bb ch k ∧ okTar n unit hit least up pr ∧ f ≤ u := by
            rcases HR.out.2.2 with h1 | ⟨-, h2, -⟩
            · exact h1
            · exact absurd rfl h2
          have HCD := Lib.hid (And.intro hcd.symm (And.intro hok hfu))
          clear hcd hok hfu
          have hki : (k : Int) < 16 := by omega
          obtain ⟨h, hh0⟩ : ∃ h, hh k = h := ⟨_, rfl⟩
          obtain ⟨b, hb0⟩ : ∃ b, bb k = b := ⟨_, rfl⟩
          have HHB := Lib.hid (And.intro hh0 hb0)
          have HBT : Hid (Calls Try.prog 23 #[.pointer (some ⟨q, 0, none⟩), .int .i64 k, .int .i64 f, .int .i64 u] wr fun e w' => e = .returned (.tuple #[.int .i64 h, .int .i64 b]) ∧ Ext wr w') := Lib.hid (by rw [← hh0, ← hb0]; exact HBW.out k wr (HX5.out.trans HR.out.2.1))
          clear hh0 hb0
          have c5 := (HR5.out.ext HR.out.2.1).cell (j := 5) rfl
          have c6 := (HR5.out.ext HR.out.2.1).cell (j := 6) rfl
          go_upto_region 19 with (go_at_call 23; refine HBT.out.mono ?_; rintro e w6 ⟨rfl, hx6⟩)
          clear c5 c6
          have hu : (h = 0 ∧ b = 0) ∨ ((h = 0 ∧ b ≠ 0) ∨ h ≠ 0) := by omega
          rcases hu with ⟨rfl, rfl⟩ | hu
          · have HUS : Hid (usd hh bb k = false) := Lib.hid (by unfold usd; rw [HHB.out.1, HHB.out.2]; rfl)
            go_wp2_with fail
            go_roundw
            case rel =>
              refine ⟨k + 1, 0, by omega, by go_num, ?_, rfl, Lib.hid ⟨?_, HR.out.2.1.trans hx6, .inl ⟨?_, HCD.out.2⟩⟩⟩
              · rw [sm_succ, HUS.out]; simp
              · rw [lns_succ, HUS.out]; simpa using HR.out.1.kept (hx6.grown none) (fun k e => by cases e)
              · rw [cd_succ, HUS.out, if_neg (by rw [HCD.out.1]; decide)]; rfl
            case measure => simp [intOf]; omega
          · have HUS : Hid (usd hh bb k = true) := Lib.hid (by unfold usd; rw [HHB.out.1, HHB.out.2]; rcases hu with ⟨h1, h2⟩ | h1 <;> simp [*])
            obtain ⟨c, hc0⟩ : ∃ c, (ch h b).1 = c := ⟨_, rfl⟩
            obtain ⟨code, hd0⟩ : ∃ c, (ch h b).2 = c := ⟨_, rfl⟩
            have HCC := Lib.hid (And.intro hc0 hd0)
            have HCW : Hid (∀ Z, Ext wr Z → Calls Try.prog 16 #[.agg #[.slice p n cap, .int .i64 unit, .int .i64 hit, .int .i64 least], .int .i64 h, .int .i64 b] Z fun e w' => e = .returned (.tuple #[.int .i64 c, .int .i64 code]) ∧ Ext Z w') := Lib.hid (fun Z hZ => by rw [← hc0, ← hd0]; exact HCH.out Z (HX5.out.trans (HR.out.2.1.trans hZ)) h b)
            clear hc0 hd0
            have HX6 := Lib.hid hx6
            have d1 := (HR5.out.ext (HR.out.2.1.trans hx6)).cell (j := 1) rfl
            have d2 := (HR5.out.ext (HR.out.2.1.trans hx6)).cell (j := 2) rfl
            have d3 := (HR5.out.ext (HR.out.2.1.trans hx6)).cell (j := 3) rfl
            have d4 := (HR5.out.ext (HR.out.2.1.trans hx6)).cell (j := 4) rfl
            go_cut [94] (fun v wx => v = .bool false ∧ wx = w6)
            case first =>
              rcases hu with ⟨h1, h2⟩ | h1
              · have h2' : (b == 0) = false := by simpa using h2
                go_wp2_with fail
                go_meet
                exact ⟨rfl, rfl⟩
              · have h1' : (h == 0) = false := by simpa using h1
                go_wp2_with fail
                go_meet
                exact ⟨rfl, rfl⟩
            obtain ⟨rfl, rfl⟩ := hcut
            clear hu
            go_upto_region 22 with (go_at_call 16; refine (HCW.out _ HX6.out).mono ?_; rintro e w7 ⟨rfl, hx7⟩)
            have hsb := HSB.out k
            have hcb := HCB.out h b
            rw [HCC.out.1] at hcb
            have hwr : wrap64 (smF hh bb ch k + c) = smF hh bb ch k + c := wrap_small (by omega) (by omega)
            have HO4 := HR.out.1.kept ((HX6.out.trans hx7).grown none) (fun k e => by cases e)
            have hl := lns_len hh bb ch k
            have HX7 := Lib.hid (HR.out.2.1.trans (HX6.out.trans hx7))
            have hsz : B ≤ w7.heap.size := by have := HBB.out; have := HX7.out.size; omega
            have HO := Lib.hid HO4
            have HL16 : Hid ((lns hh bb ch k).length ≤ 100000) := Lib.hid (by omega)
            clear hsb hcb d1 d2 d3 d4 HO4 hl
            go_wp2_with (at_builtin; refine wpList_append_line _ rfl _ _ rfl B ⟨k, h, b, c⟩ HO.out rfl rfl rfl HL16.out hsz ?_; intro v' w9 hO9 hB9 hK9)
            go_roundw
            case rel =>
              refine ⟨k + 1, code, by omega, by go_num, ?_, rfl, Lib.hid ⟨?_, ?_, .inl ⟨?_, HCD.out.2⟩⟩⟩
              · rw [sm_succ, HUS.out, HHB.out.1, HHB.out.2, HCC.out.1]; simp; exact hwr
              · rw [lns_succ, HUS.out, HHB.out.1, HHB.out.2, HCC.out.1]; exact hO9
              · exact Below.trans HX7.out.below (Below.mono hB9 (by have := HBB.out; omega))
              · rw [cd_succ, HUS.out, if_neg (by rw [HCD.out.1]; decide), HHB.out.1, HHB.out.2]; exact HCC.out.2.symm
            case measure => simp [intOf]; omega
        · have hbc : bc = cd ∧ (cd = 0 → k = 16) := by
            rcases HR.out.2.2 with ⟨h1, h2, h3⟩ | ⟨h1, h2, h3⟩
            · refine ⟨?_, fun h => by omega⟩
              rw [HBI.out.1 h2 h3, h1]
              rcases hend with ⟨h4, h5⟩ | h4
              · have := cd_stays hh bb ch (k := k) (by rw [← h1]; exact h5) (16 - k)
                rwa [show k + (16 - k) = 16 by omega] at this
              · rw [show k = 16 by omega]
            · exact ⟨h3, fun h => absurd h h2⟩
          have HBC := Lib.hid hbc.1
          have HXE := Lib.hid ((HX2.out.trans HX5.out).trans HR.out.2.1)
          by_cases hcd : cd = 0
          · obtain rfl := hcd
            obtain rfl := hbc.2 rfl
            clear hbc hend
            have HLW := Lib.hid HR.out.1.at
            obtain ⟨hs, hev, hln⟩ : s = smF hh bb ch 16 ∧ ev = .nilIface ∧ LnAt w3 v (lns hh bb ch 16) := by
              rcases HRES.out with ⟨-, h2, h3, h4⟩ | ⟨h1, -⟩
              · exact ⟨h2, h3, h4⟩
              · exact absurd HBC.out h1
            have HSA : Hid (Calls Try.prog 24 #[v, u11] wr fun e w' => e = .returned (.bool true) ∧ Ext wr w') := Lib.hid (by
              have h1 := lines_same (hln.ext (HX35.out.trans HR.out.2.1)) HLW.out (by have := lns_len hh bb ch 16; omega)
              rwa [decide_eq_true rfl] at h1)
            subst hs hev
            clear hln
            have hcc : (smF hh bb ch 16 == smF hh bb ch 16) = true := by simp
            go_wp2_with (go_at_call 24; refine HSA.out.mono ?_; rintro e w7 ⟨rfl, hx7⟩)
            go_ret
            exact ⟨rfl, HXE.out.trans hx7⟩
          · have HNZ := Lib.hid hcd
            clear hbc
            rcases hend with ⟨hlt, -⟩ | hge
            · have hki : (k : Int) < 16 := by omega
              obtain ⟨rfl, rfl, rfl⟩ : s = 0 ∧ v = .slice none 0 0 ∧ ev = errV cd := by
                rcases HRES.out with ⟨h1, -⟩ | ⟨-, h2, h3, h4⟩
                · exact absurd (HBC.out.symm.trans h1) HNZ.out
                · exact ⟨h2, h3, by rw [h4, HBC.out]⟩
              have hcc : (cd == cd) = true := by simp
              go_wp2_with (go_at_call 17; refine (num_err cd _).mono ?_; rintro e w7 ⟨rfl, rfl⟩)
              go_ret
              exact ⟨rfl, HXE.out⟩
            · obtain rfl : k = 16 := by omega
              obtain ⟨rfl, rfl, rfl⟩ : s = 0 ∧ v = .slice none 0 0 ∧ ev = errV cd := by
                rcases HRES.out with ⟨h1, -⟩ | ⟨-, h2, h3, h4⟩
                · exact absurd (HBC.out.symm.trans h1) HNZ.out
                · exact ⟨h2, h3, by rw [h4, HBC.out]⟩
              have hcc : (cd == cd) = true := by simp
              go_wp2_with (go_at_call 17; refine (num_err cd _).mono ?_; rintro e w7 ⟨rfl, rfl⟩)
              go_ret
              exact ⟨rfl, HXE.out⟩
    · go_wp2_with (go_at_call 11; refine (awake_any _).mono ?_; rintro e w1 ⟨rfl, hx1⟩)
      go_ret
      exact ⟨rfl, HX0.out.trans hx1⟩
  · go_wp2_with (go_at_call 11; refine (awake_any _).mono ?_; rintro e w1 ⟨rfl, hx1⟩)
    go_ret
    exact ⟨rfl, HX0.out.trans hx1⟩
end Go.Proofs.Ytepcnpnpjfdfmaa
