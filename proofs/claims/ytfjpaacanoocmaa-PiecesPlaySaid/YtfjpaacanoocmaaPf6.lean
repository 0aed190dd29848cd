/- Chapter 20: PiecesPlay. -/
import Derived.Test.YtfjpaacanoocmaaPf5
import Derived.Test.YtfjpaacanoocmaaPf7
import Derived.Test.YtfjpaacanoocmaaPf8
import Derived.Test.YtfjpaacanoocmaaAnyC
import Derived.Deep.DeepCutAuto
import Derived.Deep.CutBlock
namespace Go.Proofs.Ytfjpaacanoocmaa
open Go.RowKit Go.Deep Go.Sort
abbrev tagT : ByteArray := { data := #[116] }
set_option maxRecDepth 100000 in
set_option maxHeartbeats 8000000 in
theorem play_law (n : Nat) (hn : n < 65536) (p : Option Addr) (L cap : Nat) (K O : Nat → Nat) (I N M : Nat → Int) (w : World) (ha : Acts w p L cap K O I N M) :
    Calls Try.prog 6 #[.int .u16 n, .slice p L cap] w fun e w' => e = .returned (.bool true) ∧ Ext w w' := by
  have hle := ha.le
  have hlim := ha.lim
  have HA := Lib.hid ha
  clear ha
  by_cases hL : 40 < L
  · have q1 : (40 : Int) < (L : Int) := by omega
    clear hL
    go_enter Try.func6, Try.ntmps6
    go_upto_region 2 with (go_at_call 9; refine (awake_any _).mono ?_; rintro e w1 ⟨rfl, hx1⟩)
    go_wp2_with (go_at_call 9; refine (awake_any _).mono ?_; rintro e w2 ⟨rfl, hx2⟩)
    go_ret
    exact ⟨rfl, hx1.trans hx2⟩
  · have q1 : ¬ (40 : Int) < (L : Int) := by omega
    obtain ⟨m, hm⟩ : ∃ m, m = n % 1300 := ⟨_, rfl⟩
    have hm2 : m < 1300 := by omega
    have H0 := Lib.hid (fun W => text_any n 0 hn W)
    have H1 := Lib.hid (fun W => text_any n 1 hn W)
    obtain ⟨x, hx⟩ : ∃ x, x = txS m 0 := ⟨_, rfl⟩
    obtain ⟨y, hy⟩ : ∃ y, y = txS m 1 := ⟨_, rfl⟩
    rw [← hm, ← hx] at H0
    rw [← hm, ← hy] at H1
    have HXS := Lib.hid (show x.size = m by rw [hx, txS_size])
    have HYS := Lib.hid (show y.size = m by rw [hy, txS_size])
    clear hm hx hy hL
    go_enter Try.func6, Try.ntmps6
    go_upto_region 3 with (go_at_call 9; refine (awake_any _).mono ?_; rintro e w1 ⟨rfl, hx1⟩)
    go_upto_region 4 with (first
      | (go_at_call_of 10 (Value.int .u8 1); refine (H1.out _).mono ?_; rintro e w3 ⟨rfl, hx3⟩)
      | (go_at_call_of 10 (Value.int .u8 0); refine (H0.out _).mono ?_; rintro e w2 ⟨rfl, hx2⟩))
    have X3 : Ext w w3 := (hx1.trans hx2).trans hx3
    have HXZ := HXS.out
    have HN := Lib.hid (fun W => new_ok tagT m (by omega) W (fun _ => False) (fun _ h => h.elim))
    have HRN := Lib.hid (fun W => rnew_any tagT m (by omega) W)
    go_upto_region 7 with (go_at_call 25; refine (HN.out _).mono ?_; rintro e w4 ⟨b, l, rfl, hx4, hB4⟩)
    go_upto_region 8 with (go_at_call 26; refine (HRN.out _).mono ?_; rintro e w5 ⟨d0, t0, rfl, hx5, hN5, hR5⟩)
    have hmb := Lib.hid (show w4.heap.size ≤ d0 ∧ w4.heap.size ≤ t0 ∧ d0 < w5.heap.size ∧ t0 < w5.heap.size from ⟨hN5.1, hN5.2.1, hR5.data.lt, hR5.there.lt⟩)
    obtain ⟨mb, hmbe⟩ : ∃ mb, mb = w5.heap.size := ⟨_, rfl⟩
    obtain ⟨w6, hw6⟩ : ∃ w6, w6 = w5.alloc (.cells #[.string tagT, .int .i64 m, .slice (some ⟨d0, 0, none⟩) (npc m) (npc m), .slice (some ⟨t0, 0, none⟩) (npc m) (npc m)] 29) := ⟨_, rfl⟩
    have X56 : Ext w5 w6 := by rw [hw6]; exact (Ext.refl _).alloc _
    have X6 : Ext w w6 := (X3.trans (hx4.trans hx5)).trans X56
    have hst : PSt w6 w3.heap.size b l mb m d0 t0 tagT (fun _ => none) (fun _ => False) := by
      refine ⟨?_, hR5.ext X56, by rw [hw6, hmbe]; exact RowB.laid _ _ _, fun i _ s hs => (by cases hs), (by have := hmb.out; omega)⟩
      refine BodyAt.ext ?_ (hx5.trans X56)
      refine hB4.avoid _ fun k hk => .inl ?_
      have h5 := hx5.size
      have hh := hmb.out
      rcases hk with e | e | e | e
      · omega
      · omega
      · omega
      · exact e.elim
    have HB := Lib.hid (show w.heap.size ≤ w3.heap.size ∧ w.heap.size ≤ mb from ⟨X3.size, by rw [hmbe]; exact (X3.trans (hx4.trans hx5)).size⟩)
    have HS := Lib.hid hst
    rw [← hmbe, ← hw6]
    clear hst hmb hw6 hmbe hB4 hR5 hN5 X56 hx1 hx2 hx3 hx4 hx5 HN HRN H0 H1
    go_wp2_with fail
    go_loopw [48] (fun i wr => ∃ k : Nat, k ≤ L ∧ i = .int .i64 k ∧ Ext w wr ∧ ∃ D d t, PSt wr w3.heap.size b l mb m d t tagT D (fun _ => False)) (fun i _ => L - (intOf i).toNat)
    case atStart => exact ⟨0, by omega, rfl, X6, _, _, _, HS.out⟩
    case round =>
      obtain ⟨k, hk, rfl, hX, D, d, t, hst⟩ := hrel
      by_cases hlt : k < L
      · have hki : (k : Int) < (L : Int) := by omega
        have hk6 : k < 40 := by omega
        have hkc : k < cap := by omega
        obtain ⟨a, rfl, g0, g1, g2, g3, g4⟩ := (HA.out.ext hX).cell k hlt
        obtain ⟨hK, hO, hI, hN, hM⟩ := HA.out.ok k hlt
        obtain ⟨kk, hkk⟩ : ∃ kk, kk = K k := ⟨_, rfl⟩
        obtain ⟨oo, hoo⟩ : ∃ oo, oo = O k := ⟨_, rfl⟩
        obtain ⟨ii, hii⟩ : ∃ ii, ii = I k := ⟨_, rfl⟩
        obtain ⟨nn, hnn⟩ : ∃ nn, nn = N k := ⟨_, rfl⟩
        obtain ⟨mm, hmm⟩ : ∃ mm, mm = M k := ⟨_, rfl⟩
        rw [← hkk] at g0 hK
        rw [← hoo] at g1 hO
        rw [← hii] at g2 hI
        rw [← hnn] at g3 hN
        rw [← hmm] at g4 hM
        clear hkk hoo hii hnn hmm
        have HST := Lib.hid hst
        clear hst
        go_upto_region 11 with fail
        obtain ⟨w7, hw7⟩ : ∃ w7, w7 = wr.alloc (.cells #[.int .u8 kk, .int .u8 oo, .int .i64 ii, .int .i64 nn, .int .i64 mm] 62) := ⟨_, rfl⟩
        obtain ⟨ab, hab⟩ : ∃ ab, ab = wr.heap.size := ⟨_, rfl⟩
        have X7 : Ext wr w7 := by rw [hw7]; exact (Ext.refl _).alloc _
        have hAB : RowB w7 ab 62 [.int .u8 kk, .int .u8 oo, .int .i64 ii, .int .i64 nn, .int .i64 mm] := by rw [hw7, hab]; exact RowB.laid _ _ _
        rw [← hw7, ← hab]
        have HABZ := Lib.hid hab
        clear hw7 hab g0 g1 g2 g3 g4
        have a0 := hAB.cell (j := 0) rfl
        have HAR := Lib.hid hAB
        have HX7 := Lib.hid (hX.trans X7)
        have HLAB := Lib.hid (show ab ≠ l from fun e => by
          obtain ⟨f, hf, _⟩ := HST.out.body.row
          have h1 := hf.lt
          have h2 := HABZ.out
          omega)
        have HS7 := Lib.hid (HST.out.ext X7)
        go_upto_block 2 with fail
        obtain ⟨z4, hz4⟩ : ∃ z4 : Int, (kk : Int) % 4 = z4 := ⟨_, rfl⟩
        rw [hz4]
        clear hz4
        go_cut [12, 13] (fun c z wx => ∃ q : Int, c = .int .i64 q ∧ z = .int .i64 q ∧ Ext w wx ∧ ∃ D d t, PSt wx w3.heap.size b l mb m d t tagT D (fun _ => False))
        case first =>
          clear a0
          by_cases h2 : z4 = 2
          · have qa : (z4 == 2) = true := by simp [h2]
            clear h2
            have a2 := HAR.out.cell (j := 2) rfl
            have b0 := HS7.out.row.cell (j := 0) rfl
            have b1 := HS7.out.row.cell (j := 1) rfl
            have b2 := HS7.out.row.cell (j := 2) rfl
            have b3 := HS7.out.row.cell (j := 3) rfl
            by_cases hin : 0 ≤ ii ∧ ii < (npc m : Int)
            · obtain ⟨j, rfl⟩ : ∃ j : Nat, ii = (j : Int) := ⟨ii.toNat, by omega⟩
              have hj : j < npc m := by omega
              have hM : m ≤ 65536 := by omega
              obtain ⟨c, hc⟩ : ∃ c, c = (D j).isSome := ⟨_, rfl⟩
              have HRH := Lib.hid (fun W (hW : Ext w7 W) => rhas_in (tag := tagT) (HS7.out.ref.ext hW) hM j hj)
              have HDR := Lib.hid (fun W (hW : Ext w7 W) => drop_in (HS7.out.body.ext hW) hM j hj)
              rw [← hc] at HRH HDR
              clear hc hin
              go_upto_region 28 with (go_at_call 27; refine (HRH.out _ (Ext.refl _)).mono ?_; rintro e w8 ⟨rfl, hx8⟩)
              clear a2
              have a2 := (HAR.out.ext hx8).cell (j := 2) rfl
              go_upto_region 30 with (go_at_call 13; refine (HDR.out _ hx8).mono ?_; rintro e w9 ⟨rfl, hbl9, hk9, hB9⟩)
              obtain ⟨hR9, hrow9⟩ := (HS7.out.ext hx8).half hk9
              clear a2 b0 b1 b2 b3
              have b0 := hrow9.cell (j := 0) rfl
              have b1 := hrow9.cell (j := 1) rfl
              have b2 := hrow9.cell (j := 2) rfl
              have b3 := hrow9.cell (j := 3) rfl
              have a2 := ((HAR.out.ext hx8).kept (hk9.2 ab (HAR.out.ext hx8).lt HLAB.out)).cell (j := 2) rfl
              have HRD := Lib.hid (rdrop_any (tag := tagT) hR9 hM (j : Int))
              have HROW := Lib.hid hrow9
              have HB9 := Lib.hid hB9
              have X9 : Ext w w9 := Below.trans (HX7.out.trans hx8) (Below.mono hbl9 HB.out.1)
              clear hrow9 hB9 hR9
              go_wp2_with (go_at_call 28; refine HRD.out.mono ?_; rintro e w10 ⟨d', t', rfl, hx10, hd10, hR10⟩; have f0 := (HROW.out.ext hx10).frozen (j := 0) (by simp); have f1 := (HROW.out.ext hx10).frozen (j := 1) (by simp); have f2 := (HROW.out.ext hx10).frozen (j := 2) (by simp); have f3 := (HROW.out.ext hx10).frozen (j := 3) (by simp); have e0 := (HROW.out.ext hx10).cell (j := 0) rfl; have e1 := (HROW.out.ext hx10).cell (j := 1) rfl; have e2 := (HROW.out.ext hx10).cell (j := 2) rfl; have e3 := (HROW.out.ext hx10).cell (j := 3) rfl)
              go_meet
              refine ⟨0, rfl, rfl, mSt_ext (X9.trans hx10) HB.out.2, upd D j none, d', t', PSt.step HB9.out hx10 HROW.out hd10 (hR10.congr fun q _ => ?_) (HS7.out.ok.upd none fun s hs => by cases hs)⟩
              show (if (q : Int) = (j : Int) then none else D q) = if q = j then none else D q
              by_cases e : q = j
              · rw [if_pos e, if_pos (by rw [e])]
              · rw [if_neg e, if_neg (by omega)]
            · have hout : ii < 0 ∨ (npc m : Int) ≤ ii := by omega
              have hM : m ≤ 65536 := by omega
              have HRH := Lib.hid (fun W => rhas_out (w := W) (d := d) (t := t) (len := m) (tag := tagT) ii hout)
              have HDR := Lib.hid (fun W (hW : Ext w7 W) => drop_out (HS7.out.body.ext hW) ii hout)
              have HOUT := Lib.hid hout
              clear hin hout
              go_upto_region 28 with (go_at_call 27; refine (HRH.out _).mono ?_; rintro e w8 ⟨rfl, hx8⟩)
              clear a2
              have a2 := (HAR.out.ext hx8).cell (j := 2) rfl
              go_upto_region 30 with (go_at_call 13; refine (HDR.out _ hx8).mono ?_; rintro e w9 ⟨rfl, rfl⟩)
              have hst8 := HS7.out.ext hx8
              clear b0 b1 b2 b3
              have b0 := hst8.row.cell (j := 0) rfl
              have b1 := hst8.row.cell (j := 1) rfl
              have b2 := hst8.row.cell (j := 2) rfl
              have b3 := hst8.row.cell (j := 3) rfl
              have HRD := Lib.hid (rdrop_any (tag := tagT) hst8.ref hM ii)
              have HROW := Lib.hid hst8.row
              have HS8 := Lib.hid hst8
              have X9 : Ext w w8 := HX7.out.trans hx8
              clear hst8
              go_wp2_with (go_at_call 28; refine HRD.out.mono ?_; rintro e w10 ⟨d', t', rfl, hx10, hd10, hR10⟩; have f0 := (HROW.out.ext hx10).frozen (j := 0) (by simp); have f1 := (HROW.out.ext hx10).frozen (j := 1) (by simp); have f2 := (HROW.out.ext hx10).frozen (j := 2) (by simp); have f3 := (HROW.out.ext hx10).frozen (j := 3) (by simp); have e0 := (HROW.out.ext hx10).cell (j := 0) rfl; have e1 := (HROW.out.ext hx10).cell (j := 1) rfl; have e2 := (HROW.out.ext hx10).cell (j := 2) rfl; have e3 := (HROW.out.ext hx10).cell (j := 3) rfl)
              go_meet
              refine ⟨0, rfl, rfl, mSt_ext (X9.trans hx10) HB.out.2, D, d', t', PSt.step HS8.out.body hx10 HROW.out hd10 (hR10.congr fun q hq => ?_) HS7.out.ok⟩
              have := HOUT.out
              rw [if_neg (by omega)]
          · have qa : (z4 == 2) = false := by simp [h2]
            clear h2
            by_cases h3 : z4 = 3
            · have qb : (z4 == 3) = true := by simp [h3]
              clear h3
              have hM : m ≤ 65536 := by omega
              obtain ⟨yy, q, HRA, HRB⟩ := reads_both HS7.out hM nn mm
              have HRA' := Lib.hid HRA
              have HRB' := Lib.hid HRB
              clear HRA HRB
              have a3 := HAR.out.cell (j := 3) rfl
              have a4 := HAR.out.cell (j := 4) rfl
              go_upto_region 33 with fail
              obtain ⟨w8, hw8⟩ : ∃ w8, w8 = w7.alloc (.cells #[.int .i64 nn, .int .i64 mm] 43) := ⟨_, rfl⟩
              obtain ⟨rb, hrb⟩ : ∃ rb, rb = w7.heap.size := ⟨_, rfl⟩
              have X8 : Ext w7 w8 := by rw [hw8]; exact (Ext.refl _).alloc _
              have HRR := Lib.hid (show RowB w8 rb 43 [.int .i64 nn, .int .i64 mm] by rw [hw8, hrb]; exact RowB.laid _ _ _)
              rw [← hw8, ← hrb]
              clear hw8 hrb a3 a4
              have r0 := HRR.out.cell (j := 0) rfl
              have r1 := HRR.out.cell (j := 1) rfl
              go_upto_region 34 with (go_at_call 18; refine (HRA'.out _ X8).mono ?_; rintro e w9 ⟨v9, ev, rfl, hx9, hcv, hnum⟩)
              clear r0 r1
              have X9 := X8.trans hx9
              have b0 := (HS7.out.ext X9).row.cell (j := 0) rfl
              have b1 := (HS7.out.ext X9).row.cell (j := 1) rfl
              have b2 := (HS7.out.ext X9).row.cell (j := 2) rfl
              have b3 := (HS7.out.ext X9).row.cell (j := 3) rfl
              have a3 := (HAR.out.ext X9).cell (j := 3) rfl
              have a4 := (HAR.out.ext X9).cell (j := 4) rfl
              have HNUM := Lib.hid hnum
              have HCV := Lib.hid hcv
              clear hnum hcv
              go_upto_region 36 with (first
                | (go_at_call 29; refine (HRB'.out _ X9).mono ?_; rintro e w10 ⟨rfl, hx10⟩)
                | (go_at_call 20; refine (HNUM.out _).mono ?_; rintro e w11 ⟨rfl, rfl⟩))
              clear a3 a4 b0 b1 b2 b3
              have X10 := X9.trans hx10
              have HS10 := Lib.hid (HS7.out.ext X10)
              have HA10 := Lib.hid (HAR.out.ext X10)
              have HR10 := Lib.hid ((HRR.out.ext hx9).ext hx10)
              have hcv : ∀ n : Wd w10, (convert 38 9 v9).run Try.prog n.val = .ok (.string yy) n.val := fun n => HCV.out _ (hx10.trans n.ext)
              refine wp_region_wd_head 5 13 #[true, true, true, true, true, false, false, false, false, false, false, false, false, false, false, false, false, false] (by kernel_rfl) rfl (by kernel_rfl) (by kernel_rfl) (by kernel_rfl) (by kernel_rfl) ?_
              simp only [List.take_succ_cons, List.take_zero]
              repeat (go_big_quiet_step (fail))
              refine wpQuiet_nil ?_
              rintro _ ⟨n1, rfl⟩
              clear hcv
              refine wpAnyC.any (C := fun w' => Ext w10 w') ?_
              have HN1 := Lib.hid n1.ext
              refine wpAnyC_take (i := 5) (v := .pointer (some ⟨b, 0, none⟩)) rfl (by kernel_rfl) (by kernel_rfl) (by kernel_rfl) (fun _ _ _ h => h) HN1.out (by kernel_rfl) ?_ ?_
              · intro W hW; go_simp; try (with_reducible rfl)
              simp only [Act.put, List.setIfInBounds_toArray, List.set_cons_succ, List.set_cons_zero]
              refine wpAnyC_take (i := 6) (v := rngV nn mm) rfl (by kernel_rfl) (by kernel_rfl) (by kernel_rfl) (fun _ _ _ h => h) HN1.out (by kernel_rfl) ?_ ?_
              · intro W hW; have z0 := (HR10.out.ext hW).cell (j := 0) rfl; have z1 := (HR10.out.ext hW).cell (j := 1) rfl; go_simp; try (with_reducible rfl)
              simp only [Act.put, List.setIfInBounds_toArray, List.set_cons_succ, List.set_cons_zero]
              refine wpAnyC_take (i := 8) (v := refV tagT m d t) rfl (by kernel_rfl) (by kernel_rfl) (by kernel_rfl) (fun _ _ _ h => h) HN1.out (by kernel_rfl) ?_ ?_
              · intro W hW; have z0 := (HS10.out.ext hW).row.cell (j := 0) rfl; have z1 := (HS10.out.ext hW).row.cell (j := 1) rfl; have z2 := (HS10.out.ext hW).row.cell (j := 2) rfl; have z3 := (HS10.out.ext hW).row.cell (j := 3) rfl; go_simp; try (with_reducible rfl)
              simp only [Act.put, List.setIfInBounds_toArray, List.set_cons_succ, List.set_cons_zero]
              refine wpAnyC_take (i := 9) (v := .pointer (some ⟨ab, 3, none⟩)) rfl (by kernel_rfl) (by kernel_rfl) (by kernel_rfl) (fun _ _ _ h => h) HN1.out (by kernel_rfl) ?_ ?_
              · intro W hW; go_simp; try (with_reducible rfl)
              simp only [Act.put, List.setIfInBounds_toArray, List.set_cons_succ, List.set_cons_zero]
              refine wpAnyC_take (i := 10) (v := .int .i64 nn) rfl (by kernel_rfl) (by kernel_rfl) (by kernel_rfl) (fun _ _ _ h => h) HN1.out (by kernel_rfl) ?_ ?_
              · intro W hW; have z3 := (HA10.out.ext hW).cell (j := 3) rfl; go_simp; try (with_reducible rfl)
              simp only [Act.put, List.setIfInBounds_toArray, List.set_cons_succ, List.set_cons_zero]
              refine wpAnyC_take (i := 11) (v := .pointer (some ⟨ab, 4, none⟩)) rfl (by kernel_rfl) (by kernel_rfl) (by kernel_rfl) (fun _ _ _ h => h) HN1.out (by kernel_rfl) ?_ ?_
              · intro W hW; go_simp; try (with_reducible rfl)
              simp only [Act.put, List.setIfInBounds_toArray, List.set_cons_succ, List.set_cons_zero]
              refine wpAnyC_take (i := 12) (v := .int .i64 mm) rfl (by kernel_rfl) (by kernel_rfl) (by kernel_rfl) (fun _ _ _ h => h) HN1.out (by kernel_rfl) ?_ ?_
              · intro W hW; have z4 := (HA10.out.ext hW).cell (j := 4) rfl; go_simp; try (with_reducible rfl)
              simp only [Act.put, List.setIfInBounds_toArray, List.set_cons_succ, List.set_cons_zero]
              refine wpAnyC_take (i := 13) (v := rngV nn mm) rfl (by kernel_rfl) (by kernel_rfl) (by kernel_rfl) (fun _ _ _ h => h) HN1.out (by kernel_rfl) ?_ ?_
              · intro W hW; go_simp; try (with_reducible rfl)
              simp only [Act.put, List.setIfInBounds_toArray, List.set_cons_succ, List.set_cons_zero]
              have hf0 : (((max 0 nn).toNat : Nat) : Int) = max 0 nn := by omega
              refine wpAnyC_one 7 (by kernel_rfl) rfl (by kernel_rfl) (fun KK hKK => ?_)
              go_simp
              refine (missing_any (HS10.out.ext HN1.out).body nn mm (max 0 nn).toNat (min mm m).toNat hM hf0 hN.2 rfl).mono ?_
              rintro e w12 ⟨v12, rfl, hx12, ho12⟩
              have X12 : Ext w10 w12 := HN1.out.trans hx12
              refine hKK _ _ X12 ?_
              clear hKK KK
              simp only [List.setIfInBounds_toArray, List.set_cons_succ, List.set_cons_zero]
              refine wpAnyC_one 14 (by kernel_rfl) rfl (by kernel_rfl) (fun KK hKK => ?_)
              go_simp
              refine (rmissing_any (tag := tagT) (HS10.out.ext X12).ref nn mm (max 0 nn).toNat (min mm m).toNat hM hf0 rfl).mono ?_
              rintro e w13 ⟨v13, rfl, hx13, ho13⟩
              have X13 : Ext w10 w13 := X12.trans hx13
              refine hKK _ _ X13 ?_
              clear hKK KK
              simp only [List.setIfInBounds_toArray, List.set_cons_succ, List.set_cons_zero]
              refine wpAnyC_one 15 (by kernel_rfl) rfl (by kernel_rfl) (fun KK hKK => ?_)
              go_simp
              have hgl : (gaps D (pcs (max 0 nn).toNat (min mm m).toNat)).length ≤ 1000000 := Nat.le_trans (gaps_length _ _) (Nat.le_trans (pcs_length _ _ (by omega)) (by omega))
              refine (ints_any (ho12.reads.ext hx13) ho13.reads hgl hgl).mono ?_
              rintro e w14 ⟨rfl, hx14⟩
              have X14 : Ext w10 w14 := X13.trans hx14
              refine hKK _ _ X14 ?_
              clear hKK KK hgl
              simp only [List.setIfInBounds_toArray, List.set_cons_succ, List.set_cons_zero]
              refine wpAnyC_take (i := 16) (v := .bool false) rfl (by kernel_rfl) (by kernel_rfl) (by kernel_rfl) (fun _ _ _ h => h) X14 (by kernel_rfl) ?_ ?_
              · intro W hW; go_simp; try (with_reducible rfl)
              change wpAnyC _ _ _ _ _ _ _ (Act.put _ (some 162) (.bool false)) _
              simp only [Act.put, List.setIfInBounds_toArray, List.set_cons_succ, List.set_cons_zero]
              refine wpAnyC_take (i := 17) (v := .bool false) rfl (by kernel_rfl) (by kernel_rfl) (by kernel_rfl) (fun _ _ _ h => h) X14 (by kernel_rfl) ?_ ?_
              · intro W hW; go_simp; try (with_reducible rfl)
              change wpAnyC _ _ _ _ _ _ _ (Act.put _ (some 163) (.bool false)) _
              simp only [Act.put, List.setIfInBounds_toArray, List.set_cons_succ, List.set_cons_zero]
              refine ⟨by kernel_rfl, ?_⟩
              have XF := HX7.out.trans (X10.trans X14)
              go_wp2_with fail
              go_meet
              exact ⟨q, rfl, rfl, XF, D, d, t, HS10.out.ext X14⟩
            · have qb : (z4 == 3) = false := by simp [h3]
              clear h3
              have hM : m ≤ 65536 := by omega
              obtain ⟨px, hpx, HPX⟩ := piece_some x ii hI (by rw [HXS.out]; omega)
              obtain ⟨py, hpy, HPY⟩ := piece_some y ii hI (by rw [HYS.out]; omega)
              have HPX' := Lib.hid HPX
              have HPY' := Lib.hid HPY
              have HPZ := Lib.hid (And.intro hpx hpy)
              have HII := Lib.hid hI
              clear HPX HPY hpx hpy
              have a2 := HAR.out.cell (j := 2) rfl
              go_upto_if 62 with (go_at_call 14; refine (HPX'.out _).mono ?_; rintro e w8 ⟨rfl, hx8⟩; have a1 := (HAR.out.ext hx8).cell (j := 1) rfl)
              clear a2
              obtain ⟨z3, hz3⟩ : ∃ z3 : Int, (oo : Int) % 3 = z3 := ⟨_, rfl⟩
              rw [hz3]
              have HZ3 := Lib.hid hz3
              clear hz3
              go_cut [20] (fun sv wx => ∃ s : ByteArray, sv = .string s ∧ s.size ≤ 300 ∧ Ext w8 wx)
              case first =>
                by_cases h1 : z3 = 1
                · have qc : (z3 == 1) = true := by simp [h1]
                  clear h1
                  have a2 := (HAR.out.ext hx8).cell (j := 2) rfl
                  go_wp2_with (go_at_call 14; refine (HPY'.out _).mono ?_; rintro e w9 ⟨rfl, hx9⟩)
                  go_meet
                  exact ⟨py, rfl, HPZ.out.2, hx9⟩
                · have qc : (z3 == 1) = false := by simp [h1]
                  by_cases h2 : z3 = 2
                  · have qd : ((oo : Int) % 3 == 2) = true := by rw [HZ3.out]; simp [h2]
                    clear h1 h2
                    have a3 := (HAR.out.ext hx8).cell (j := 3) rfl
                    obtain ⟨c, hc⟩ : ∃ c : Nat, max 0 (min nn 300) = (c : Int) := ⟨(max 0 (min nn 300)).toNat, by omega⟩
                    have hc3 : c ≤ 300 := by omega
                    have HCL := Lib.hid (fun W => clip_any nn 0 300 W)
                    rw [hc] at HCL
                    clear hc
                    have hmk := run_make_row' (P := Try.prog) 38 5 (.int .u8 0) 1 Try.underlying38 (by kernel_rfl) rfl .i64 .i64 c (by omega) (by omega) w8
                    have hrw := World.rowIs_made w8 (.int .u8 0) c 5
                    have hcv := run_convert_bytes_arg (P := Try.prog) _ 38 5 Try.underlying38 Try.underlying5 w8.heap.size 0 c c (List.replicate c 0) (by simp) (fun i hi => by rw [Nat.zero_add, hrw.cell hi]; simp [List.getD, hi]) 9 Try.underlying9
                    have HSZ := Lib.hid (show (strOfNums (List.replicate c 0)).size ≤ 300 by rw [strOfNums_size]; simp; omega)
                    go_wp2_with (go_at_call 31; refine (HCL.out _).mono ?_; rintro e w9 ⟨rfl, rfl⟩)
                    go_meet
                    exact ⟨_, rfl, HSZ.out, (Ext.refl w8).alloc _⟩
                  · have qd : ((oo : Int) % 3 == 2) = false := by rw [HZ3.out]; simp [h2]
                    clear h1 h2
                    go_wp2_with fail
                    go_meet
                    exact ⟨px, rfl, HPZ.out.1, Ext.refl _⟩
              case rest =>
                obtain ⟨s, rfl, hsz, hxc⟩ := hcut
                have XC : Ext w7 wc := hx8.trans hxc
                have hgb : ab < wc.heap.size := Nat.lt_of_lt_of_le HAR.out.lt XC.size
                have HGB := Lib.hid hgb
                have HSC := Lib.hid (HS7.out.ext XC)
                have HWG := Lib.hid (show w.heap.size ≤ wc.heap.size from (HX7.out.trans XC).size)
                have HLG := Lib.hid (show wc.heap.size ≠ l from fun e => by
                  obtain ⟨f, hf, _⟩ := HSC.out.body.row
                  have := hf.lt
                  omega)
                clear a1 hgb
                go_upto_region 19 with (refine wpList_bytes_of_string _ rfl 9 38 5 _ rfl Try.underlying9 Try.underlying38 Try.underlying5 s rfl ?_; intro w9 cap9 hx9 hr9 hc9)
                obtain ⟨g, hg⟩ : ∃ g, g = wc.heap.size := ⟨_, rfl⟩
                rw [← hg] at hr9 HWG HLG HGB ⊢
                have X9 := XC.trans hx9
                have hsc := HSC.out.lt
                have hst9 : PSt w9 w3.heap.size b l mb m d t tagT D (fun q => q = g) := (HSC.out.more (by rw [hg]; exact Nat.le_refl _)).ext hx9
                have HDG := Lib.hid (show d ≠ g ∧ t ≠ g ∧ mb ≠ g by omega)
                obtain ⟨q, D', HQ1, HQ2⟩ := puts_both hst9 hM ii HII.out s (bytes_of_row hr9) hsz hr9.lt ⟨HDG.out.1, HDG.out.2.1⟩
                have HQ1' := Lib.hid HQ1
                have HQ2' := Lib.hid HQ2
                have HR9 := Lib.hid hr9
                have HS9 := Lib.hid hst9
                have HAR9 := Lib.hid (HAR.out.ext X9)
                have a2 := HAR9.out.cell (j := 2) rfl
                have HG := Lib.hid hg
                clear HQ1 HQ2 hr9 hst9 hsc hg
                go_upto_region 20 with (first
                  | (go_at_call 16; refine (HQ1'.out _).mono ?_; rintro e w10 ⟨ev, rfl, hbl, hk10, hB10, hnum⟩)
                  | (go_at_call 20; refine (hnum _).mono ?_; rintro e w11 ⟨rfl, rfl⟩))
                clear a2
                obtain ⟨hR10, hrow10⟩ := HS9.out.half hk10
                have HG10 := Lib.hid (HR9.out.kept (hk10.2 g HR9.out.lt HLG.out))
                have HA10 := Lib.hid (HAR9.out.kept (hk10.2 ab HAR9.out.lt HLAB.out))
                have HB10 := Lib.hid hB10
                have HR10 := Lib.hid hR10
                have HROW := Lib.hid hrow10
                have X10 : Ext w w10 := Below.trans (HX7.out.trans X9) (Below.mono hbl HB.out.1)
                clear hbl hk10 hB10 hnum hR10 hrow10
                have a2 := HA10.out.cell (j := 2) rfl
                have b0 := HROW.out.cell (j := 0) rfl
                have b1 := HROW.out.cell (j := 1) rfl
                have b2 := HROW.out.cell (j := 2) rfl
                have b3 := HROW.out.cell (j := 3) rfl
                go_upto_region 21 with (go_at_call 32; refine (HQ2'.out _ HB10.out HR10.out HROW.out HG10.out.lt).mono ?_; rintro e w11 ⟨d', t', rfl, hx11, hst11, hdg1, hdg2⟩; have f0 := (HROW.out.ext hx11).frozen (j := 0) (by simp); have f1 := (HROW.out.ext hx11).frozen (j := 1) (by simp); have f2 := (HROW.out.ext hx11).frozen (j := 2) (by simp); have f3 := (HROW.out.ext hx11).frozen (j := 3) (by simp); have e0 := (HROW.out.ext hx11).cell (j := 0) rfl; have e1 := (HROW.out.ext hx11).cell (j := 1) rfl; have e2 := (HROW.out.ext hx11).cell (j := 2) rfl; have e3 := (HROW.out.ext hx11).cell (j := 3) rfl)
                clear a2 b0 b1 b2 b3 f0 f1 f2 f3 e0 e1 e2 e3
                obtain ⟨w12, hw12⟩ : ∃ w12, w12 = mSt w11 mb tagT m d' t' := ⟨_, rfl⟩
                rw [← hw12] at hst11
                have X12 : Ext w w12 := by rw [hw12]; exact mSt_ext (X10.trans hx11) HB.out.2
                have hg12 : RowB w12 g 5 ((byteIs s).map (Value.int .u8)) := by
                  rw [hw12]
                  have := (HG10.out.ext hx11).kept ((mSt_kept w11 mb tagT m d' t').2 g (HG10.out.ext hx11).lt (fun e => HDG.out.2.2 e.symm))
                  unfold byteIs
                  rw [List.map_map]
                  exact this
                have HG12 := Lib.hid hg12
                have HS12 := Lib.hid hst11
                have HDT := Lib.hid (And.intro hdg1 hdg2)
                unfold mSt at hw12
                rw [← hw12]
                clear hw12 hg12 hst11 hdg1 hdg2
                generalize wr = wo at *
                go_wp2_with fail
                go_loopw [94] (fun i wr => ∃ z : Nat, z ≤ s.size ∧ i = .int .i64 z ∧ (∃ zs : List Int, zs.length = s.size ∧ RowB wr g 5 (zs.map (Value.int .u8))) ∧ Kept g w12 wr ∧ Ext w wr) (fun i _ => s.size - (intOf i).toNat)
                case atStart => exact ⟨0, by omega, rfl, ⟨byteIs s, byteIs_length s, HG12.out⟩, Kept.refl _ _, X12⟩
                case round =>
                  obtain ⟨z, hz, rfl, ⟨zs, hzl, hzr⟩, hKz, hXz⟩ := hrel
                  by_cases hzs : z < s.size
                  · have hzi : (z : Int) < (s.size : Int) := by omega
                    have hz6 : z < 301 := by omega
                    have c0 := hzr.cell (j := z) (v := .int .u8 (zs.getD z 0)) (by rw [List.getElem?_map, List.getElem?_eq_getElem (by omega)]; simp [List.getD, hzl, hzs])
                    have f0 := hzr.frozen (j := z) (by simp; omega)
                    have HZR := Lib.hid hzr
                    have HZL := Lib.hid hzl
                    obtain ⟨zv, hzv⟩ : ∃ zv, zv = zs.getD z 0 := ⟨_, rfl⟩
                    rw [← hzv] at c0
                    clear hzr hzl hzv
                    go_wp2_with fail
                    exact ⟨⟨z + 1, hzs, by simp, ⟨zs.set z (bits .xor .u8 zv 255), by rw [List.length_set]; exact HZL.out, by rw [List.map_set]; exact HZR.out.set z _ (by rw [List.length_map, HZL.out]; exact hzs)⟩, hKz.set _ _, hXz.setCell HWG.out _⟩, by simp [intOf]; omega⟩
                  · obtain rfl : z = s.size := by omega
                    have HKZ := Lib.hid hKz
                    have HXZ2 := Lib.hid hXz
                    go_wp2_with fail
                    go_meet
                    exact ⟨q, rfl, rfl, HXZ2.out, D', d', t', (HS12.out.wrote HKZ.out HDT.out.1 HDT.out.2 HDG.out.2.2).forget⟩
        case rest =>
          obtain ⟨q, rfl, rfl, hXc, D', d', t', hst⟩ := hcut
          have c0 := hst.row.cell (j := 0) rfl
          have c1 := hst.row.cell (j := 1) rfl
          have c2 := hst.row.cell (j := 2) rfl
          have c3 := hst.row.cell (j := 3) rfl
          have HSC := Lib.hid hst
          clear hst a0
          go_wp2_with (go_at_call 33; refine (is_true HSC.out.body HSC.out.ref HSC.out.ok (by omega)).mono ?_; rintro e w9 ⟨rfl, hx9⟩)
          go_roundw
          case rel => exact ⟨k + 1, by omega, by go_num, hXc.trans hx9, _, _, _, HSC.out.ext hx9⟩
          case measure => simp [intOf]; omega
      · obtain rfl : k = L := by omega
        go_wp2_with fail
        go_ret
        exact ⟨rfl, hX⟩
end Go.Proofs.Ytfjpaacanoocmaa
