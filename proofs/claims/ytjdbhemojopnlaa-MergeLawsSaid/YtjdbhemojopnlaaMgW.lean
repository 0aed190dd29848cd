/- Chapter 52: the law Splits. -/
import Derived.Test.YtjdbhemojopnlaaMgV
namespace Go.Proofs.Ytjdbhemojopnlaa
open Go.RowKit Go.Maps
set_option maxRecDepth 100000 in
set_option maxHeartbeats 4000000 in
theorem splits_law {v : Value} {es : List Ent} (tenant at_ : Int) (w : World) (h : EnsArg w v es) (hty : ∀ x ∈ es, x.typed) :
    Calls Try.prog 6 #[v, .int .i64 tenant, .int .i64 at_] w fun e w' => e = .returned (.bool true) ∧ Ext w w' := by
  have HE := Lib.hid h
  obtain ⟨A, cap, rfl, hr⟩ := h
  obtain ⟨n, hxn⟩ : ∃ n, es.length = n := ⟨_, rfl⟩
  have HN := Lib.hid hxn
  have HTY := Lib.hid hty
  rw [hxn] at HE hr ⊢
  clear hxn hty
  by_cases hn : n ≤ 60
  · go_enter Try.func6, Try.ntmps6
    go_upto_region 3 with (go_at_call 11; refine (awake_any _).mono ?_; rintro e w1 ⟨rfl, hx1⟩)
    obtain ⟨q, hq⟩ : ∃ q, w1.heap.size + 1 = q := ⟨_, rfl⟩
    obtain ⟨b, hb⟩ : ∃ b, w1.heap.size = b := ⟨_, rfl⟩
    have HNEW : Hid (Calls Try.prog 18 #[] w1 fun e w' => e = .returned (.pointer (some ⟨q, 0, none⟩)) ∧ Ext w1 w' ∧ SetAt w' q b []) := Lib.hid (by rw [← hq, ← hb]; exact new_set w1)
    have HB := Lib.hid (show w.heap.size ≤ b by have := hx1.size; omega)
    have HX1 := Lib.hid hx1
    clear hq hb hx1
    go_wp2_with (go_at_call 18; refine HNEW.out.mono ?_; rintro e w2 ⟨rfl, hx2, hS2⟩)
    go_loopw [31] (fun i wr => ∃ (k : Nat) (L : List Ent), k ≤ n ∧ i = .int .i64 k ∧ Hid (Ext w wr ∧ SetAt wr q b L ∧ L.length ≤ k)) (fun i _ => n - (intOf i).toNat)
    case atStart => exact ⟨0, [], by omega, rfl, Lib.hid ⟨HX1.out.trans hx2, hS2, by simp⟩⟩
    case round =>
      obtain ⟨k, L, hk, rfl, HR⟩ := hrel
      by_cases hlt : k < n
      · obtain ⟨ad, rfl, hg⟩ := hr (by omega)
        obtain ⟨x, hx⟩ : ∃ x, es[k]? = some x := ⟨es[k]'(by rw [HN.out]; exact hlt), by simp⟩
        have hki : (k : Int) < (n : Int) := by omega
        have hk6 : (k : Int) < 61 := by omega
        have HXT := Lib.hid (HTY.out x (List.mem_of_getElem? hx))
        obtain ⟨a0, a1, a2, a3, a4, a5, a6⟩ := (hg k x hx).ext HR.out.1
        clear hg hx hr
        go_upto_region 7 with fail
        obtain ⟨wa, hwa⟩ : ∃ wa, wa = wr.alloc (.cells x.cs.toArray 41) := ⟨_, rfl⟩
        have XA : Ext wr wa := by rw [hwa]; exact (Ext.refl wr).alloc _
        have HT : Hid (RowB wa wr.heap.size 41 x.cs) := Lib.hid (by rw [hwa]; exact row_laid _ _ _)
        simp only [Ent.cs] at hwa
        rw [← hwa]
        clear hwa a0 a1 a2 a3 a4 a5 a6
        obtain ⟨t0, t1, t2, t3, t4, t5, t6⟩ := ent_cells HT.out
        have HP : Hid (Calls Try.prog 19 #[.pointer (some ⟨q, 0, none⟩), .agg #[.string x.nd, .int .i64 x.bt, .int .i64 x.sq, .int .i64 x.tn, .int .i64 x.ht, .int .i64 x.by_, .int .i64 x.at_]] wa fun e w' => ∃ is bad, e = .returned (.tuple #[.bool is, bad]) ∧ Ext w w' ∧ SetAt w' q b (putL L x)) := Lib.hid ((put_any q b L x wa (HR.out.2.1.ext XA) HXT.out).mono (by
          rintro e w' ⟨is, bad, rfl, hg, hS, _⟩
          exact ⟨is, bad, rfl, (HR.out.1.trans XA).grownB hg HB.out, hS⟩))
        clear XA
        go_wp2_with (go_at_call 19; refine HP.out.mono ?_; rintro e w3 ⟨is, bad, rfl, hx3, hS3⟩)
        go_roundw
        case rel => exact ⟨k + 1, putL L x, by omega, by go_num, Lib.hid ⟨hx3, hS3, by have := putL_len L x; have := HR.out.2.2; omega⟩⟩
        case measure => simp [intOf]; omega
      · obtain rfl : k = n := by omega
        obtain ⟨hxr, hS, hLL⟩ := HR.out
        have hl60 : (srtL L).length ≤ 60 := by rw [hS.slen]; omega
        obtain ⟨r, hrr⟩ : ∃ r, srtL L = r := ⟨_, rfl⟩
        have HLS : Hid (∀ W, Ext wr W → ListsTo W (.pointer (some ⟨q, 0, none⟩)) r) := Lib.hid (fun W hW => by rw [← hrr]; exact (hS.ext hW).lists (by omega))
        have hgd : ∀ x ∈ r, x.good := by rw [← hrr]; exact hS.good
        have hso : r.Pairwise ltE := by rw [← hrr]; exact hS.tied.s
        rw [hrr] at hl60
        have HTO : Hid (Calls Try.prog 15 #[.pointer (some ⟨q, 0, none⟩), .int .i64 tenant] wr fun e w' => e = .returned (.tuple #[.int .i64 (tot Ent.ht (pT tenant) r), .int .i64 (tot Ent.by_ (pT tenant) r)]) ∧ Ext wr w') := Lib.hid (total_any (by omega) hgd tenant wr (HLS.out wr (Ext.refl _)))
        have HB1 : Hid (∀ W, Ext wr W → Calls Try.prog 16 #[.pointer (some ⟨q, 0, none⟩), .int .i64 tenant, .int .i64 (-4611686018427387904), .int .i64 at_] W fun e w' => e = .returned (.tuple #[.int .i64 (tot Ent.ht (pB tenant (-4611686018427387904) at_) r), .int .i64 (tot Ent.by_ (pB tenant (-4611686018427387904) at_) r)]) ∧ Ext W w') := Lib.hid (fun W hW => between_any (by omega) hgd tenant _ _ W (HLS.out W hW))
        have HB2 : Hid (∀ W, Ext wr W → Calls Try.prog 16 #[.pointer (some ⟨q, 0, none⟩), .int .i64 tenant, .int .i64 at_, .int .i64 4611686018427387904] W fun e w' => e = .returned (.tuple #[.int .i64 (tot Ent.ht (pB tenant at_ 4611686018427387904) r), .int .i64 (tot Ent.by_ (pB tenant at_ 4611686018427387904) r)]) ∧ Ext W w') := Lib.hid (fun W hW => between_any (by omega) hgd tenant _ _ W (HLS.out W hW))
        have HGA : Hid (∀ W, Ext wr W → Calls Try.prog 13 #[.pointer (some ⟨q, 0, none⟩)] W fun e w' => ∃ u, e = .returned u ∧ GpsAt w' u (gps none r) ∧ Ext W w') := Lib.hid (fun W hW => gaps_any (by omega) hgd W (HLS.out W hW))
        have HGF : Hid (∀ g ∈ gps none r, g.fr ≤ g.to_ ∧ 1 ≤ g.fr ∧ ∀ z ∈ r, ¬ (z.nd = g.nd ∧ z.bt = g.bt ∧ g.fr ≤ z.sq ∧ z.sq ≤ g.to_)) := Lib.hid (fun g hg => gap_facts hso hgd hg)
        have hgl : (gps none r).length ≤ 60 := Nat.le_trans (gps_len _ _) hl60
        have HP1 : Hid (-4611686018427387904 ≤ at_ → at_ ≤ 4611686018427387904 → tot Ent.ht (pT tenant) r = tot Ent.ht (pB tenant (-4611686018427387904) at_) r + tot Ent.ht (pB tenant at_ 4611686018427387904) r) := Lib.hid (fun h1 h2 => tot_parts _ _ _ h1 h2 r hgd)
        have HP2 : Hid (-4611686018427387904 ≤ at_ → at_ ≤ 4611686018427387904 → tot Ent.by_ (pT tenant) r = tot Ent.by_ (pB tenant (-4611686018427387904) at_) r + tot Ent.by_ (pB tenant at_ 4611686018427387904) r) := Lib.hid (fun h1 h2 => tot_parts _ _ _ h1 h2 r hgd)
        have bd1 := tot_bd Ent.ht (pT tenant) r (fun y hy => (hgd y hy).2.2.2.2.1)
        have bd2 := tot_bd Ent.by_ (pT tenant) r (fun y hy => (hgd y hy).2.2.2.2.2.1)
        have HBD : Hid ((0 ≤ tot Ent.ht (pT tenant) r ∧ tot Ent.ht (pT tenant) r ≤ 2305843009213693952) ∧ (0 ≤ tot Ent.by_ (pT tenant) r ∧ tot Ent.by_ (pT tenant) r ≤ 2305843009213693952)) := Lib.hid (by omega)
        have HXR := Lib.hid hxr
        obtain ⟨gs, hgs⟩ : ∃ gs, gps none r = gs := ⟨_, rfl⟩
        rw [hgs] at HGA HGF hgl
        obtain ⟨h1, e1⟩ : ∃ z, tot Ent.ht (pT tenant) r = z := ⟨_, rfl⟩
        obtain ⟨h2, e2⟩ : ∃ z, tot Ent.by_ (pT tenant) r = z := ⟨_, rfl⟩
        obtain ⟨h3, e3⟩ : ∃ z, tot Ent.ht (pB tenant (-4611686018427387904) at_) r = z := ⟨_, rfl⟩
        obtain ⟨h4, e4⟩ : ∃ z, tot Ent.by_ (pB tenant (-4611686018427387904) at_) r = z := ⟨_, rfl⟩
        obtain ⟨h5, e5⟩ : ∃ z, tot Ent.ht (pB tenant at_ 4611686018427387904) r = z := ⟨_, rfl⟩
        obtain ⟨h6, e6⟩ : ∃ z, tot Ent.by_ (pB tenant at_ 4611686018427387904) r = z := ⟨_, rfl⟩
        rw [e1] at HTO HP1 HBD
        rw [e2] at HTO HP2 HBD
        rw [e3, e4] at HB1
        rw [e5, e6] at HB2
        rw [e3, e5] at HP1
        rw [e4, e6] at HP2
        obtain ⟨m, hm⟩ : ∃ m, gs.length = m := ⟨_, rfl⟩
        have HM := Lib.hid hm
        have HLR := Lib.hid hl60
        rw [hm] at hgl
        clear hS hLL hrr hgd hso hl60 hgs e1 e2 e3 e4 e5 e6 bd1 bd2 hm hr hxr
        go_wp2_with fail
        refine HTO.out.mono ?_
        rintro e w3 ⟨rfl, hx3⟩
        go_wp2_with fail
        refine (HB1.out _ hx3).mono ?_
        rintro e w4 ⟨rfl, hx4⟩
        go_wp2_with fail
        refine (HB2.out _ (hx3.trans hx4)).mono ?_
        rintro e w5 ⟨rfl, hx5⟩
        have HX5 := Lib.hid ((hx3.trans hx4).trans hx5)
        clear hx3 hx4 hx5
        have hcond : (¬ -4611686018427387904 ≤ at_) ∨ (-4611686018427387904 ≤ at_ ∧ ¬ at_ ≤ 4611686018427387904) ∨ (-4611686018427387904 ≤ at_ ∧ at_ ≤ 4611686018427387904 ∧ wrap64 (h3 + h5) = h1 ∧ wrap64 (h4 + h6) = h2) := by
          by_cases c1 : -4611686018427387904 ≤ at_
          · by_cases c2 : at_ ≤ 4611686018427387904
            · have f1 := HP1.out c1 c2
              have f2 := HP2.out c1 c2
              have f3 := HBD.out
              have f4 : wrap64 (h3 + h5) = h3 + h5 := by unfold wrap64; omega
              have f5 : wrap64 (h4 + h6) = h4 + h6 := by unfold wrap64; omega
              exact .inr (.inr ⟨c1, c2, by rw [f4, f1], by rw [f5, f2]⟩)
            · exact .inr (.inl ⟨c1, c2⟩)
          · exact .inl c1
        go_upto_region 12 with fail
        go_cut [78] (fun tv wx => tv = .bool false ∧ wx = w5)
        case first =>
          rcases hcond with c1 | ⟨c1, c2⟩ | ⟨c1, c2, c3, c4⟩
          · go_wp2_with fail
            go_meet
            exact ⟨rfl, rfl⟩
          · go_wp2_with fail
            go_meet
            exact ⟨rfl, rfl⟩
          · go_wp2_with fail
            go_meet
            exact ⟨rfl, rfl⟩
        obtain ⟨rfl, rfl⟩ := hcut
        clear hcond
        go_wp2_with fail
        refine (HGA.out _ HX5.out).mono ?_
        rintro e w6 ⟨x6, rfl, hg6, hx6⟩
        obtain ⟨A6, c6, rfl, hr6⟩ := hg6.parts
        rw [HM.out] at hr6 ⊢
        have HX6 := Lib.hid (HX5.out.trans hx6)
        clear hg6 hx6
        go_wp2_with fail
        generalize wr = wo at *
        go_loopw [82] (fun i wr => ∃ j : Nat, j ≤ m ∧ i = .int .i64 j ∧ Hid (Ext w6 wr)) (fun i _ => m - (intOf i).toNat)
        case atStart => exact ⟨0, by omega, rfl, Lib.hid (Ext.refl _)⟩
        case round =>
          obtain ⟨j, hj, rfl, HXJ⟩ := hrel
          by_cases hjm : j < m
          · obtain ⟨g6, rfl, hgg⟩ := hr6 (by omega)
            obtain ⟨g, hg⟩ : ∃ g, gs[j]? = some g := ⟨gs[j]'(by rw [HM.out]; exact hjm), by simp⟩
            obtain ⟨f1, f2, f3⟩ := HGF.out g (List.mem_of_getElem? hg)
            have HF3 := Lib.hid f3
            have hji : (j : Int) < (m : Int) := by omega
            have hj6 : (j : Int) < 61 := by omega
            obtain ⟨a0, a1, a2, a3⟩ := cells4 (w := wr) (fun i u hu => HXJ.out.cell (hgg j g hg i u hu))
            clear f3 hg hgg hr6
            go_upto_region 17 with fail
            obtain ⟨wa, hwa⟩ : ∃ wa, wa = wr.alloc (.cells g.cs.toArray 32) := ⟨_, rfl⟩
            have XA : Ext wr wa := by rw [hwa]; exact (Ext.refl wr).alloc _
            have HT : Hid (RowB wa wr.heap.size 32 g.cs) := Lib.hid (by rw [hwa]; exact row_laid _ _ _)
            simp only [Gp.cs] at hwa
            rw [← hwa]
            have HXA := Lib.hid (HXJ.out.trans XA)
            clear hwa a0 a1 a2 a3 XA
            have t2 := HT.out.cell (j := 2) rfl
            have t3 := HT.out.cell (j := 3) rfl
            have f1' : ¬ g.to_ < g.fr := by omega
            have f2' : ¬ g.fr < 1 := by omega
            clear f1 f2
            go_upto_region 19 with fail
            clear t2 t3 f1' f2'
            go_wp2_with fail
            refine (HLS.out wa (HX6.out.trans HXA.out) wa (Ext.refl _)).mono ?_
            rintro e w7 ⟨x7, rfl, hu7, hx7, -⟩
            obtain ⟨A7, c7, rfl, hr7⟩ := hu7.parts
            obtain ⟨p, hp⟩ : ∃ p, r.length = p := ⟨_, rfl⟩
            have HPL := Lib.hid hp
            have hp60 : p ≤ 60 := by rw [← hp]; exact HLR.out
            rw [hp] at hr7 ⊢
            have HX7 := Lib.hid (HXA.out.trans hx7)
            obtain ⟨tg, htg⟩ : ∃ tg, wr.heap.size = tg := ⟨_, rfl⟩
            rw [htg] at HT ⊢
            have HT7 := Lib.hid (HT.out.ext hx7)
            clear hu7 hx7 hp htg HT
            go_wp2_with fail
            generalize wr = wq at *
            go_loopw [99] (fun i wr => ∃ l : Nat, l ≤ p ∧ i = .int .i64 l ∧ Hid (Ext w7 wr)) (fun i _ => p - (intOf i).toNat)
            case atStart => exact ⟨0, by omega, rfl, Lib.hid (Ext.refl _)⟩
            case round =>
              obtain ⟨l, hl, rfl, HXL⟩ := hrel
              by_cases hlp : l < p
              · obtain ⟨g7, off7, rfl, hg7⟩ := hr7 (by omega)
                obtain ⟨x, hx⟩ : ∃ x, r[l]? = some x := ⟨r[l]'(by rw [HPL.out]; exact hlp), by simp⟩
                have hli : (l : Int) < (p : Int) := by omega
                have hl6 : (l : Int) < 61 := by omega
                have hno := HF3.out x (List.mem_of_getElem? hx)
                obtain ⟨a0, a1, a2, a3, a4, a5, a6⟩ := cells7 (w := wr) (fun i u hu => HXL.out.cell (hg7 l x hx i u hu))
                clear hg7 hx hr7
                go_upto_region 22 with fail
                obtain ⟨wb, hwb⟩ : ∃ wb, wb = wr.alloc (.cells x.cs.toArray 41) := ⟨_, rfl⟩
                have XB : Ext wr wb := by rw [hwb]; exact (Ext.refl wr).alloc _
                have HTB : Hid (RowB wb wr.heap.size 41 x.cs) := Lib.hid (by rw [hwb]; exact row_laid _ _ _)
                simp only [Ent.cs] at hwb
                rw [← hwb]
                have HXB := Lib.hid (HXL.out.trans XB)
                clear hwb a0 a1 a2 a3 a4 a5 a6 XB
                obtain ⟨t0, t1, t2, -⟩ := ent_cells HTB.out
                have y0 := (HT7.out.ext HXB.out).cell (j := 0) rfl
                have y1 := (HT7.out.ext HXB.out).cell (j := 1) rfl
                have y2 := (HT7.out.ext HXB.out).cell (j := 2) rfl
                have y3 := (HT7.out.ext HXB.out).cell (j := 3) rfl
                have hcs : (x.nd.toList == g.nd.toList) = false ∨ ((x.nd.toList == g.nd.toList) = true ∧ (x.bt == g.bt) = false) ∨ ((x.nd.toList == g.nd.toList) = true ∧ (x.bt == g.bt) = true ∧ ¬ g.fr ≤ x.sq) ∨ ((x.nd.toList == g.nd.toList) = true ∧ (x.bt == g.bt) = true ∧ g.fr ≤ x.sq ∧ ¬ x.sq ≤ g.to_) := by
                  cases e1 : (x.nd.toList == g.nd.toList) with
                  | false => exact .inl rfl
                  | true =>
                    cases e2 : (x.bt == g.bt) with
                    | false => exact .inr (.inl ⟨rfl, rfl⟩)
                    | true =>
                      by_cases e3 : g.fr ≤ x.sq
                      · exact .inr (.inr (.inr ⟨rfl, rfl, e3, fun e4 => hno ⟨tl_inj (eq_of_beq e1), eq_of_beq e2, e3, e4⟩⟩))
                      · exact .inr (.inr (.inl ⟨rfl, rfl, e3⟩))
                rcases hcs with c1 | ⟨c1, c2⟩ | ⟨c1, c2, c3⟩ | ⟨c1, c2, c3, c4⟩
                · go_wp2_with fail
                  go_roundw
                  case rel => exact ⟨l + 1, by omega, by go_num, HXB⟩
                  case measure => simp [intOf]; omega
                · go_wp2_with fail
                  go_roundw
                  case rel => exact ⟨l + 1, by omega, by go_num, HXB⟩
                  case measure => simp [intOf]; omega
                · go_wp2_with fail
                  go_roundw
                  case rel => exact ⟨l + 1, by omega, by go_num, HXB⟩
                  case measure => simp [intOf]; omega
                · go_wp2_with fail
                  go_roundw
                  case rel => exact ⟨l + 1, by omega, by go_num, HXB⟩
                  case measure => simp [intOf]; omega
              · obtain rfl : l = p := by omega
                go_wp2_with fail
                go_roundw
                case rel => exact ⟨j + 1, by omega, by go_num, Lib.hid (HX7.out.trans HXL.out)⟩
                case measure => simp [intOf]; omega
          · obtain rfl : j = m := by omega
            go_wp2_with fail
            go_ret
            exact ⟨rfl, HXR.out.trans (HX6.out.trans HXJ.out)⟩
  · go_enter Try.func6, Try.ntmps6
    go_wp2_with (go_at_call 11; refine (awake_any _).mono ?_; rintro e w1 ⟨rfl, hx1⟩)
    go_ret
    exact ⟨rfl, hx1⟩
end Go.Proofs.Ytjdbhemojopnlaa
