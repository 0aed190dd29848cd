/- Chapter 09: the law RangesPieces. -/
import Derived.Test.YteamnofooicbeaaDoorRpB
import Derived.Test.YteamnofooicbeaaDoorRgO
import Derived.Test.YteamnofooicbeaaDoorAnyD
import Derived.Deep.RegionWith
namespace Go.Proofs.YteamnofooicbeaaDoor
open Go.RowKit
theorem pcs_lt {f t c z : Nat} (ht : t ≤ c) (h : z ∈ pcs f t) : z * 256 < c := by
  unfold pcs at h
  split at h
  · have h := (List.mem_range'_1.1 h).2
    omega
  · cases h
theorem clip3_any (len : Int) (c : Nat) (hc : (c : Int) = max 0 (min len 65536)) (w : World) : Calls Tryd.prog 37 #[.int .i64 len, .int .i64 0, .int .i64 65536] w fun e w' => e = .returned (.int .i64 c) ∧ w = w' := by
  have HC := Lib.hid hc
  clear hc
  go_enter Tryd.func37, Tryd.ntmps37
  go_wp2_with fail
  all_goals go_ret
  all_goals exact ⟨ret_int (by have := HC.out; omega), rfl⟩
def pcr (c : Nat) (l : List Nat) : List (Int × Int) := l.map fun (z : Nat) => (((z : Int) * 256), ((pto z c : Nat) : Int))
theorem pcr_length (c : Nat) (l : List Nat) : (pcr c l).length = l.length := by simp [pcr]
theorem pcr_take (c : Nat) (l : List Nat) (k z : Nat) (h : l[k]? = some z) : pcr c (l.take (k + 1)) = pcr c (l.take k) ++ [(((z : Int) * 256), ((pto z c : Nat) : Int))] := by
  unfold pcr
  rw [List.take_add_one, h, List.map_append]
  rfl
theorem pcs_cov {f t c : Nat} (ht : t ≤ c) (o : Int) (h1 : (f : Int) ≤ o) (h2 : o < (t : Int)) : cov (pcr c (pcs f t)) o := by
  obtain ⟨u, rfl⟩ : ∃ u : Nat, o = (u : Int) := ⟨o.toNat, by omega⟩
  refine ⟨((((u / 256 : Nat) : Int) * 256), ((pto (u / 256) c : Nat) : Int)), List.mem_map.2 ⟨u / 256, ?_, rfl⟩, ?_, ?_⟩
  · unfold pcs
    rw [if_pos (by omega)]
    exact List.mem_range'_1.2 (by omega)
  · simp only; omega
  · simp only; unfold pto; omega
set_option maxRecDepth 100000 in
set_option maxHeartbeats 4000000 in
theorem pieces_law (F T len i : Int) (hF : F ≤ 9223372036854775807) (w : World) (hM : MaxL w) :
    Calls Tryd.prog 10 #[.agg #[.int .i64 F, .int .i64 T], .int .i64 len, .int .i64 i] w fun e w' => e = .returned (.bool true) ∧ Ext w w' := by
  have HAW := Lib.hid (fun W (hW : Ext w W) => awake_any W (hM.ext hW))
  obtain ⟨wa, hwa⟩ : ∃ wa, wa = w.alloc (.cells #[.int .i64 F, .int .i64 T] 43) := ⟨_, rfl⟩
  have XA : Ext w wa := by rw [hwa]; exact (Ext.refl w).alloc _
  have HT : Hid (RowB wa w.heap.size 43 [.int .i64 F, .int .i64 T]) := Lib.hid (by rw [hwa]; exact row_laid _ _ _)
  have HX := Lib.hid XA
  clear XA hM
  obtain ⟨c, hc⟩ : ∃ c : Nat, (c : Int) = max 0 (min len 65536) := ⟨(max 0 (min len 65536)).toNat, by omega⟩
  obtain ⟨f, hf⟩ : ∃ f : Nat, (f : Int) = max 0 F := ⟨(max 0 F).toNat, by omega⟩
  obtain ⟨t, ht⟩ : ∃ t : Nat, t = (min T c).toNat := ⟨_, rfl⟩
  have HC := Lib.hid hc
  have HF := Lib.hid hf
  have HT0 := Lib.hid ht
  have HTC := Lib.hid (show t ≤ c ∧ t ≤ 65536 by omega)
  have HPC := Lib.hid (fun W => pieces_any F T len c f t hc hf hF ht W)
  have HRC := Lib.hid (fun W => rpieces_any F T len c f t hc hf ht W)
  clear hc hf ht hF
  have hpi : ∃ (pf pt : Int) (ev : Value) (ok : Bool), Hid (∀ W, Calls Tryd.prog 33 #[.int .i64 i, .int .i64 len] W fun e w' => e = .returned (.tuple #[rngV pf pt, ev]) ∧ Ext W w') ∧ Hid (∀ W, Calls Tryd.prog 34 #[.int .i64 i, .int .i64 len] W fun e w' => e = .returned (.tuple #[rngV pf pt, .bool ok]) ∧ Ext W w') ∧ ((ev = .nilIface ∧ ok = true) ∨ (ev = errV 1 ∧ ok = false)) := by
    by_cases hi : 0 ≤ i ∧ i * 256 < c
    · obtain ⟨z, rfl⟩ : ∃ z : Nat, i = (z : Int) := ⟨i.toNat, by omega⟩
      exact ⟨_, _, _, _, Lib.hid (fun W => piece_yes z len c HC.out (by omega) W), Lib.hid (fun W => piece9_yes z len c HC.out (by omega) W), .inl ⟨rfl, rfl⟩⟩
    · exact ⟨_, _, _, _, Lib.hid (fun W => piece_no i len c HC.out (by omega) W), Lib.hid (fun W => piece9_no i len c HC.out (by omega) W), .inr ⟨rfl, rfl⟩⟩
  obtain ⟨pf, pt, ev, ok, HP1, HP2, hpp⟩ := hpi
  go_enter Tryd.func10, Tryd.ntmps10
  go_upto_region 1 with fail
  rw [← hwa]
  clear hwa
  obtain ⟨g, hg⟩ : ∃ g, w.heap.size = g := ⟨_, rfl⟩
  have HG := Lib.hid hg
  rw [hg] at HT ⊢
  clear hg
  go_upto_region 3 with (go_at_call 12; refine (HAW.out _ HX.out).mono ?_; rintro e w1 ⟨rfl, hx1⟩)
  have HX1 := Lib.hid (HX.out.trans hx1)
  have HT1 := Lib.hid (HT.out.ext hx1)
  clear hx1
  have a0 := HT1.out.cell (j := 0) rfl
  have a1 := HT1.out.cell (j := 1) rfl
  go_upto_region 4 with fail
  obtain ⟨w2, hw2⟩ : ∃ wb, wb = w1.alloc (.cells #[.int .i64 F, .int .i64 T] 37) := ⟨_, rfl⟩
  have X2 : Ext w1 w2 := by rw [hw2]; exact (Ext.refl w1).alloc _
  have HB2 : Hid (RowB w2 w1.heap.size 37 [.int .i64 F, .int .i64 T]) := Lib.hid (by rw [hw2]; exact row_laid _ _ _)
  rw [← hw2]
  clear hw2 a0 a1
  obtain ⟨q2, hq2⟩ : ∃ q, w1.heap.size = q := ⟨_, rfl⟩
  rw [hq2] at HB2 ⊢
  clear hq2
  have b0 := HB2.out.cell (j := 0) rfl
  have b1 := HB2.out.cell (j := 1) rfl
  have HX2 := Lib.hid (HX1.out.trans X2)
  have HT2 := Lib.hid (HT1.out.ext X2)
  clear X2
  go_upto_region 5 with (go_at_call 32; refine (HPC.out _).mono ?_; rintro e w3 ⟨v3, rfl, hx3, hi3⟩)
  have HI3 := Lib.hid hi3
  have HX3 := Lib.hid (HX2.out.trans hx3)
  have HT3 := Lib.hid (HT2.out.ext hx3)
  clear hi3 hx3 b0 b1 HB2
  go_upto_region 6 with (go_at_call 33; refine (HP1.out _).mono ?_; rintro e w4 ⟨rfl, hx4⟩)
  obtain ⟨w5, hw5⟩ : ∃ wb, wb = w4.alloc (.cells #[.int .i64 pf, .int .i64 pt] 37) := ⟨_, rfl⟩
  have X5 : Ext w4 w5 := by rw [hw5]; exact (Ext.refl w4).alloc _
  have HB5 : Hid (RowB w5 w4.heap.size 37 [.int .i64 pf, .int .i64 pt]) := Lib.hid (by rw [hw5]; exact row_laid _ _ _)
  rw [← hw5]
  clear hw5
  obtain ⟨q5, hq5⟩ : ∃ q, w4.heap.size = q := ⟨_, rfl⟩
  rw [hq5] at HB5 ⊢
  clear hq5
  have HX5 := Lib.hid (HX3.out.trans (hx4.trans X5))
  have HT5 := Lib.hid (HT3.out.ext (hx4.trans X5))
  have HI5 := Lib.hid (show IntsOwn w5 _ _ _ from own_kept HI3.out (hx4.trans X5))
  clear hx4 X5
  go_upto_region 7 with (go_at_call 34; refine (HP2.out _).mono ?_; rintro e w6 ⟨rfl, hx6⟩)
  obtain ⟨w7, hw7⟩ : ∃ wb, wb = w6.alloc (.cells #[.int .i64 pf, .int .i64 pt] 43) := ⟨_, rfl⟩
  have X7 : Ext w6 w7 := by rw [hw7]; exact (Ext.refl w6).alloc _
  have HB7 : Hid (RowB w7 w6.heap.size 43 [.int .i64 pf, .int .i64 pt]) := Lib.hid (by rw [hw7]; exact row_laid _ _ _)
  rw [← hw7]
  clear hw7
  obtain ⟨q7, hq7⟩ : ∃ q, w6.heap.size = q := ⟨_, rfl⟩
  rw [hq7] at HB7 ⊢
  clear hq7
  have HX7 := Lib.hid (HX5.out.trans (hx6.trans X7))
  have HT7 := Lib.hid (HT5.out.ext (hx6.trans X7))
  have HI7 := Lib.hid (show IntsOwn w7 _ _ _ from own_kept HI5.out (hx6.trans X7))
  have HB57 := Lib.hid (HB5.out.ext (hx6.trans X7))
  clear hx6 X7 HX5 HT5 HI5 HX3 HT3 HI3 HX2 HT2 HX1 HT1 HT HX
  have a0 := HT7.out.cell (j := 0) rfl
  have a1 := HT7.out.cell (j := 1) rfl
  rcases hpp with ⟨rfl, rfl⟩ | ⟨rfl, rfl⟩
  · go_upto_region 9 with (first
    | (go_at_call 36; refine (HRC.out _).mono ?_; rintro e w8 ⟨v8, rfl, hx8, hi8⟩; (have hdd : decide (pcs f t = pcs f t) = true := decide_eq_true rfl); (have HIN : Hid (Calls Tryd.prog 35 #[v3, v8] w8 fun e w' => e = .returned (.bool true) ∧ Ext w8 w') := Lib.hid (by have h := ints_any (HI7.out.reads.ext hx8) hi8.reads (Nat.le_trans (pcs_length f t HTC.out.2) (by omega)) (Nat.le_trans (pcs_length f t HTC.out.2) (by omega)); rwa [hdd] at h)))
    | (go_at_call 35; refine HIN.out.mono ?_; rintro e w9 ⟨rfl, hx9⟩; have p0 := (HB57.out.ext (hx8.trans hx9)).cell (j := 0) rfl; have p1 := (HB57.out.ext (hx8.trans hx9)).cell (j := 1) rfl; have p2 := (HB7.out.ext (hx8.trans hx9)).cell (j := 0) rfl; have p3 := (HB7.out.ext (hx8.trans hx9)).cell (j := 1) rfl)
    | (go_at_call 18; refine (is_err 1 _ (by decide)).mono ?_; rintro e w11 ⟨rfl, rfl⟩))
    have HX9 := Lib.hid (HX7.out.trans (hx8.trans hx9))
    have HT9 := Lib.hid (HT7.out.ext (hx8.trans hx9))
    obtain ⟨A8, cap8, rfl, hc8, hcell⟩ := HI7.out.reads.ext (hx8.trans hx9)
    clear hx8 hx9 p0 p1 p2 p3 a0 a1 HIN hdd
    obtain ⟨n, hxn⟩ : ∃ n, (pcs f t).length = n := ⟨_, rfl⟩
    have HN := Lib.hid hxn
    rw [hxn] at hc8 hcell ⊢
    have HCL := Lib.hid hcell
    have hn256 : n ≤ 256 := by rw [← hxn]; exact pcs_length f t HTC.out.2
    clear hcell hxn
    go_wp2_with fail
    go_loopw [13, 78] (fun lv j wr => ∃ k : Nat, k ≤ n ∧ j = .int .i64 k ∧ ROwn 37 wr w9.heap.size lv (pcr c ((pcs f t).take k)) ∧ Ext w9 wr ∧ (k = 0 → lv = .slice none 0 0)) (fun _ j _ => n - (intOf j).toNat)
    case atStart => exact ⟨0, by omega, rfl, ROwn.nil _ _ _, (by first | exact Ext.refl _ | repeat' (first | exact Ext.refl _ | refine Ext.drew ?_ | refine Ext.drewN ?_ _ | refine Ext.alloc ?_ _)), fun _ => rfl⟩
    case round =>
      obtain ⟨k, hk, rfl, hown, hX, hni⟩ := hrel
      by_cases hlt : k < n
      · obtain ⟨g8, rfl, hg8⟩ := HCL.out k hlt
        have hki : (k : Int) < (n : Int) := by omega
        have hk6 : (k : Int) < 301 := by omega
        have hkc : k < cap8 := by omega
        obtain ⟨z, hz⟩ : ∃ z, (pcs f t)[k]? = some z := ⟨_, List.getElem?_eq_getElem (by rw [HN.out]; exact hlt)⟩
        rw [hz, Option.getD_some] at hg8
        have a8 := hX.cell hg8
        have hzc : z * 256 < c := pcs_lt HTC.out.1 (List.mem_of_getElem? hz)
        have HPZ := Lib.hid (fun W => piece_yes z len c HC.out hzc W)
        have HTT := Lib.hid (pcr_take c (pcs f t) k z hz)
        have HLN := Lib.hid (show (pcr c ((pcs f t).take k)).length ≤ 300 by rw [pcr_length, List.length_take]; omega)
        have HO := Lib.hid hown
        have hsz := hX.size
        have hz6 : (z : Int) < 301 := by have := HC.out; omega
        clear hz hg8 hown hni hzc
        go_upto_region 14 with (go_at_call 33; refine (HPZ.out _).mono ?_; rintro e w7 ⟨rfl, hx7⟩)
        obtain ⟨w8, hw8⟩ : ∃ w8, w8 = w7.alloc (.cells #[.int .i64 ((z : Int) * 256), .int .i64 (pto z c : Nat)] 37) := ⟨_, rfl⟩
        have X8 : Ext w7 w8 := by rw [hw8]; exact (Ext.refl w7).alloc _
        have HT8 : Hid (RowB w8 w7.heap.size 37 [.int .i64 ((z : Int) * 256), .int .i64 (pto z c : Nat)]) := Lib.hid (by rw [hw8]; exact row_laid _ _ _)
        rw [← hw8]
        clear hw8
        have hX8 := (hx7.trans X8)
        have HO8 := Lib.hid (HO.out.ext hX8)
        have hXw := hX.trans hX8
        have hsz8 : w9.heap.size ≤ w8.heap.size := hXw.size
        obtain ⟨q8, hq8⟩ : ∃ q, w7.heap.size = q := ⟨_, rfl⟩
        rw [hq8] at HT8 ⊢
        clear hq8 hx7 X8 hX8 a8 hsz
        have b0 := HT8.out.cell (j := 0) rfl
        have b1 := HT8.out.cell (j := 1) rfl
        go_wp2_with (at_builtin; refine wpList_append_r 37 23 Tryd.underlying23 rng_info w8 rfl (.tmp 90) (.tmp 92) rfl w9.heap.size ((z : Int) * 256) (pto z c : Nat) HO8.out rfl rfl rfl (by have := HLN.out; omega) hsz8 ?_)
        intro v' w10 hown' hb _
        rw [← HTT.out] at hown'
        go_wp2_with fail
        go_roundw
        case rel => exact ⟨k + 1, by omega, by go_num, hown', Below.trans hXw hb, fun h => by omega⟩
        case measure => simp [intOf]; omega
      · obtain rfl : k = n := by omega
        rw [← HN.out, List.take_length] at hown
        have HO := Lib.hid hown
        have hlv : pcr c (pcs f t) = [] → u13 = .slice none 0 0 := fun h => hni (by rw [← HN.out]; exact List.length_eq_zero_iff.2 (List.map_eq_nil_iff.1 h))
        have HLV := Lib.hid hlv
        have HXW := Lib.hid (HX9.out.trans hX)
        have HTW := Lib.hid (HT9.out.ext hX)
        clear hown hni hX hlv hlt HCL
        go_upto_region 18 with fail
        have HCLP := Lib.hid (fun W => clip3_any len c HC.out W)
        refine wp_region_C (C := fun w' => Ext wr w') (by kernel_rfl) ?_
        have HN1 := Lib.hid (show Ext wr wr.drew from (Ext.refl _).drew)
        refine wpAnyC_take (i := 0) (v := .pointer (some ⟨g, 0, none⟩)) rfl (by kernel_rfl) (by kernel_rfl) (by kernel_rfl) (fun _ _ _ h => h) HN1.out (by kernel_rfl) ?_ ?_
        · intro W hW; go_simp; try (with_reducible rfl)
        try simp only [Act.put, List.setIfInBounds_toArray]
        refine wpAnyC_take (i := 1) (v := .int .i64 F) rfl (by kernel_rfl) (by kernel_rfl) (by kernel_rfl) (fun _ _ _ h => h) HN1.out (by kernel_rfl) ?_ ?_
        · intro W hW; have z0 := (HTW.out.ext hW).cell (j := 0) rfl; have z1 := (HTW.out.ext hW).cell (j := 1) rfl; go_simp; try (with_reducible rfl)
        try simp only [Act.put]
        refine wpAnyC_take (i := 2) (v := .int .i64 (max F 0)) rfl (by kernel_rfl) (by kernel_rfl) (by kernel_rfl) (fun _ _ _ h => h) HN1.out (by kernel_rfl) ?_ ?_
        · intro W hW; go_simp; try (with_reducible rfl)
        try simp only [Act.put]
        refine wpAnyC_take (i := 3) (v := .pointer (some ⟨g, 1, none⟩)) rfl (by kernel_rfl) (by kernel_rfl) (by kernel_rfl) (fun _ _ _ h => h) HN1.out (by kernel_rfl) ?_ ?_
        · intro W hW; go_simp; try (with_reducible rfl)
        try simp only [Act.put]
        refine wpAnyC_take (i := 4) (v := .int .i64 T) rfl (by kernel_rfl) (by kernel_rfl) (by kernel_rfl) (fun _ _ _ h => h) HN1.out (by kernel_rfl) ?_ ?_
        · intro W hW; have z0 := (HTW.out.ext hW).cell (j := 0) rfl; have z1 := (HTW.out.ext hW).cell (j := 1) rfl; go_simp; try (with_reducible rfl)
        try simp only [Act.put]
        refine wpAnyC_take (i := 5) (v := .int .i64 len) rfl (by kernel_rfl) (by kernel_rfl) (by kernel_rfl) (fun _ _ _ h => h) HN1.out (by kernel_rfl) ?_ ?_
        · intro W hW; go_simp; try (with_reducible rfl)
        try simp only [Act.put]
        refine wpAnyC_two 6 9 (by kernel_rfl) ?_ ?_
        · refine wpOpC_of rfl (by kernel_rfl) (fun KK hKK => ?_)
          go_simp
          refine (HCLP.out _).mono ?_
          rintro e wt ⟨rfl, rfl⟩
          refine hKK _ _ HN1.out ?_
          clear hKK KK
          try simp only [Act.put, List.setIfInBounds_toArray, List.set_cons_succ, List.set_cons_zero]
          refine wpAnyC_take (i := 7) (v := .int .i64 (min T (c : Int))) rfl (by kernel_rfl) (by kernel_rfl) (by kernel_rfl) (fun _ _ _ h => h) HN1.out (by kernel_rfl) ?_ ?_
          · intro W hW; go_simp; try (with_reducible rfl)
          try simp only [Act.put, List.setIfInBounds_toArray]
          refine wpAnyC_take (i := 8) (v := .agg #[.int .i64 (max F 0), .int .i64 (min T (c : Int))]) rfl (by kernel_rfl) (by kernel_rfl) (by kernel_rfl) (fun _ _ _ h => h) HN1.out (by kernel_rfl) ?_ ?_
          · intro W hW; go_simp; try (with_reducible rfl)
          try simp only [Act.put]
          refine wpAnyC_one 9 (by kernel_rfl) rfl (by kernel_rfl) (fun KK hKK => ?_)
          go_simp
          have X9 : Ext wr (wr.alloc (.cells #[.int .i64 0, .int .i64 0] 37)).drew := ((Ext.refl wr).alloc _).drew
          have HB9 : Hid (RowB (wr.alloc (.cells #[.int .i64 0, .int .i64 0] 37)).drew wr.heap.size 37 [.int .i64 0, .int .i64 0]) := Lib.hid ((row_laid _ _ _).ext (Ext.refl _).drew)
          refine hKK _ _ X9 ?_
          clear hKK KK
          try simp only [Act.put, List.setIfInBounds_toArray, List.set_cons_succ, List.set_cons_zero]
          refine wpAnyC_one 10 (by kernel_rfl) rfl (by kernel_rfl) (fun KK hKK => ?_)
          have y0 := HB9.out.cell (j := 0) rfl
          have y1 := HB9.out.cell (j := 1) rfl
          have z0 := HB9.out.frozen (j := 0) (by simp)
          have z1 := HB9.out.frozen (j := 1) (by simp)
          go_simp
          have XE : Ext wr (wr.alloc (.cells #[.int .i64 (max F 0), .int .i64 (min T (c : Int))] 37)).drew := ((Ext.refl wr).alloc _).drew
          have HBE : Hid (RowB (wr.alloc (.cells #[.int .i64 (max F 0), .int .i64 (min T (c : Int))] 37)).drew wr.heap.size 37 [.int .i64 (max F 0), .int .i64 (min T (c : Int))]) := Lib.hid ((row_laid _ _ _).ext (Ext.refl _).drew)
          refine hKK _ _ XE ?_
          clear hKK KK y0 y1 z0 z1
          refine ⟨by kernel_rfl, ?_⟩
          have HCOV := Lib.hid (coverR_any ((HO.out.ext XE).at) HLV.out (by rw [pcr_length]; exact Nat.le_trans (pcs_length f t HTC.out.2) (by omega)) (max F 0) (min T (c : Int)) true (fun _ => ⟨fun _ o h1 h2 => pcs_cov HTC.out.1 o (by have := HF.out; omega) (by have := HT0.out; omega), fun _ => rfl⟩) (fun _ => rfl))
          have HXE := Lib.hid (HXW.out.trans XE)
          have e0 := HBE.out.cell (j := 0) rfl
          have e1 := HBE.out.cell (j := 1) rfl
          go_wp2_with (go_at_call 31; refine HCOV.out.mono ?_; rintro e w12 ⟨rfl, hx12⟩)
          go_ret
          exact ⟨rfl, HXE.out.trans hx12⟩
        · refine wpOpC_of rfl (by kernel_rfl) (fun KK hKK => ?_)
          go_simp
          have X9 : Ext wr (wr.alloc (.cells #[.int .i64 0, .int .i64 0] 37)).drew := ((Ext.refl wr).alloc _).drew
          have HB9 : Hid (RowB (wr.alloc (.cells #[.int .i64 0, .int .i64 0] 37)).drew wr.heap.size 37 [.int .i64 0, .int .i64 0]) := Lib.hid ((row_laid _ _ _).ext (Ext.refl _).drew)
          refine hKK _ _ X9 ?_
          clear hKK KK
          try simp only [Act.put, List.setIfInBounds_toArray, List.set_cons_succ, List.set_cons_zero]
          refine wpAnyC_one 6 (by kernel_rfl) rfl (by kernel_rfl) (fun KK hKK => ?_)
          go_simp
          refine (HCLP.out _).mono ?_
          rintro e wt ⟨rfl, rfl⟩
          refine hKK _ _ X9 ?_
          clear hKK KK
          try simp only [Act.put, List.setIfInBounds_toArray, List.set_cons_succ, List.set_cons_zero]
          refine wpAnyC_take (i := 7) (v := .int .i64 (min T (c : Int))) rfl (by kernel_rfl) (by kernel_rfl) (by kernel_rfl) (fun _ _ _ h => h) X9 (by kernel_rfl) ?_ ?_
          · intro W hW; go_simp; try (with_reducible rfl)
          try simp only [Act.put, List.setIfInBounds_toArray]
          refine wpAnyC_take (i := 8) (v := .agg #[.int .i64 (max F 0), .int .i64 (min T (c : Int))]) rfl (by kernel_rfl) (by kernel_rfl) (by kernel_rfl) (fun _ _ _ h => h) X9 (by kernel_rfl) ?_ ?_
          · intro W hW; go_simp; try (with_reducible rfl)
          try simp only [Act.put]
          refine wpAnyC_one 10 (by kernel_rfl) rfl (by kernel_rfl) (fun KK hKK => ?_)
          have y0 := HB9.out.cell (j := 0) rfl
          have y1 := HB9.out.cell (j := 1) rfl
          have z0 := HB9.out.frozen (j := 0) (by simp)
          have z1 := HB9.out.frozen (j := 1) (by simp)
          go_simp
          have XE : Ext wr (wr.alloc (.cells #[.int .i64 (max F 0), .int .i64 (min T (c : Int))] 37)).drew := ((Ext.refl wr).alloc _).drew
          have HBE : Hid (RowB (wr.alloc (.cells #[.int .i64 (max F 0), .int .i64 (min T (c : Int))] 37)).drew wr.heap.size 37 [.int .i64 (max F 0), .int .i64 (min T (c : Int))]) := Lib.hid ((row_laid _ _ _).ext (Ext.refl _).drew)
          refine hKK _ _ XE ?_
          clear hKK KK y0 y1 z0 z1
          refine ⟨by kernel_rfl, ?_⟩
          have HCOV := Lib.hid (coverR_any ((HO.out.ext XE).at) HLV.out (by rw [pcr_length]; exact Nat.le_trans (pcs_length f t HTC.out.2) (by omega)) (max F 0) (min T (c : Int)) true (fun _ => ⟨fun _ o h1 h2 => pcs_cov HTC.out.1 o (by have := HF.out; omega) (by have := HT0.out; omega), fun _ => rfl⟩) (fun _ => rfl))
          have HXE := Lib.hid (HXW.out.trans XE)
          have e0 := HBE.out.cell (j := 0) rfl
          have e1 := HBE.out.cell (j := 1) rfl
          go_wp2_with (go_at_call 31; refine HCOV.out.mono ?_; rintro e w12 ⟨rfl, hx12⟩)
          go_ret
          exact ⟨rfl, HXE.out.trans hx12⟩
  · go_upto_region 9 with (first
    | (go_at_call 36; refine (HRC.out _).mono ?_; rintro e w8 ⟨v8, rfl, hx8, hi8⟩; (have hdd : decide (pcs f t = pcs f t) = true := decide_eq_true rfl); (have HIN : Hid (Calls Tryd.prog 35 #[v3, v8] w8 fun e w' => e = .returned (.bool true) ∧ Ext w8 w') := Lib.hid (by have h := ints_any (HI7.out.reads.ext hx8) hi8.reads (Nat.le_trans (pcs_length f t HTC.out.2) (by omega)) (Nat.le_trans (pcs_length f t HTC.out.2) (by omega)); rwa [hdd] at h)))
    | (go_at_call 35; refine HIN.out.mono ?_; rintro e w9 ⟨rfl, hx9⟩; have p0 := (HB57.out.ext (hx8.trans hx9)).cell (j := 0) rfl; have p1 := (HB57.out.ext (hx8.trans hx9)).cell (j := 1) rfl; have p2 := (HB7.out.ext (hx8.trans hx9)).cell (j := 0) rfl; have p3 := (HB7.out.ext (hx8.trans hx9)).cell (j := 1) rfl)
    | (go_at_call 18; refine (is_err 1 _ (by decide)).mono ?_; rintro e w11 ⟨rfl, rfl⟩))
    have HX9 := Lib.hid (HX7.out.trans (hx8.trans hx9))
    have HT9 := Lib.hid (HT7.out.ext (hx8.trans hx9))
    obtain ⟨A8, cap8, rfl, hc8, hcell⟩ := HI7.out.reads.ext (hx8.trans hx9)
    clear hx8 hx9 p0 p1 p2 p3 a0 a1 HIN hdd
    obtain ⟨n, hxn⟩ : ∃ n, (pcs f t).length = n := ⟨_, rfl⟩
    have HN := Lib.hid hxn
    rw [hxn] at hc8 hcell ⊢
    have HCL := Lib.hid hcell
    have hn256 : n ≤ 256 := by rw [← hxn]; exact pcs_length f t HTC.out.2
    clear hcell hxn
    go_wp2_with fail
    go_loopw [13, 78] (fun lv j wr => ∃ k : Nat, k ≤ n ∧ j = .int .i64 k ∧ ROwn 37 wr w9.heap.size lv (pcr c ((pcs f t).take k)) ∧ Ext w9 wr ∧ (k = 0 → lv = .slice none 0 0)) (fun _ j _ => n - (intOf j).toNat)
    case atStart => exact ⟨0, by omega, rfl, ROwn.nil _ _ _, (by first | exact Ext.refl _ | repeat' (first | exact Ext.refl _ | refine Ext.drew ?_ | refine Ext.drewN ?_ _ | refine Ext.alloc ?_ _)), fun _ => rfl⟩
    case round =>
      obtain ⟨k, hk, rfl, hown, hX, hni⟩ := hrel
      by_cases hlt : k < n
      · obtain ⟨g8, rfl, hg8⟩ := HCL.out k hlt
        have hki : (k : Int) < (n : Int) := by omega
        have hk6 : (k : Int) < 301 := by omega
        have hkc : k < cap8 := by omega
        obtain ⟨z, hz⟩ : ∃ z, (pcs f t)[k]? = some z := ⟨_, List.getElem?_eq_getElem (by rw [HN.out]; exact hlt)⟩
        rw [hz, Option.getD_some] at hg8
        have a8 := hX.cell hg8
        have hzc : z * 256 < c := pcs_lt HTC.out.1 (List.mem_of_getElem? hz)
        have HPZ := Lib.hid (fun W => piece_yes z len c HC.out hzc W)
        have HTT := Lib.hid (pcr_take c (pcs f t) k z hz)
        have HLN := Lib.hid (show (pcr c ((pcs f t).take k)).length ≤ 300 by rw [pcr_length, List.length_take]; omega)
        have HO := Lib.hid hown
        have hsz := hX.size
        have hz6 : (z : Int) < 301 := by have := HC.out; omega
        clear hz hg8 hown hni hzc
        go_upto_region 14 with (go_at_call 33; refine (HPZ.out _).mono ?_; rintro e w7 ⟨rfl, hx7⟩)
        obtain ⟨w8, hw8⟩ : ∃ w8, w8 = w7.alloc (.cells #[.int .i64 ((z : Int) * 256), .int .i64 (pto z c : Nat)] 37) := ⟨_, rfl⟩
        have X8 : Ext w7 w8 := by rw [hw8]; exact (Ext.refl w7).alloc _
        have HT8 : Hid (RowB w8 w7.heap.size 37 [.int .i64 ((z : Int) * 256), .int .i64 (pto z c : Nat)]) := Lib.hid (by rw [hw8]; exact row_laid _ _ _)
        rw [← hw8]
        clear hw8
        have hX8 := (hx7.trans X8)
        have HO8 := Lib.hid (HO.out.ext hX8)
        have hXw := hX.trans hX8
        have hsz8 : w9.heap.size ≤ w8.heap.size := hXw.size
        obtain ⟨q8, hq8⟩ : ∃ q, w7.heap.size = q := ⟨_, rfl⟩
        rw [hq8] at HT8 ⊢
        clear hq8 hx7 X8 hX8 a8 hsz
        have b0 := HT8.out.cell (j := 0) rfl
        have b1 := HT8.out.cell (j := 1) rfl
        go_wp2_with (at_builtin; refine wpList_append_r 37 23 Tryd.underlying23 rng_info w8 rfl (.tmp 90) (.tmp 92) rfl w9.heap.size ((z : Int) * 256) (pto z c : Nat) HO8.out rfl rfl rfl (by have := HLN.out; omega) hsz8 ?_)
        intro v' w10 hown' hb _
        rw [← HTT.out] at hown'
        go_wp2_with fail
        go_roundw
        case rel => exact ⟨k + 1, by omega, by go_num, hown', Below.trans hXw hb, fun h => by omega⟩
        case measure => simp [intOf]; omega
      · obtain rfl : k = n := by omega
        rw [← HN.out, List.take_length] at hown
        have HO := Lib.hid hown
        have hlv : pcr c (pcs f t) = [] → u13 = .slice none 0 0 := fun h => hni (by rw [← HN.out]; exact List.length_eq_zero_iff.2 (List.map_eq_nil_iff.1 h))
        have HLV := Lib.hid hlv
        have HXW := Lib.hid (HX9.out.trans hX)
        have HTW := Lib.hid (HT9.out.ext hX)
        clear hown hni hX hlv hlt HCL
        go_upto_region 18 with fail
        have HCLP := Lib.hid (fun W => clip3_any len c HC.out W)
        refine wp_region_C (C := fun w' => Ext wr w') (by kernel_rfl) ?_
        have HN1 := Lib.hid (show Ext wr wr.drew from (Ext.refl _).drew)
        refine wpAnyC_take (i := 0) (v := .pointer (some ⟨g, 0, none⟩)) rfl (by kernel_rfl) (by kernel_rfl) (by kernel_rfl) (fun _ _ _ h => h) HN1.out (by kernel_rfl) ?_ ?_
        · intro W hW; go_simp; try (with_reducible rfl)
        try simp only [Act.put, List.setIfInBounds_toArray]
        refine wpAnyC_take (i := 1) (v := .int .i64 F) rfl (by kernel_rfl) (by kernel_rfl) (by kernel_rfl) (fun _ _ _ h => h) HN1.out (by kernel_rfl) ?_ ?_
        · intro W hW; have z0 := (HTW.out.ext hW).cell (j := 0) rfl; have z1 := (HTW.out.ext hW).cell (j := 1) rfl; go_simp; try (with_reducible rfl)
        try simp only [Act.put]
        refine wpAnyC_take (i := 2) (v := .int .i64 (max F 0)) rfl (by kernel_rfl) (by kernel_rfl) (by kernel_rfl) (fun _ _ _ h => h) HN1.out (by kernel_rfl) ?_ ?_
        · intro W hW; go_simp; try (with_reducible rfl)
        try simp only [Act.put]
        refine wpAnyC_take (i := 3) (v := .pointer (some ⟨g, 1, none⟩)) rfl (by kernel_rfl) (by kernel_rfl) (by kernel_rfl) (fun _ _ _ h => h) HN1.out (by kernel_rfl) ?_ ?_
        · intro W hW; go_simp; try (with_reducible rfl)
        try simp only [Act.put]
        refine wpAnyC_take (i := 4) (v := .int .i64 T) rfl (by kernel_rfl) (by kernel_rfl) (by kernel_rfl) (fun _ _ _ h => h) HN1.out (by kernel_rfl) ?_ ?_
        · intro W hW; have z0 := (HTW.out.ext hW).cell (j := 0) rfl; have z1 := (HTW.out.ext hW).cell (j := 1) rfl; go_simp; try (with_reducible rfl)
        try simp only [Act.put]
        refine wpAnyC_take (i := 5) (v := .int .i64 len) rfl (by kernel_rfl) (by kernel_rfl) (by kernel_rfl) (fun _ _ _ h => h) HN1.out (by kernel_rfl) ?_ ?_
        · intro W hW; go_simp; try (with_reducible rfl)
        try simp only [Act.put]
        refine wpAnyC_two 6 9 (by kernel_rfl) ?_ ?_
        · refine wpOpC_of rfl (by kernel_rfl) (fun KK hKK => ?_)
          go_simp
          refine (HCLP.out _).mono ?_
          rintro e wt ⟨rfl, rfl⟩
          refine hKK _ _ HN1.out ?_
          clear hKK KK
          try simp only [Act.put, List.setIfInBounds_toArray, List.set_cons_succ, List.set_cons_zero]
          refine wpAnyC_take (i := 7) (v := .int .i64 (min T (c : Int))) rfl (by kernel_rfl) (by kernel_rfl) (by kernel_rfl) (fun _ _ _ h => h) HN1.out (by kernel_rfl) ?_ ?_
          · intro W hW; go_simp; try (with_reducible rfl)
          try simp only [Act.put, List.setIfInBounds_toArray]
          refine wpAnyC_take (i := 8) (v := .agg #[.int .i64 (max F 0), .int .i64 (min T (c : Int))]) rfl (by kernel_rfl) (by kernel_rfl) (by kernel_rfl) (fun _ _ _ h => h) HN1.out (by kernel_rfl) ?_ ?_
          · intro W hW; go_simp; try (with_reducible rfl)
          try simp only [Act.put]
          refine wpAnyC_one 9 (by kernel_rfl) rfl (by kernel_rfl) (fun KK hKK => ?_)
          go_simp
          have X9 : Ext wr (wr.alloc (.cells #[.int .i64 0, .int .i64 0] 37)).drew := ((Ext.refl wr).alloc _).drew
          have HB9 : Hid (RowB (wr.alloc (.cells #[.int .i64 0, .int .i64 0] 37)).drew wr.heap.size 37 [.int .i64 0, .int .i64 0]) := Lib.hid ((row_laid _ _ _).ext (Ext.refl _).drew)
          refine hKK _ _ X9 ?_
          clear hKK KK
          try simp only [Act.put, List.setIfInBounds_toArray, List.set_cons_succ, List.set_cons_zero]
          refine wpAnyC_one 10 (by kernel_rfl) rfl (by kernel_rfl) (fun KK hKK => ?_)
          have y0 := HB9.out.cell (j := 0) rfl
          have y1 := HB9.out.cell (j := 1) rfl
          have z0 := HB9.out.frozen (j := 0) (by simp)
          have z1 := HB9.out.frozen (j := 1) (by simp)
          go_simp
          have XE : Ext wr (wr.alloc (.cells #[.int .i64 (max F 0), .int .i64 (min T (c : Int))] 37)).drew := ((Ext.refl wr).alloc _).drew
          have HBE : Hid (RowB (wr.alloc (.cells #[.int .i64 (max F 0), .int .i64 (min T (c : Int))] 37)).drew wr.heap.size 37 [.int .i64 (max F 0), .int .i64 (min T (c : Int))]) := Lib.hid ((row_laid _ _ _).ext (Ext.refl _).drew)
          refine hKK _ _ XE ?_
          clear hKK KK y0 y1 z0 z1
          refine ⟨by kernel_rfl, ?_⟩
          have HCOV := Lib.hid (coverR_any ((HO.out.ext XE).at) HLV.out (by rw [pcr_length]; exact Nat.le_trans (pcs_length f t HTC.out.2) (by omega)) (max F 0) (min T (c : Int)) true (fun _ => ⟨fun _ o h1 h2 => pcs_cov HTC.out.1 o (by have := HF.out; omega) (by have := HT0.out; omega), fun _ => rfl⟩) (fun _ => rfl))
          have HXE := Lib.hid (HXW.out.trans XE)
          have e0 := HBE.out.cell (j := 0) rfl
          have e1 := HBE.out.cell (j := 1) rfl
          go_wp2_with (go_at_call 31; refine HCOV.out.mono ?_; rintro e w12 ⟨rfl, hx12⟩)
          go_ret
          exact ⟨rfl, HXE.out.trans hx12⟩
        · refine wpOpC_of rfl (by kernel_rfl) (fun KK hKK => ?_)
          go_simp
          have X9 : Ext wr (wr.alloc (.cells #[.int .i64 0, .int .i64 0] 37)).drew := ((Ext.refl wr).alloc _).drew
          have HB9 : Hid (RowB (wr.alloc (.cells #[.int .i64 0, .int .i64 0] 37)).drew wr.heap.size 37 [.int .i64 0, .int .i64 0]) := Lib.hid ((row_laid _ _ _).ext (Ext.refl _).drew)
          refine hKK _ _ X9 ?_
          clear hKK KK
          try simp only [Act.put, List.setIfInBounds_toArray, List.set_cons_succ, List.set_cons_zero]
          refine wpAnyC_one 6 (by kernel_rfl) rfl (by kernel_rfl) (fun KK hKK => ?_)
          go_simp
          refine (HCLP.out _).mono ?_
          rintro e wt ⟨rfl, rfl⟩
          refine hKK _ _ X9 ?_
          clear hKK KK
          try simp only [Act.put, List.setIfInBounds_toArray, List.set_cons_succ, List.set_cons_zero]
          refine wpAnyC_take (i := 7) (v := .int .i64 (min T (c : Int))) rfl (by kernel_rfl) (by kernel_rfl) (by kernel_rfl) (fun _ _ _ h => h) X9 (by kernel_rfl) ?_ ?_
          · intro W hW; go_simp; try (with_reducible rfl)
          try simp only [Act.put, List.setIfInBounds_toArray]
          refine wpAnyC_take (i := 8) (v := .agg #[.int .i64 (max F 0), .int .i64 (min T (c : Int))]) rfl (by kernel_rfl) (by kernel_rfl) (by kernel_rfl) (fun _ _ _ h => h) X9 (by kernel_rfl) ?_ ?_
          · intro W hW; go_simp; try (with_reducible rfl)
          try simp only [Act.put]
          refine wpAnyC_one 10 (by kernel_rfl) rfl (by kernel_rfl) (fun KK hKK => ?_)
          have y0 := HB9.out.cell (j := 0) rfl
          have y1 := HB9.out.cell (j := 1) rfl
          have z0 := HB9.out.frozen (j := 0) (by simp)
          have z1 := HB9.out.frozen (j := 1) (by simp)
          go_simp
          have XE : Ext wr (wr.alloc (.cells #[.int .i64 (max F 0), .int .i64 (min T (c : Int))] 37)).drew := ((Ext.refl wr).alloc _).drew
          have HBE : Hid (RowB (wr.alloc (.cells #[.int .i64 (max F 0), .int .i64 (min T (c : Int))] 37)).drew wr.heap.size 37 [.int .i64 (max F 0), .int .i64 (min T (c : Int))]) := Lib.hid ((row_laid _ _ _).ext (Ext.refl _).drew)
          refine hKK _ _ XE ?_
          clear hKK KK y0 y1 z0 z1
          refine ⟨by kernel_rfl, ?_⟩
          have HCOV := Lib.hid (coverR_any ((HO.out.ext XE).at) HLV.out (by rw [pcr_length]; exact Nat.le_trans (pcs_length f t HTC.out.2) (by omega)) (max F 0) (min T (c : Int)) true (fun _ => ⟨fun _ o h1 h2 => pcs_cov HTC.out.1 o (by have := HF.out; omega) (by have := HT0.out; omega), fun _ => rfl⟩) (fun _ => rfl))
          have HXE := Lib.hid (HXW.out.trans XE)
          have e0 := HBE.out.cell (j := 0) rfl
          have e1 := HBE.out.cell (j := 1) rfl
          go_wp2_with (go_at_call 31; refine HCOV.out.mono ?_; rintro e w12 ⟨rfl, hx12⟩)
          go_ret
          exact ⟨rfl, HXE.out.trans hx12⟩
end Go.Proofs.YteamnofooicbeaaDoor
