/- Chapter 09: Pieces of a range (program and reference), and Ints. -/
import Derived.Test.YteamnofooicbeaaDoorRpA
namespace Go.Proofs.YteamnofooicbeaaDoor
open Go.RowKit
theorem IntsOwn.cell {w : World} {B : Nat} {v : Value} {xs : List Nat} (h : IntsOwn w B v xs) (i : Nat) (hi : i < xs.length) :
    ∃ g cap, v = .slice (some ⟨g, 0, none⟩) xs.length cap ∧ xs.length ≤ cap ∧ B ≤ g ∧ g < w.heap.size ∧ w.cell? ⟨g, i, none⟩ = some (.int .i64 ((xs[i]? ).getD 0 : Nat)) := by
  rcases h.2 with ⟨_, e⟩ | ⟨g, cap, cur, rfl, hb, hh, hl, hm, hc, ht⟩
  · omega
  · refine ⟨g, cap, rfl, hl, hb, (Array.getElem?_eq_some_iff.1 hh).1, ?_⟩
    rw [cell_of_row w g i cur _ _ hh]
    have h1 : (cur.toList.take (xs.length * 1))[i]? = some (Value.int .i64 (((xs[i]?).getD 0 : Nat) : Int)) := by
      rw [ht, List.getElem?_map, List.getElem?_eq_getElem hi]
      rfl
    rw [List.getElem?_take] at h1
    simpa [hi] using h1
theorem IntsOwn.shape {w : World} {B : Nat} {v : Value} {xs : List Nat} (h : IntsOwn w B v xs) : ∃ A cap, v = .slice A xs.length cap ∧ xs.length ≤ cap ∧ (A = none → xs.length = 0) := by
  rcases h.2 with ⟨rfl, e⟩ | ⟨g, cap, cur, rfl, hb, hh, hl, hm, hc, ht⟩
  · exact ⟨none, 0, by rw [e], by omega, fun _ => e⟩
  · exact ⟨_, cap, rfl, hl, fun e => by cases e⟩
theorem IntsOwn.more {w : World} {B B' : Nat} {v : Value} {xs : List Nat} (h : IntsOwn w B v xs) (hb : B' ≤ B) : IntsOwn w B' v xs := by
  refine ⟨h.1, ?_⟩
  rcases h.2 with ⟨rfl, e⟩ | ⟨g, cap, cur, rfl, hg, r⟩
  · exact .inl ⟨rfl, e⟩
  · exact .inr ⟨g, cap, cur, rfl, by omega, r⟩
theorem pcs_length (f t : Nat) (ht : t ≤ 65536) : (pcs f t).length ≤ 256 := by
  unfold pcs
  split
  · simp; omega
  · simp
set_option maxRecDepth 100000 in
set_option maxHeartbeats 4000000 in
theorem pieces_any (F T len : Int) (c f t : Nat) (hc : (c : Int) = max 0 (min len 65536)) (hf : (f : Int) = max 0 F) (hF : F ≤ 9223372036854775807) (ht : t = (min T c).toNat) (w : World) :
    Calls Tryd.prog 32 #[rngV F T, .int .i64 len] w fun e w' => ∃ v, e = .returned v ∧ Ext w w' ∧ IntsOwn w' w.heap.size v (pcs f t) := by
  obtain ⟨i0, hi0, hz0, hz1, hz2⟩ := info_parts int_info
  have hfm : (f : Int) ≤ 9223372036854775807 := by omega
  have hm1 : max 0 F = (f : Int) := hf.symm
  clear hf
  have HC := Lib.hid hc
  have hm2 : (min T (c : Int)) ≤ 65536 := by omega
  clear hc
  obtain ⟨u, hu⟩ : ∃ u : Int, min T (c : Int) = u := ⟨_, rfl⟩
  rw [hu] at hm2 ht
  have HU := Lib.hid (show (f : Int) < u ↔ f < t by omega)
  have HT := Lib.hid ht
  clear ht
  go_enter Tryd.func32, Tryd.ntmps32
  go_upto_region 1 with fail
  have c0 : ∀ n : Wd (w.alloc (.cells #[.int .i64 F, .int .i64 T] 37)), n.val.cell? ⟨w.heap.size, 0, none⟩ = some (.int .i64 F) := fun n => n.ext.cell (by simp)
  have c1 : ∀ n : Wd (w.alloc (.cells #[.int .i64 F, .int .i64 T] 37)), n.val.cell? ⟨w.heap.size, 1, none⟩ = some (.int .i64 T) := fun n => n.ext.cell (by simp)
  refine wp_region_wd (by kernel_rfl) (by kernel_rfl) ?_
  repeat (first | go_big_quiet_step ((go_at_call 69; exact Calls.wd_of_same (clip_all len c HC.out _))) | (refine wpQuiet_max rfl _ _ _ rfl .i64 .i64 0 F rfl rfl ?_; rw [hm1]; simp only [Act.put, List.setIfInBounds_toArray, List.set_cons_succ, List.set_cons_zero]) | (refine wpQuiet_min rfl _ _ _ rfl .i64 .i64 T c rfl rfl ?_; rw [hu]; simp only [Act.put, List.setIfInBounds_toArray, List.set_cons_succ, List.set_cons_zero]))
  refine wpQuiet_nil ?_
  rintro _ ⟨nq, rfl⟩
  have X := nq.ext
  obtain ⟨q, hq⟩ : ∃ q, q = f / 256 := ⟨_, rfl⟩
  have hq1 : (f : Int) / 256 = (q : Int) := by omega
  have hq2 : (q : Int) ≤ 36028797018963967 := by omega
  have HQ := Lib.hid hq
  clear hF hm1 hfm hq
  all_goals go_wp2_with fail
  go_loopw [7, 8] (fun v i wr => ∃ k : Nat, k ≤ (pcs f t).length ∧ i = .int .i64 (q + k : Nat) ∧ IntsOwn wr w.heap.size v (List.range' q k) ∧ Ext w wr) (fun _ i _ => (pcs f t).length - ((intOf i).toNat - q))
  case atStart => exact ⟨0, by omega, rfl, World.ownsRow_nil _ _ _ _, ((Ext.refl w).alloc _).trans X⟩
  case round =>
    obtain ⟨k, hk, rfl, hown, hX⟩ := hrel
    by_cases hft : f < t
    · have hcc : (pcs f t).length = (t + 255) / 256 - q := by unfold pcs; rw [if_pos hft, HQ.out]; simp
      have g1 : (f : Int) < u := HU.out.2 hft
      have hsz := hX.size
      by_cases hlt : k < (pcs f t).length
      · have g2 : ((q + k : Nat) : Int) * 256 < u := by have := HQ.out; have := HT.out; omega
        have g3 : q + k ≤ 256 := by have := HQ.out; have := HT.out; omega
        have HK := Lib.hid hlt
        clear hlt
        have HCC := Lib.hid hcc
        clear hcc
        go_wp2_with (at_builtin; refine wpList_append_int wr rfl _ _ rfl w.heap.size (q + k) _ hown (by simp) rfl rfl (by simp; omega) hsz ?_)
        intro v' w1 hown' hb
        rw [show List.range' q k ++ [q + k] = List.range' q (k + 1) by rw [List.range'_concat]; simp] at hown'
        go_wp2_with fail
        go_roundw
        case rel => exact ⟨k + 1, HK.out, by go_num, hown', Below.trans hX hb⟩
        case measure => have := HK.out; simp [intOf]; omega
      · obtain rfl : k = (pcs f t).length := by omega
        have g2 : ¬ ((q + (pcs f t).length : Nat) : Int) * 256 < u := by have := HQ.out; have := HT.out; omega
        have hp : List.range' q (pcs f t).length = pcs f t := by
          rw [hcc]; unfold pcs; rw [if_pos hft, HQ.out]
        rw [hp] at hown
        have g3 : q + (pcs f t).length ≤ 512 := by have := HQ.out; have := HT.out; omega
        clear hlt hk hp
        generalize (pcs f t).length = cc at hcc g2 g3
        have HCC := Lib.hid hcc
        clear hcc
        go_wp2_with fail
        go_ret
        exact ⟨_, rfl, hX, hown⟩
    · have hcc : pcs f t = [] := by unfold pcs; rw [if_neg hft]
      have g1 : ¬ (f : Int) < u := fun h => hft (HU.out.1 h)
      rw [hcc] at hk
      obtain rfl : k = 0 := by simpa using hk
      rw [show List.range' q 0 = pcs f t from hcc.symm] at hown
      clear hcc
      go_wp2_with fail
      go_ret
      exact ⟨_, rfl, hX, hown⟩
/-- a slice that reads as a list of ints -/
def IntsIn (w : World) (v : Value) (xs : List Nat) : Prop := ∃ A cap, v = .slice A xs.length cap ∧ xs.length ≤ cap ∧ ∀ i, i < xs.length → ∃ g, A = some ⟨g, 0, none⟩ ∧ w.cell? ⟨g, i, none⟩ = some (.int .i64 ((xs[i]?).getD 0 : Nat))
theorem IntsOwn.reads {w : World} {B : Nat} {v : Value} {xs : List Nat} (h : IntsOwn w B v xs) : IntsIn w v xs := by
  obtain ⟨A, cap, rfl, hc, hn⟩ := h.shape
  refine ⟨A, cap, rfl, hc, fun i hi => ?_⟩
  obtain ⟨g, cap', e1, e2, e3, e4, e5⟩ := h.cell i hi
  simp only [Value.slice.injEq, true_and] at e1
  exact ⟨g, e1.1, e5⟩
theorem IntsIn.ext {w w' : World} {v : Value} {xs : List Nat} (h : IntsIn w v xs) (hx : Ext w w') : IntsIn w' v xs := by
  obtain ⟨A, cap, h1, h2, h3⟩ := h
  exact ⟨A, cap, h1, h2, fun i hi => by
    obtain ⟨g, e1, e2⟩ := h3 i hi
    exact ⟨g, e1, hx.cell e2⟩⟩
set_option maxRecDepth 100000 in
theorem ints_any {w : World} {v u : Value} {xs ys : List Nat} (h : IntsIn w v xs) (k : IntsIn w u ys) (hn : xs.length ≤ 1000000) (hm : ys.length ≤ 1000000) :
    Calls Tryd.prog 35 #[v, u] w fun e w' => e = .returned (.bool (decide (xs = ys))) ∧ Ext w w' := by
  obtain ⟨A, cap, rfl, hc, hcell⟩ := h
  obtain ⟨A', cap', rfl, hc', hcell'⟩ := k
  obtain ⟨n, hxn⟩ : ∃ n, xs.length = n := ⟨_, rfl⟩
  obtain ⟨m, hym⟩ : ∃ m, ys.length = m := ⟨_, rfl⟩
  rw [hxn] at hc hn hcell ⊢
  rw [hym] at hc' hm hcell' ⊢
  by_cases hnm : n = m
  · subst hnm
    have HXN := Lib.hid hxn
    have HYM := Lib.hid hym
    clear hxn hym
    go_enter Tryd.func35, Tryd.ntmps35
    go_wp2_with fail
    go_loopw [13] (fun i wr => ∃ k : Nat, k ≤ n ∧ i = .int .i64 k ∧ Ext w wr ∧ ∀ j, j < k → xs[j]? = ys[j]?) (fun i _ => n - (intOf i).toNat)
    case atStart => exact ⟨0, by omega, rfl, Ext.refl w, fun j hj => by omega⟩
    case round =>
      obtain ⟨k, hk, rfl, hX, hall⟩ := hrel
      by_cases hlt : k < n
      · obtain ⟨g, rfl, hg⟩ := hcell k hlt
        obtain ⟨g', rfl, hg'⟩ := hcell' k hlt
        have hki : (k : Int) < (n : Int) := by omega
        obtain ⟨x, hx⟩ : ∃ x, xs[k]? = some x := ⟨_, List.getElem?_eq_getElem (by rw [HXN.out]; exact hlt)⟩
        obtain ⟨y, hy⟩ : ∃ y, ys[k]? = some y := ⟨_, List.getElem?_eq_getElem (by rw [HYM.out]; exact hlt)⟩
        rw [hx, Option.getD_some] at hg
        rw [hy, Option.getD_some] at hg'
        have hgw : ∀ q, (wr.drewN q).cell? ⟨g, k, none⟩ = some (.int .i64 x) := fun q => (hX.drewN q).cell hg
        have hgw' : ∀ q, (wr.drewN q).cell? ⟨g', k, none⟩ = some (.int .i64 y) := fun q => (hX.drewN q).cell hg'
        have hgw1 := hX.cell hg
        have hgw1' := hX.cell hg'
        by_cases hxy : x = y
        · subst hxy
          have hall2 : ∀ j, j < k + 1 → xs[j]? = ys[j]? := by
            intro j hj
            by_cases e : j = k
            · rw [e, hx, hy]
            · exact hall j (by omega)
          have HA := Lib.hid hall2
          have q1 : ((x : Int) != (x : Int)) = false := by simp
          clear hall hall2 hx hy hcell hcell' hg hg'
          go_upto_region 6 with fail
          refine wp_region_quiet_lit (by kernel_rfl) (by kernel_rfl) ?_
          repeat (go_big_quiet_step (fail))
          refine wpQuiet_nil ?_
          rintro _ ⟨nq, rfl⟩
          go_wp2_with fail
          go_roundw
          case rel => exact ⟨k + 1, by omega, by go_num, hX.drewN _, HA.out⟩
          case measure => simp [intOf]; omega
        · have q1 : ((x : Int) != (y : Int)) = true := by rw [bne_iff_ne]; omega
          have hres : decide (xs = ys) = false := by
            rw [decide_eq_false_iff_not]
            intro e
            rw [e, hy] at hx
            exact hxy (Option.some.inj hx).symm
          have HRES := Lib.hid hres
          clear hall hx hy hcell hcell' hg hg' hxy hres
          go_upto_region 6 with fail
          refine wp_region_quiet_lit (by kernel_rfl) (by kernel_rfl) ?_
          repeat (go_big_quiet_step (fail))
          refine wpQuiet_nil ?_
          rintro _ ⟨nq, rfl⟩
          go_wp2_with fail
          go_ret
          exact ⟨ret_bool HRES.out.symm, hX.drewN _⟩
      · obtain rfl : k = n := by omega
        have hres : decide (xs = ys) = true := by
          rw [decide_eq_true_iff]
          apply List.ext_getElem?
          intro j
          by_cases hj : j < k
          · exact hall j hj
          · rw [List.getElem?_eq_none (by rw [HXN.out]; omega), List.getElem?_eq_none (by rw [HYM.out]; omega)]
        clear hall hcell hcell'
        go_wp2_with fail
        go_ret
        exact ⟨ret_bool hres.symm, hX⟩
  · have q1 : ((n : Int) != (m : Int)) = true := by rw [bne_iff_ne]; omega
    have hres : decide (xs = ys) = false := by
      rw [decide_eq_false_iff_not]
      intro e
      rw [e, hym] at hxn
      exact hnm hxn.symm
    clear hxn hym hcell hcell' hnm
    go_enter Tryd.func35, Tryd.ntmps35
    go_wp2_with fail
    go_ret
    exact ⟨ret_bool hres.symm, Ext.refl w⟩
theorem pcs_nil (f : Nat) : pcs f 0 = [] := by unfold pcs; simp
set_option maxRecDepth 100000 in
theorem pcs_step (f t k : Nat) : pcs f (min t ((k + 1) * 256)) = pcs f (min t (k * 256)) ++ (if max f (k * 256) < min t ((k + 1) * 256) then [k] else []) := by
  by_cases h : max f (k * 256) < min t ((k + 1) * 256)
  · rw [if_pos h]
    have e1 : min t (k * 256) = k * 256 := by omega
    rw [e1]
    unfold pcs
    rw [if_pos (by omega)]
    by_cases h2 : f < k * 256
    · rw [if_pos h2, show (min t ((k + 1) * 256) + 255) / 256 - f / 256 = ((k * 256 + 255) / 256 - f / 256) + 1 by omega, List.range'_concat]
      rw [show f / 256 + 1 * ((k * 256 + 255) / 256 - f / 256) = k by omega]
    · rw [if_neg h2, show (min t ((k + 1) * 256) + 255) / 256 - f / 256 = 1 by omega, show f / 256 = k by omega]
      rfl
  · rw [if_neg h, List.append_nil]
    unfold pcs
    by_cases h2 : f < min t ((k + 1) * 256)
    · rw [if_pos h2, if_pos (by omega), show min t ((k + 1) * 256) = min t (k * 256) by omega]
    · rw [if_neg h2, if_neg (by omega)]
set_option maxRecDepth 100000 in
set_option maxHeartbeats 4000000 in
theorem rpieces_any (F T len : Int) (c f t : Nat) (hc : (c : Int) = max 0 (min len 65536)) (hf : (f : Int) = max 0 F) (ht : t = (min T c).toNat) (w : World) :
    Calls Tryd.prog 36 #[rngV F T, .int .i64 len] w fun e w' => ∃ v, e = .returned v ∧ Ext w w' ∧ IntsOwn w' w.heap.size v (pcs f t) := by
  have HC := Lib.hid hc
  have hl : c ≤ 65536 := by omega
  clear hc
  have HF := Lib.hid hf
  have HT := Lib.hid ht
  clear hf ht
  obtain ⟨w0, hw0⟩ : ∃ w0, w0 = w.alloc (.cells #[.int .i64 F, .int .i64 T] 43) := ⟨_, rfl⟩
  have HR := Lib.hid (show RowB w0 w.heap.size 43 [.int .i64 F, .int .i64 T] by rw [hw0]; exact row_laid _ _ _)
  have X0 : Ext w w0 := by rw [hw0]; exact (Ext.refl w).alloc _
  go_enter Tryd.func36, Tryd.ntmps36
  go_upto_region 1 with fail
  rw [← hw0]
  clear hw0
  go_wp2_with fail
  go_loopw [5, 9] (fun v i wr => ∃ k : Nat, k ≤ 257 ∧ i = .int .i64 k ∧ IntsOwn wr w0.heap.size v (pcs f (min t (k * 256))) ∧ Ext w0 wr) (fun _ i _ => 257 - (intOf i).toNat)
  case atStart => exact ⟨0, by omega, rfl, by rw [show min t (0 * 256) = 0 by omega, pcs_nil]; exact World.ownsRow_nil _ _ _ _, Ext.refl _⟩
  case round =>
    obtain ⟨k, hk, rfl, hown, hX⟩ := hrel
    have hsz := hX.size
    by_cases hlt : k < 257
    · have HS := Lib.hid (pcs_step f t k)
      have HL := Lib.hid (show (pcs f (min t (k * 256))).length ≤ 1000 from Nat.le_trans (pcs_length _ _ (by have := HT.out; omega)) (by omega))
      by_cases hkl : k * 256 < c
      · have HP := Lib.hid (fun W => piece9_yes k len c HC.out hkl W)
        have g1 : F < (k * 256 : Nat) ∨ ¬ F < (k * 256 : Nat) := by omega
        have g2 : T < (pto k c : Nat) ∨ ¬ T < (pto k c : Nat) := by omega
        have HU := Lib.hid (show max f (k * 256) < min t ((k + 1) * 256) ↔ max ((k : Int) * 256) F < min ((pto k c : Nat) : Int) T by have := HF.out; have := HT.out; unfold pto; omega)
        have hpl : pto k c ≤ 65536 := by unfold pto; omega
        go_upto_region 6 with (first | (go_at_call 34; refine (HP.out _).mono ?_; rintro e w1 ⟨rfl, hx⟩))
        obtain ⟨w2, hw2⟩ : ∃ w2, w2 = w1.alloc (.cells #[.int .i64 ((k : Int) * 256), .int .i64 (pto k c : Nat)] 43) := ⟨_, rfl⟩
        have hR2 : RowB w2 w1.heap.size 43 [.int .i64 ((k : Int) * 256), .int .i64 (pto k c : Nat)] := by rw [hw2]; exact row_laid _ _ _
        have hX2 : Ext w1 w2 := by rw [hw2]; exact (Ext.refl w1).alloc _
        rw [← hw2]
        clear hw2
        have c0 := (HR.out.ext ((hX.trans hx).trans hX2)).cell (j := 0) rfl
        have c1 := (HR.out.ext ((hX.trans hx).trans hX2)).cell (j := 1) rfl
        have d0 := hR2.cell (j := 0) rfl
        have d1 := hR2.cell (j := 1) rfl
        have hXo := (hX.trans hx).trans hX2
        have hown1 : IntsOwn w2 w0.heap.size _ (pcs f (min t (k * 256))) := own_kept hown (hx.trans hX2)
        have hsz1 : w0.heap.size ≤ w2.heap.size := by have := hX2.size; have := hx.size; omega
        by_cases hcm : max ((k : Int) * 256) F < min ((pto k c : Nat) : Int) T
        · have HO := Lib.hid (show pcs f (min t (k * 256)) ++ [k] = pcs f (min t ((k + 1) * 256)) by rw [HS.out, if_pos (HU.out.2 hcm)])
          go_wp2_with (at_builtin; refine wpList_append_int w2 rfl _ _ rfl w0.heap.size k _ hown1 rfl rfl rfl (by have := HL.out; omega) hsz1 ?_)
          intro v' w3 hown' hb
          rw [HO.out] at hown'
          go_wp2_with fail
          go_roundw
          case rel => exact ⟨k + 1, by omega, by go_num, hown', Below.trans hXo hb⟩
          case measure => simp [intOf]; omega
        · have HO := Lib.hid (show pcs f (min t (k * 256)) = pcs f (min t ((k + 1) * 256)) by rw [HS.out, if_neg (fun h => hcm (HU.out.1 h)), List.append_nil])
          go_wp2_with fail
          go_roundw
          case rel => exact ⟨k + 1, by omega, by go_num, by rw [← HO.out]; exact hown1, hXo⟩
          case measure => simp [intOf]; omega
      · have HP := Lib.hid (fun W => piece9_no (k : Int) len c HC.out (.inr (by omega)) W)
        have HO := Lib.hid (show pcs f (min t (k * 256)) = pcs f (min t ((k + 1) * 256)) by rw [HS.out, if_neg (by have := HT.out; omega), List.append_nil])
        clear hkl
        go_wp2_with (go_at_call 34; refine (HP.out _).mono ?_; rintro e w1 ⟨rfl, hx⟩)
        go_roundw
        case rel => exact ⟨k + 1, by omega, by go_num, by rw [← HO.out]; exact own_kept hown (hx.alloc _), (hX.trans hx).alloc _⟩
        case measure => simp [intOf]; omega
    · obtain rfl : k = 257 := by omega
      have HO := Lib.hid (show min t (257 * 256) = t by have := HT.out; omega)
      rw [HO.out] at hown
      go_wp2_with fail
      go_ret
      exact ⟨_, rfl, X0.trans hX, hown.more X0.size⟩
end Go.Proofs.YteamnofooicbeaaDoor
