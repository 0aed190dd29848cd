/- Chapter 09: the law RangesMerges. -/
import Derived.Test.YteamnofooicbeaaDoorRmM
import Derived.Test.YteamnofooicbeaaDoorRgO
namespace Go.Proofs.YteamnofooicbeaaDoor
open Go.RowKit
set_option maxRecDepth 100000 in
set_option maxHeartbeats 4000000 in
theorem merges_law {w : World} {v : Value} {xs : List (Int × Int)} (h : RIn w v xs) (hM : MaxL w) :
    Calls Tryd.prog 8 #[v] w fun e w' => e = .returned (.bool true) ∧ Ext w w' := by
  have HAW := Lib.hid (fun W (hW : Ext w W) => awake_any W (hM.ext hW))
  have HIN := Lib.hid h
  obtain ⟨A, cap, rfl, hcap, -⟩ := h
  obtain ⟨n, hxn⟩ : ∃ n, xs.length = n := ⟨_, rfl⟩
  have HN := Lib.hid hxn
  rw [hxn] at hcap HIN ⊢
  clear hxn hM
  by_cases hs : n ≤ 40
  · have hs' : ¬ (40 : Int) < (n : Int) := by omega
    have HOF := Lib.hid (fun W (hW : Ext w W) => of_any (HIN.out.ext hW) (by rw [HN.out]; omega))
    have HM9 := Lib.hid (fun W (hW : Ext w W) => merge9_any (HIN.out.ext hW) (by rw [HN.out]; omega))
    go_enter Tryd.func8, Tryd.ntmps8
    go_upto_region 3 with (go_at_call 12; refine (HAW.out _ (Ext.refl w)).mono ?_; rintro e w1 ⟨rfl, hx1⟩)
    go_upto_region 4 with (first
      | (go_at_call 24; refine (HOF.out _ hx1).mono ?_; rintro e w2 ⟨v2, rfl, hx2, ho2, hn2⟩)
      | (go_at_call 28; refine (mergeR_any ho2.at hn2 (by rw [HN.out]; omega)).mono ?_; rintro e w3 ⟨v3, ys, rfl, hx3, hperm, hsort, ho3, hn3⟩))
    have hlen : (mg ys).length ≤ 40 := Nat.le_trans (mg_length ys) (by rw [hperm.length_eq, HN.out]; exact hs)
    have HX3 := Lib.hid ((hx1.trans hx2).trans hx3)
    have HO3 := Lib.hid ho3
    clear hx1 hx2 hx3 ho2 hn2
    go_upto_region 5 with (go_at_call 28; refine (mergeR_any HO3.out.at hn3 (by omega)).mono ?_; rintro e w4 ⟨v4, zs, rfl, hx4, hpz, hsz, ho4, -⟩)
    have HS4 := Lib.hid (show mg ys = mg9 xs from mg_same hperm hsort)
    have HS5 := Lib.hid (show mg zs = mg9 xs by rw [mg_again hsort hpz hsz]; exact HS4.out)
    obtain ⟨M, hMM⟩ : ∃ M, mg9 xs = M := ⟨_, rfl⟩
    have HF := Lib.hid (mg9_facts xs)
    rw [HS4.out, hMM] at hlen HO3
    rw [HS5.out, hMM] at ho4
    rw [hMM] at HF HM9
    have HX4 := Lib.hid (HX3.out.trans hx4)
    have HG := Lib.hid (HO3.out.ext hx4)
    have HA := Lib.hid ho4
    obtain ⟨m, hm⟩ : ∃ m, M.length = m := ⟨_, rfl⟩
    have HMM := Lib.hid hm
    obtain ⟨A3, cap3, rfl, hc3⟩ := HO3.out.parts
    rw [hm] at hc3 hlen HG ⊢
    clear hMM hm hx4 ho3 ho4 hperm hsort hpz hsz HO3 HS4 HS5 HOF hn3
    go_wp2_with fail
    go_loopw [22] (fun i wr => ∃ k : Nat, k ≤ m ∧ i = .int .i64 k ∧ Ext w4 wr) (fun i _ => m - (intOf i).toNat)
    case atStart => exact ⟨0, by omega, rfl, Ext.refl _⟩
    case round =>
      obtain ⟨k, hk, rfl, hX⟩ := hrel
      by_cases hlt : k < m
      · have hki : (k : Int) < (m : Int) := by omega
        have hk6 : (k : Int) < 301 := by omega
        have hkc : k < cap3 := by omega
        obtain ⟨⟨f, t⟩, hr⟩ : ∃ r, M[k]? = some r := ⟨_, List.getElem?_eq_getElem (by rw [HMM.out]; exact hlt)⟩
        have hat : RAt wr (.slice A3 m cap3) M := HG.out.at.ext hX
        obtain ⟨g3, rfl, c0, c1⟩ := hat.cells hr
        simp only at c0 c1
        have hft : f < t := HF.out.2.1 _ (List.mem_of_getElem? hr)
        have q1 : decide (t ≤ f) = false := decide_eq_false (by omega)
        clear hft
        rcases Nat.eq_zero_or_pos k with h0 | h0
        · subst h0
          clear hat hr
          go_upto_region 8 with fail
          refine wp_region_quiet_lit (by kernel_rfl) (by kernel_rfl) ?_
          repeat (go_big_quiet_step (fail))
          refine wpQuiet_nil ?_
          rintro _ ⟨nq, rfl⟩
          go_wp2_with fail
          go_roundw
          case rel => exact ⟨1, by omega, by go_num, (hX.alloc _).drewN _⟩
          case measure => simp [intOf]; omega
        · obtain ⟨j, rfl⟩ : ∃ j, k = j + 1 := ⟨k - 1, by omega⟩
          obtain ⟨⟨a, b⟩, hx⟩ : ∃ r, M[j]? = some r := ⟨_, List.getElem?_eq_getElem (by rw [HMM.out]; omega)⟩
          obtain ⟨g3', e3, d0, d1⟩ := hat.cells hx
          obtain rfl : g3 = g3' := by simpa using e3
          simp only at d0 d1
          have hbf : b < f := by
            have h1 := (List.getElem?_eq_some_iff.1 hr)
            have h2 := (List.getElem?_eq_some_iff.1 hx)
            obtain ⟨i1, e1⟩ := h1
            obtain ⟨i2, e2⟩ := h2
            have := List.pairwise_iff_getElem.1 HF.out.1 j (j + 1) i2 i1 (by omega)
            rw [e1, e2] at this
            exact this
          have q2 : decide (f ≤ b) = false := decide_eq_false (by omega)
          have x1 : ∀ o q, ((wr.alloc o).drewN q).cell? ⟨g3, j * 2 + 1, none⟩ = some (.int .i64 b) := fun o q => (((Ext.refl wr).alloc o).drewN q).cell d1
          have x2 : ∀ o, (wr.alloc o).cell? ⟨g3, j * 2 + 1, none⟩ = some (.int .i64 b) := fun o => ((Ext.refl wr).alloc o).cell d1
          have j1 : (j : Int) + 1 - 1 = (j : Int) := by omega
          have j2 : IntKind.i64.wrap (j : Int) = (j : Int) := IntWalk.i64_in (j : Int) (by omega)
          have j3 : decide ((0 : Int) < (j : Int) + 1) = true := by rw [decide_eq_true_iff]; omega
          have j4 : (j : Int) < (m : Int) := by omega
          have j5 : j < m := by omega
          clear hat hr hx hbf e3 d0
          go_upto_region 8 with fail
          refine wp_region_quiet_lit (by kernel_rfl) (by kernel_rfl) ?_
          repeat (go_big_quiet_step (fail))
          refine wpQuiet_nil ?_
          rintro _ ⟨nq, rfl⟩
          go_wp2_with fail
          go_roundw
          case rel => exact ⟨j + 1 + 1, by omega, by go_num, (hX.alloc _).drewN _⟩
          case measure => simp [intOf]; omega
      · obtain rfl : k = m := by omega
        have HXW := Lib.hid (HX4.out.trans hX)
        have HGW := Lib.hid (HG.out.ext hX)
        have HAW2 := Lib.hid (HA.out.ext hX)
        clear hX
        go_wp2_with (first
          | (go_at_call 29; refine (HM9.out _ (HXW.out.trans (hx5.trans hx6))).mono ?_; rintro e w7 ⟨v7, rfl, hx7, ho7⟩; (have HE2 : Hid (Calls Tryd.prog 16 #[v4, v7] w7 fun e w' => e = .returned (.bool true) ∧ Ext w7 w') := Lib.hid (by have h := are_any (HAW2.out.ext ((hx5.trans hx6).trans hx7)).at ho7.at (by rw [HMM.out]; omega); rwa [(decide_eq_true rfl : decide (M = M) = true)] at h)))
          | (go_at_call 29; refine (HM9.out _ HXW.out).mono ?_; rintro e w5 ⟨v5, rfl, hx5, ho5⟩; (have HE1 : Hid (Calls Tryd.prog 16 #[.slice A3 k cap3, v5] w5 fun e w' => e = .returned (.bool true) ∧ Ext w5 w') := Lib.hid (by have h := are_any (HGW.out.ext hx5).at ho5.at (by rw [HMM.out]; omega); rwa [(decide_eq_true rfl : decide (M = M) = true)] at h)))
          | (go_at_call 16; refine HE2.out.mono ?_; rintro e w8 ⟨rfl, hx8⟩)
          | (go_at_call 16; refine HE1.out.mono ?_; rintro e w6 ⟨rfl, hx6⟩))
        go_ret
        exact ⟨rfl, HXW.out.trans (((hx5.trans hx6).trans hx7).trans hx8)⟩
  · have hs' : (40 : Int) < (n : Int) := by omega
    go_enter Tryd.func8, Tryd.ntmps8
    go_upto_region 2 with (go_at_call 12; refine (HAW.out _ (Ext.refl w)).mono ?_; rintro e w1 ⟨rfl, hx1⟩)
    go_wp2_with (go_at_call 12; refine (HAW.out _ hx1).mono ?_; rintro e w2 ⟨rfl, hx2⟩)
    go_ret
    exact ⟨rfl, hx1.trans hx2⟩
end Go.Proofs.YteamnofooicbeaaDoor
