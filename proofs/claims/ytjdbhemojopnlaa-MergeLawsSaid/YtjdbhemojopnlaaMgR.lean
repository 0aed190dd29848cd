/- Chapter 52: the reference's Gaps. -/
import Derived.Test.YtjdbhemojopnlaaMgQ
namespace Go.Proofs.Ytjdbhemojopnlaa
open Go.RowKit Go.Maps
set_option maxRecDepth 100000 in
set_option maxHeartbeats 4000000 in
theorem rgaps_any {w : World} {v : Value} {r : List Ent} (h : EnsAt w v r) (hn : r.length ≤ 1000) (hgd : ∀ x ∈ r, x.good) :
    Calls Try.prog 14 #[v] w fun e w' => ∃ u, e = .returned u ∧ GpsAt w' u (gps none r) ∧ Ext w w' := by
  obtain ⟨A, cap, rfl, hr⟩ := h.parts
  clear h
  obtain ⟨n, hxn⟩ : ∃ n, r.length = n := ⟨_, rfl⟩
  have HN := Lib.hid hxn
  have HG := Lib.hid hgd
  rw [hxn] at hn hr ⊢
  clear hxn hgd
  go_enter Try.func14, Try.ntmps14
  go_wp2_with fail
  go_loopw [3, 8] (fun o i wr => ∃ k : Nat, k ≤ n ∧ i = .int .i64 k ∧ GpOwn wr w.heap.size o (gps none (r.take k)) ∧ Ext w wr) (fun _ i _ => n - (intOf i).toNat)
  case atStart => exact ⟨0, by omega, rfl, GpOwn.nil _ _, Ext.refl w⟩
  case round =>
    obtain ⟨k, hk, rfl, hO, hX⟩ := hrel
    by_cases hlt : k < n
    · obtain ⟨g, off, rfl, hg⟩ := hr (by omega)
      obtain ⟨x, hx⟩ : ∃ x, r[k]? = some x := ⟨r[k]'(by rw [HN.out]; exact hlt), by simp⟩
      have hki : (k : Int) < (n : Int) := by omega
      have hk6 : (k : Int) < 1001 := by omega
      have hTK : r.take (k + 1) = r.take k ++ [x] := by rw [List.take_add_one, hx]; rfl
      have HST : Hid (gps none (r.take (k + 1)) = gps none (r.take k) ++ gapOf (lastE none (r.take k)) x) := Lib.hid (by rw [hTK, gps_snoc])
      have hsq : 1 ≤ x.sq ∧ x.sq ≤ 1099511627776 := (HG.out x (List.mem_of_getElem? hx)).2.2.1
      have HCK := Lib.hid (fun j u hj => hg k x hx j u hj)
      have HOL : Hid ((gps none (r.take k)).length ≤ 1000) := Lib.hid (by have := gps_len none (r.take k); have : (r.take k).length ≤ k := List.length_take_le _ _; omega)
      have HOO := Lib.hid hO
      have HPR : Hid (∀ m y, k = m + 1 → r[m]? = some y → lastE none (r.take k) = some y) := Lib.hid (fun m y hm hy => by rw [hm]; exact lastE_take hy)
      have HGG := Lib.hid hg
      clear hx hr hTK hO hg
      rcases Nat.eq_zero_or_pos k with hk0 | hk0
      · have HL0 : Hid (lastS (lastE none (r.take k)) x = 0) := Lib.hid (by rw [hk0]; rfl)
        subst hk0
        have HCX : Hid (∀ j u, x.cs[j]? = some u → w.cell? ⟨g, off + j, none⟩ = some u) := Lib.hid (fun j u hj => by have := HCK.out j u hj; simpa using this)
        have a0 := fun q => ((fun q => cells7 (w := wr.drewN q) (fun j u hj => (hX.drewN q).cell (HCX.out j u hj))) q).1
        have a1 := fun q => ((fun q => cells7 (w := wr.drewN q) (fun j u hj => (hX.drewN q).cell (HCX.out j u hj))) q).2.1
        have a2 := fun q => ((fun q => cells7 (w := wr.drewN q) (fun j u hj => (hX.drewN q).cell (HCX.out j u hj))) q).2.2.1
        have a3 := fun q => ((fun q => cells7 (w := wr.drewN q) (fun j u hj => (hX.drewN q).cell (HCX.out j u hj))) q).2.2.2.1
        have a4 := fun q => ((fun q => cells7 (w := wr.drewN q) (fun j u hj => (hX.drewN q).cell (HCX.out j u hj))) q).2.2.2.2.1
        have a5 := fun q => ((fun q => cells7 (w := wr.drewN q) (fun j u hj => (hX.drewN q).cell (HCX.out j u hj))) q).2.2.2.2.2.1
        have a6 := fun q => ((fun q => cells7 (w := wr.drewN q) (fun j u hj => (hX.drewN q).cell (HCX.out j u hj))) q).2.2.2.2.2.2
        go_upto_region 6 with fail
        refine wp_region_quiet_lit (by kernel_rfl) (by kernel_rfl) ?_
        repeat (go_big_quiet_step (fail))
        refine wpQuiet_nil ?_
        rintro _ ⟨nq, rfl⟩
        clear a0 a1 a2 a3 a4 a5 a6
        obtain ⟨wz, hwz⟩ : ∃ wz, wz = wr.drewN nq := ⟨_, rfl⟩
        have XZ : Ext wr wz := by rw [hwz]; exact (Ext.refl wr).drewN nq
        rw [← hwz]
        clear hwz
        have HXZ := Lib.hid (hX.trans XZ)
        have HOZ := Lib.hid (HOO.out.kept (XZ.grown none) (fun k e => by cases e))
        have hsz : w.heap.size ≤ wz.heap.size := HXZ.out.size
        clear XZ
        have c0 := fun q => ((fun q => cells7 (w := wz.drewN q) (fun j u hj => (HXZ.out.drewN q).cell (HCX.out j u hj))) q).1
        have c1 := fun q => ((fun q => cells7 (w := wz.drewN q) (fun j u hj => (HXZ.out.drewN q).cell (HCX.out j u hj))) q).2.1
        have c2 := fun q => ((fun q => cells7 (w := wz.drewN q) (fun j u hj => (HXZ.out.drewN q).cell (HCX.out j u hj))) q).2.2.1
        have c3 := fun q => ((fun q => cells7 (w := wz.drewN q) (fun j u hj => (HXZ.out.drewN q).cell (HCX.out j u hj))) q).2.2.2.1
        have c4 := fun q => ((fun q => cells7 (w := wz.drewN q) (fun j u hj => (HXZ.out.drewN q).cell (HCX.out j u hj))) q).2.2.2.2.1
        have c5 := fun q => ((fun q => cells7 (w := wz.drewN q) (fun j u hj => (HXZ.out.drewN q).cell (HCX.out j u hj))) q).2.2.2.2.2.1
        have c6 := fun q => ((fun q => cells7 (w := wz.drewN q) (fun j u hj => (HXZ.out.drewN q).cell (HCX.out j u hj))) q).2.2.2.2.2.2
        obtain ⟨e0, e1, e2, e3, e4, e5, e6⟩ := cells7 (w := wz) (fun j u hj => HXZ.out.cell (HCX.out j u hj))
        have w1' : wrap64 (0 + 1) = 0 + 1 := by unfold wrap64; omega
        have w2' : wrap64 (x.sq - 1) = x.sq - 1 := by unfold wrap64; omega
        by_cases hgap : 1 < x.sq
        · go_upto_region 9 with fail
          clear e0 e1 e2 e3 e4 e5 e6
          have v1' : IntKind.i64.wrap 1 = 1 := by decide
          have v2' : IntKind.i64.wrap (x.sq - 1) = x.sq - 1 := by simp [IntKind.wrap, IntKind.bits, IntKind.signed]; omega
          refine wp_region_C (C := fun w' => Ext w w') (by kernel_rfl) ?_
          have HN1 := Lib.hid (show Ext w wz.drew from HXZ.out.drew)
          refine wpAnyC_take (i := 0) (v := u3) rfl (by kernel_rfl) (by kernel_rfl) (by kernel_rfl) (fun _ _ _ h => h) HN1.out (by kernel_rfl) ?_ ?_
          · intro W hW; go_simp; all_goals first | (with_reducible rfl) | (intro hneg; exfalso; omega)
          change wpAnyC _ _ _ _ _ _ _ (Act.put _ (some 55) (u3)) _
          try simp only [Act.put, List.setIfInBounds_toArray, List.set_cons_succ, List.set_cons_zero]
          refine wpAnyC_take (i := 1) (v := .slice (some ⟨g, off, none⟩) n cap) rfl (by kernel_rfl) (by kernel_rfl) (by kernel_rfl) (fun _ _ _ h => h) HN1.out (by kernel_rfl) ?_ ?_
          · intro W hW; go_simp; all_goals first | (with_reducible rfl) | (intro hneg; exfalso; omega)
          change wpAnyC _ _ _ _ _ _ _ (Act.put _ (some 56) (.slice (some ⟨g, off, none⟩) n cap)) _
          try simp only [Act.put, List.setIfInBounds_toArray, List.set_cons_succ, List.set_cons_zero]
          refine wpAnyC_take (i := 2) (v := .int .i64 0) rfl (by kernel_rfl) (by kernel_rfl) (by kernel_rfl) (fun _ _ _ h => h) HN1.out (by kernel_rfl) ?_ ?_
          · intro W hW; go_simp; all_goals first | (with_reducible rfl) | (intro hneg; exfalso; omega)
          change wpAnyC _ _ _ _ _ _ _ (Act.put _ (some 57) (.int .i64 0)) _
          try simp only [Act.put, List.setIfInBounds_toArray, List.set_cons_succ, List.set_cons_zero]
          refine wpAnyC_take (i := 3) (v := .pointer (some ⟨g, off, none⟩)) rfl (by kernel_rfl) (by kernel_rfl) (by kernel_rfl) (fun _ _ _ h => h) HN1.out (by kernel_rfl) ?_ ?_
          · intro W hW; go_simp; all_goals first | (with_reducible rfl) | (intro hneg; exfalso; omega)
          change wpAnyC _ _ _ _ _ _ _ (Act.put _ (some 58) (.pointer (some ⟨g, off, none⟩))) _
          try simp only [Act.put, List.setIfInBounds_toArray, List.set_cons_succ, List.set_cons_zero]
          refine wpAnyC_take (i := 4) (v := .pointer (some ⟨g, off, none⟩)) rfl (by kernel_rfl) (by kernel_rfl) (by kernel_rfl) (fun _ _ _ h => h) HN1.out (by kernel_rfl) ?_ ?_
          · intro W hW; go_simp; all_goals first | (with_reducible rfl) | (intro hneg; exfalso; omega)
          change wpAnyC _ _ _ _ _ _ _ (Act.put _ (some 59) (.pointer (some ⟨g, off, none⟩))) _
          try simp only [Act.put, List.setIfInBounds_toArray, List.set_cons_succ, List.set_cons_zero]
          refine wpAnyC_take (i := 5) (v := .string x.nd) rfl (by kernel_rfl) (by kernel_rfl) (by kernel_rfl) (fun _ _ _ h => h) HN1.out (by kernel_rfl) ?_ ?_
          · intro W hW; obtain ⟨z0, z1, z2, -⟩ := cells7 (w := W) (fun j u hj => hW.cell (HCX.out j u hj)); go_simp; all_goals first | (with_reducible rfl) | (intro hneg; exfalso; omega)
          change wpAnyC _ _ _ _ _ _ _ (Act.put _ (some 60) (.string x.nd)) _
          try simp only [Act.put, List.setIfInBounds_toArray, List.set_cons_succ, List.set_cons_zero]
          refine wpAnyC_take (i := 6) (v := .slice (some ⟨g, off, none⟩) n cap) rfl (by kernel_rfl) (by kernel_rfl) (by kernel_rfl) (fun _ _ _ h => h) HN1.out (by kernel_rfl) ?_ ?_
          · intro W hW; go_simp; all_goals first | (with_reducible rfl) | (intro hneg; exfalso; omega)
          change wpAnyC _ _ _ _ _ _ _ (Act.put _ (some 61) (.slice (some ⟨g, off, none⟩) n cap)) _
          try simp only [Act.put, List.setIfInBounds_toArray, List.set_cons_succ, List.set_cons_zero]
          refine wpAnyC_take (i := 7) (v := .int .i64 0) rfl (by kernel_rfl) (by kernel_rfl) (by kernel_rfl) (fun _ _ _ h => h) HN1.out (by kernel_rfl) ?_ ?_
          · intro W hW; go_simp; all_goals first | (with_reducible rfl) | (intro hneg; exfalso; omega)
          change wpAnyC _ _ _ _ _ _ _ (Act.put _ (some 62) (.int .i64 0)) _
          try simp only [Act.put, List.setIfInBounds_toArray, List.set_cons_succ, List.set_cons_zero]
          refine wpAnyC_take (i := 8) (v := .pointer (some ⟨g, off, none⟩)) rfl (by kernel_rfl) (by kernel_rfl) (by kernel_rfl) (fun _ _ _ h => h) HN1.out (by kernel_rfl) ?_ ?_
          · intro W hW; go_simp; all_goals first | (with_reducible rfl) | (intro hneg; exfalso; omega)
          change wpAnyC _ _ _ _ _ _ _ (Act.put _ (some 63) (.pointer (some ⟨g, off, none⟩))) _
          try simp only [Act.put, List.setIfInBounds_toArray, List.set_cons_succ, List.set_cons_zero]
          refine wpAnyC_take (i := 9) (v := .pointer (some ⟨g, off + 1, none⟩)) rfl (by kernel_rfl) (by kernel_rfl) (by kernel_rfl) (fun _ _ _ h => h) HN1.out (by kernel_rfl) ?_ ?_
          · intro W hW; go_simp; all_goals first | (with_reducible rfl) | (intro hneg; exfalso; omega)
          change wpAnyC _ _ _ _ _ _ _ (Act.put _ (some 64) (.pointer (some ⟨g, off + 1, none⟩))) _
          try simp only [Act.put, List.setIfInBounds_toArray, List.set_cons_succ, List.set_cons_zero]
          refine wpAnyC_take (i := 10) (v := .int .i64 x.bt) rfl (by kernel_rfl) (by kernel_rfl) (by kernel_rfl) (fun _ _ _ h => h) HN1.out (by kernel_rfl) ?_ ?_
          · intro W hW; obtain ⟨z0, z1, z2, -⟩ := cells7 (w := W) (fun j u hj => hW.cell (HCX.out j u hj)); go_simp; all_goals first | (with_reducible rfl) | (intro hneg; exfalso; omega)
          change wpAnyC _ _ _ _ _ _ _ (Act.put _ (some 65) (.int .i64 x.bt)) _
          try simp only [Act.put, List.setIfInBounds_toArray, List.set_cons_succ, List.set_cons_zero]
          refine wpAnyC_take (i := 11) (v := .int .i64 0) rfl (by kernel_rfl) (by kernel_rfl) (by kernel_rfl) (fun _ _ _ h => h) HN1.out (by kernel_rfl) ?_ ?_
          · intro W hW; go_simp; all_goals first | (with_reducible rfl) | (intro hneg; exfalso; omega)
          change wpAnyC _ _ _ _ _ _ _ (Act.put _ (some 66) (.int .i64 0)) _
          try simp only [Act.put, List.setIfInBounds_toArray, List.set_cons_succ, List.set_cons_zero]
          refine wpAnyC_take (i := 12) (v := .int .i64 (1)) rfl (by kernel_rfl) (by kernel_rfl) (by kernel_rfl) (fun _ _ _ h => h) HN1.out (by kernel_rfl) ?_ ?_
          · intro W hW; go_simp; all_goals first | (with_reducible rfl) | (intro hneg; exfalso; omega)
          change wpAnyC _ _ _ _ _ _ _ (Act.put _ (some 67) (.int .i64 (1))) _
          try simp only [Act.put, List.setIfInBounds_toArray, List.set_cons_succ, List.set_cons_zero]
          refine wpAnyC_take (i := 13) (v := .slice (some ⟨g, off, none⟩) n cap) rfl (by kernel_rfl) (by kernel_rfl) (by kernel_rfl) (fun _ _ _ h => h) HN1.out (by kernel_rfl) ?_ ?_
          · intro W hW; go_simp; all_goals first | (with_reducible rfl) | (intro hneg; exfalso; omega)
          change wpAnyC _ _ _ _ _ _ _ (Act.put _ (some 68) (.slice (some ⟨g, off, none⟩) n cap)) _
          try simp only [Act.put, List.setIfInBounds_toArray, List.set_cons_succ, List.set_cons_zero]
          refine wpAnyC_take (i := 14) (v := .int .i64 0) rfl (by kernel_rfl) (by kernel_rfl) (by kernel_rfl) (fun _ _ _ h => h) HN1.out (by kernel_rfl) ?_ ?_
          · intro W hW; go_simp; all_goals first | (with_reducible rfl) | (intro hneg; exfalso; omega)
          change wpAnyC _ _ _ _ _ _ _ (Act.put _ (some 69) (.int .i64 0)) _
          try simp only [Act.put, List.setIfInBounds_toArray, List.set_cons_succ, List.set_cons_zero]
          refine wpAnyC_take (i := 15) (v := .pointer (some ⟨g, off, none⟩)) rfl (by kernel_rfl) (by kernel_rfl) (by kernel_rfl) (fun _ _ _ h => h) HN1.out (by kernel_rfl) ?_ ?_
          · intro W hW; go_simp; all_goals first | (with_reducible rfl) | (intro hneg; exfalso; omega)
          change wpAnyC _ _ _ _ _ _ _ (Act.put _ (some 70) (.pointer (some ⟨g, off, none⟩))) _
          try simp only [Act.put, List.setIfInBounds_toArray, List.set_cons_succ, List.set_cons_zero]
          refine wpAnyC_take (i := 16) (v := .pointer (some ⟨g, off + 2, none⟩)) rfl (by kernel_rfl) (by kernel_rfl) (by kernel_rfl) (fun _ _ _ h => h) HN1.out (by kernel_rfl) ?_ ?_
          · intro W hW; go_simp; all_goals first | (with_reducible rfl) | (intro hneg; exfalso; omega)
          change wpAnyC _ _ _ _ _ _ _ (Act.put _ (some 71) (.pointer (some ⟨g, off + 2, none⟩))) _
          try simp only [Act.put, List.setIfInBounds_toArray, List.set_cons_succ, List.set_cons_zero]
          refine wpAnyC_take (i := 17) (v := .int .i64 x.sq) rfl (by kernel_rfl) (by kernel_rfl) (by kernel_rfl) (fun _ _ _ h => h) HN1.out (by kernel_rfl) ?_ ?_
          · intro W hW; obtain ⟨z0, z1, z2, -⟩ := cells7 (w := W) (fun j u hj => hW.cell (HCX.out j u hj)); go_simp; all_goals first | (with_reducible rfl) | (intro hneg; exfalso; omega)
          change wpAnyC _ _ _ _ _ _ _ (Act.put _ (some 72) (.int .i64 x.sq)) _
          try simp only [Act.put, List.setIfInBounds_toArray, List.set_cons_succ, List.set_cons_zero]
          refine wpAnyC_take (i := 18) (v := .int .i64 (x.sq - 1)) rfl (by kernel_rfl) (by kernel_rfl) (by kernel_rfl) (fun _ _ _ h => h) HN1.out (by kernel_rfl) ?_ ?_
          · intro W hW; go_simp; all_goals first | (with_reducible rfl) | (intro hneg; exfalso; omega)
          change wpAnyC _ _ _ _ _ _ _ (Act.put _ (some 73) (.int .i64 (x.sq - 1))) _
          try simp only [Act.put, List.setIfInBounds_toArray, List.set_cons_succ, List.set_cons_zero]
          refine wpAnyC_take (i := 19) (v := .agg #[.string x.nd, .int .i64 x.bt, .int .i64 (1), .int .i64 (x.sq - 1)]) rfl (by kernel_rfl) (by kernel_rfl) (by kernel_rfl) (fun _ _ _ h => h) HN1.out (by kernel_rfl) ?_ ?_
          · intro W hW; go_simp; all_goals first | (with_reducible rfl) | (intro hneg; exfalso; omega)
          change wpAnyC _ _ _ _ _ _ _ (Act.put _ (some 74) (.agg #[.string x.nd, .int .i64 x.bt, .int .i64 (1), .int .i64 (x.sq - 1)])) _
          try simp only [Act.put, List.setIfInBounds_toArray, List.set_cons_succ, List.set_cons_zero]
          refine wpAnyC_one 20 (by kernel_rfl) rfl (by kernel_rfl) (fun KK hKK => ?_)
          go_simp
          refine hKK _ _ (Ext.alloc HN1.out _) ?_
          clear hKK KK
          try simp only [Act.put, List.setIfInBounds_toArray, List.set_cons_succ, List.set_cons_zero]
          refine wpAnyC_one 21 (by kernel_rfl) rfl (by kernel_rfl) (fun KK hKK => ?_)
          refine wp_append_gap _ (.tmp 55) (.tmp 75) rfl w.heap.size ⟨x.nd, x.bt, 1, x.sq - 1⟩ (HOZ.out.kept (((Ext.refl wz).drew).grown none) (fun k e => by cases e)) rfl rfl (by simp) (by have := HOL.out; omega) (by simpa using hsz) ?_
          intro v' w9 hO9 hB9 _
          refine hKK _ _ (HN1.out.below.trans hB9) ?_
          clear hKK KK
          try simp only [Act.put, List.setIfInBounds_toArray]
          refine wpAnyC_one 22 (by kernel_rfl) rfl (by kernel_rfl) (fun KK hKK => ?_)
          go_simp
          refine hKK _ _ (HN1.out.below.trans hB9) ?_
          clear hKK KK
          try simp only [Act.put, List.setIfInBounds_toArray, List.set_cons_succ, List.set_cons_zero]
          refine ⟨by kernel_rfl, ?_⟩
          go_wp2_with fail
          go_roundw
          case rel =>
            refine ⟨0 + 1, by omega, by go_num, ?_, HN1.out.below.trans hB9⟩
            rw [HST.out]
            have hg : gapOf (lastE none (r.take 0)) x = [⟨x.nd, x.bt, 1, x.sq - 1⟩] := by unfold gapOf; rw [HL0.out]; exact if_pos (by omega)
            rw [hg]
            exact hO9
          case measure => simp [intOf]; omega
        · go_wp2_with fail
          go_roundw
          case rel =>
            refine ⟨0 + 1, by omega, by go_num, ?_, HXZ.out⟩
            rw [HST.out]
            have hg : gapOf (lastE none (r.take 0)) x = [] := by unfold gapOf; rw [HL0.out]; exact if_neg (by omega)
            rw [hg, List.append_nil]
            exact HOZ.out
          case measure => simp [intOf]; omega
      · obtain ⟨m, rfl⟩ : ∃ m, k = m + 1 := ⟨k - 1, by omega⟩
        obtain ⟨y, hy⟩ : ∃ y, r[m]? = some y := ⟨r[m]'(by have := HN.out; omega), by simp⟩
        have hlast := HPR.out m y rfl hy
        have hysq := (HG.out y (List.mem_of_getElem? hy)).2.2.1
        have HLA := Lib.hid hlast
        have HCY := Lib.hid (fun j u hj => HGG.out m y hy j u hj)
        have hm1 : (m : Int) < (n : Int) := by omega
        have hki0 : (0 : Int) < (m : Int) + 1 := by omega
        have hw0 : wrap64 ((m : Int) + 1 - 1) = (m : Int) := by unfold wrap64; omega
        have HCX := HCK
        have a0 := fun q => ((fun q => cells7 (w := wr.drewN q) (fun j u hj => (hX.drewN q).cell (HCX.out j u hj))) q).1
        have a1 := fun q => ((fun q => cells7 (w := wr.drewN q) (fun j u hj => (hX.drewN q).cell (HCX.out j u hj))) q).2.1
        have a2 := fun q => ((fun q => cells7 (w := wr.drewN q) (fun j u hj => (hX.drewN q).cell (HCX.out j u hj))) q).2.2.1
        have a3 := fun q => ((fun q => cells7 (w := wr.drewN q) (fun j u hj => (hX.drewN q).cell (HCX.out j u hj))) q).2.2.2.1
        have a4 := fun q => ((fun q => cells7 (w := wr.drewN q) (fun j u hj => (hX.drewN q).cell (HCX.out j u hj))) q).2.2.2.2.1
        have a5 := fun q => ((fun q => cells7 (w := wr.drewN q) (fun j u hj => (hX.drewN q).cell (HCX.out j u hj))) q).2.2.2.2.2.1
        have a6 := fun q => ((fun q => cells7 (w := wr.drewN q) (fun j u hj => (hX.drewN q).cell (HCX.out j u hj))) q).2.2.2.2.2.2
        have b0 := fun q => ((fun q => cells7 (w := wr.drewN q) (fun j u hj => (hX.drewN q).cell (HCY.out j u hj))) q).1
        have b1 := fun q => ((fun q => cells7 (w := wr.drewN q) (fun j u hj => (hX.drewN q).cell (HCY.out j u hj))) q).2.1
        have b2 := fun q => ((fun q => cells7 (w := wr.drewN q) (fun j u hj => (hX.drewN q).cell (HCY.out j u hj))) q).2.2.1
        have b3 := fun q => ((fun q => cells7 (w := wr.drewN q) (fun j u hj => (hX.drewN q).cell (HCY.out j u hj))) q).2.2.2.1
        have b4 := fun q => ((fun q => cells7 (w := wr.drewN q) (fun j u hj => (hX.drewN q).cell (HCY.out j u hj))) q).2.2.2.2.1
        have b5 := fun q => ((fun q => cells7 (w := wr.drewN q) (fun j u hj => (hX.drewN q).cell (HCY.out j u hj))) q).2.2.2.2.2.1
        have b6 := fun q => ((fun q => cells7 (w := wr.drewN q) (fun j u hj => (hX.drewN q).cell (HCY.out j u hj))) q).2.2.2.2.2.2
        clear hy hlast
        cases hnd : (y.nd.toList == x.nd.toList) with
        | false =>
          have HL0 : Hid (lastS (lastE none (r.take (m + 1))) x = 0) := Lib.hid (by
            rw [HLA.out]
            unfold lastS
            exact if_neg (fun h => by rw [h.1] at hnd; simp at hnd))
          go_upto_region 6 with fail
          refine wp_region_quiet_lit (by kernel_rfl) (by kernel_rfl) ?_
          repeat (go_big_quiet_step (fail))
          refine wpQuiet_nil ?_
          rintro _ ⟨nq, rfl⟩
          clear a0 a1 a2 a3 a4 a5 a6 b0 b1 b2 b3 b4 b5 b6
          obtain ⟨wz, hwz⟩ : ∃ wz, wz = wr.drewN nq := ⟨_, rfl⟩
          have XZ : Ext wr wz := by rw [hwz]; exact (Ext.refl wr).drewN nq
          rw [← hwz]
          clear hwz
          have HXZ := Lib.hid (hX.trans XZ)
          have HOZ := Lib.hid (HOO.out.kept (XZ.grown none) (fun k e => by cases e))
          have hsz : w.heap.size ≤ wz.heap.size := HXZ.out.size
          clear XZ
          obtain ⟨e0, e1, e2, e3, e4, e5, e6⟩ := cells7 (w := wz) (fun j u hj => HXZ.out.cell (HCX.out j u hj))
          have w1' : wrap64 (0 + 1) = 0 + 1 := by unfold wrap64; omega
          have w2' : wrap64 (x.sq - 1) = x.sq - 1 := by unfold wrap64; omega
          by_cases hgap : 1 < x.sq
          · go_upto_region 9 with fail
            clear e0 e1 e2 e3 e4 e5 e6
            have v1' : IntKind.i64.wrap (1) = 1 := by simp [IntKind.wrap, IntKind.bits, IntKind.signed]
            have v2' : IntKind.i64.wrap (x.sq - 1) = x.sq - 1 := by simp [IntKind.wrap, IntKind.bits, IntKind.signed]; omega
            refine wp_region_C (C := fun w' => Ext w w') (by kernel_rfl) ?_
            have HN1 := Lib.hid (show Ext w wz.drew from HXZ.out.drew)
            refine wpAnyC_take (i := 0) (v := u3) rfl (by kernel_rfl) (by kernel_rfl) (by kernel_rfl) (fun _ _ _ h => h) HN1.out (by kernel_rfl) ?_ ?_
            · intro W hW; go_simp; all_goals first | (with_reducible rfl) | (intro hneg; exfalso; omega)
            change wpAnyC _ _ _ _ _ _ _ (Act.put _ (some 55) (u3)) _
            try simp only [Act.put, List.setIfInBounds_toArray, List.set_cons_succ, List.set_cons_zero]
            refine wpAnyC_take (i := 1) (v := .slice (some ⟨g, off, none⟩) n cap) rfl (by kernel_rfl) (by kernel_rfl) (by kernel_rfl) (fun _ _ _ h => h) HN1.out (by kernel_rfl) ?_ ?_
            · intro W hW; go_simp; all_goals first | (with_reducible rfl) | (intro hneg; exfalso; omega)
            change wpAnyC _ _ _ _ _ _ _ (Act.put _ (some 56) (.slice (some ⟨g, off, none⟩) n cap)) _
            try simp only [Act.put, List.setIfInBounds_toArray, List.set_cons_succ, List.set_cons_zero]
            refine wpAnyC_take (i := 2) (v := .int .i64 ((m : Int) + 1)) rfl (by kernel_rfl) (by kernel_rfl) (by kernel_rfl) (fun _ _ _ h => h) HN1.out (by kernel_rfl) ?_ ?_
            · intro W hW; go_simp; all_goals first | (with_reducible rfl) | (intro hneg; exfalso; omega)
            change wpAnyC _ _ _ _ _ _ _ (Act.put _ (some 57) (.int .i64 ((m : Int) + 1))) _
            try simp only [Act.put, List.setIfInBounds_toArray, List.set_cons_succ, List.set_cons_zero]
            refine wpAnyC_take (i := 3) (v := .pointer (some ⟨g, off + (m + 1) * 7, none⟩)) rfl (by kernel_rfl) (by kernel_rfl) (by kernel_rfl) (fun _ _ _ h => h) HN1.out (by kernel_rfl) ?_ ?_
            · intro W hW; go_simp; all_goals first | (with_reducible rfl) | (intro hneg; exfalso; omega)
            change wpAnyC _ _ _ _ _ _ _ (Act.put _ (some 58) (.pointer (some ⟨g, off + (m + 1) * 7, none⟩))) _
            try simp only [Act.put, List.setIfInBounds_toArray, List.set_cons_succ, List.set_cons_zero]
            refine wpAnyC_take (i := 4) (v := .pointer (some ⟨g, off + (m + 1) * 7, none⟩)) rfl (by kernel_rfl) (by kernel_rfl) (by kernel_rfl) (fun _ _ _ h => h) HN1.out (by kernel_rfl) ?_ ?_
            · intro W hW; go_simp; all_goals first | (with_reducible rfl) | (intro hneg; exfalso; omega)
            change wpAnyC _ _ _ _ _ _ _ (Act.put _ (some 59) (.pointer (some ⟨g, off + (m + 1) * 7, none⟩))) _
            try simp only [Act.put, List.setIfInBounds_toArray, List.set_cons_succ, List.set_cons_zero]
            refine wpAnyC_take (i := 5) (v := .string x.nd) rfl (by kernel_rfl) (by kernel_rfl) (by kernel_rfl) (fun _ _ _ h => h) HN1.out (by kernel_rfl) ?_ ?_
            · intro W hW; obtain ⟨z0, z1, z2, -⟩ := cells7 (w := W) (fun j u hj => hW.cell (HCX.out j u hj)); go_simp; all_goals first | (with_reducible rfl) | (intro hneg; exfalso; omega)
            change wpAnyC _ _ _ _ _ _ _ (Act.put _ (some 60) (.string x.nd)) _
            try simp only [Act.put, List.setIfInBounds_toArray, List.set_cons_succ, List.set_cons_zero]
            refine wpAnyC_take (i := 6) (v := .slice (some ⟨g, off, none⟩) n cap) rfl (by kernel_rfl) (by kernel_rfl) (by kernel_rfl) (fun _ _ _ h => h) HN1.out (by kernel_rfl) ?_ ?_
            · intro W hW; go_simp; all_goals first | (with_reducible rfl) | (intro hneg; exfalso; omega)
            change wpAnyC _ _ _ _ _ _ _ (Act.put _ (some 61) (.slice (some ⟨g, off, none⟩) n cap)) _
            try simp only [Act.put, List.setIfInBounds_toArray, List.set_cons_succ, List.set_cons_zero]
            refine wpAnyC_take (i := 7) (v := .int .i64 ((m : Int) + 1)) rfl (by kernel_rfl) (by kernel_rfl) (by kernel_rfl) (fun _ _ _ h => h) HN1.out (by kernel_rfl) ?_ ?_
            · intro W hW; go_simp; all_goals first | (with_reducible rfl) | (intro hneg; exfalso; omega)
            change wpAnyC _ _ _ _ _ _ _ (Act.put _ (some 62) (.int .i64 ((m : Int) + 1))) _
            try simp only [Act.put, List.setIfInBounds_toArray, List.set_cons_succ, List.set_cons_zero]
            refine wpAnyC_take (i := 8) (v := .pointer (some ⟨g, off + (m + 1) * 7, none⟩)) rfl (by kernel_rfl) (by kernel_rfl) (by kernel_rfl) (fun _ _ _ h => h) HN1.out (by kernel_rfl) ?_ ?_
            · intro W hW; go_simp; all_goals first | (with_reducible rfl) | (intro hneg; exfalso; omega)
            change wpAnyC _ _ _ _ _ _ _ (Act.put _ (some 63) (.pointer (some ⟨g, off + (m + 1) * 7, none⟩))) _
            try simp only [Act.put, List.setIfInBounds_toArray, List.set_cons_succ, List.set_cons_zero]
            refine wpAnyC_take (i := 9) (v := .pointer (some ⟨g, off + (m + 1) * 7 + 1, none⟩)) rfl (by kernel_rfl) (by kernel_rfl) (by kernel_rfl) (fun _ _ _ h => h) HN1.out (by kernel_rfl) ?_ ?_
            · intro W hW; go_simp; all_goals first | (with_reducible rfl) | (intro hneg; exfalso; omega)
            change wpAnyC _ _ _ _ _ _ _ (Act.put _ (some 64) (.pointer (some ⟨g, off + (m + 1) * 7 + 1, none⟩))) _
            try simp only [Act.put, List.setIfInBounds_toArray, List.set_cons_succ, List.set_cons_zero]
            refine wpAnyC_take (i := 10) (v := .int .i64 x.bt) rfl (by kernel_rfl) (by kernel_rfl) (by kernel_rfl) (fun _ _ _ h => h) HN1.out (by kernel_rfl) ?_ ?_
            · intro W hW; obtain ⟨z0, z1, z2, -⟩ := cells7 (w := W) (fun j u hj => hW.cell (HCX.out j u hj)); go_simp; all_goals first | (with_reducible rfl) | (intro hneg; exfalso; omega)
            change wpAnyC _ _ _ _ _ _ _ (Act.put _ (some 65) (.int .i64 x.bt)) _
            try simp only [Act.put, List.setIfInBounds_toArray, List.set_cons_succ, List.set_cons_zero]
            refine wpAnyC_take (i := 11) (v := .int .i64 0) rfl (by kernel_rfl) (by kernel_rfl) (by kernel_rfl) (fun _ _ _ h => h) HN1.out (by kernel_rfl) ?_ ?_
            · intro W hW; go_simp; all_goals first | (with_reducible rfl) | (intro hneg; exfalso; omega)
            change wpAnyC _ _ _ _ _ _ _ (Act.put _ (some 66) (.int .i64 0)) _
            try simp only [Act.put, List.setIfInBounds_toArray, List.set_cons_succ, List.set_cons_zero]
            refine wpAnyC_take (i := 12) (v := .int .i64 (1)) rfl (by kernel_rfl) (by kernel_rfl) (by kernel_rfl) (fun _ _ _ h => h) HN1.out (by kernel_rfl) ?_ ?_
            · intro W hW; go_simp; all_goals first | (with_reducible rfl) | (intro hneg; exfalso; omega)
            change wpAnyC _ _ _ _ _ _ _ (Act.put _ (some 67) (.int .i64 (1))) _
            try simp only [Act.put, List.setIfInBounds_toArray, List.set_cons_succ, List.set_cons_zero]
            refine wpAnyC_take (i := 13) (v := .slice (some ⟨g, off, none⟩) n cap) rfl (by kernel_rfl) (by kernel_rfl) (by kernel_rfl) (fun _ _ _ h => h) HN1.out (by kernel_rfl) ?_ ?_
            · intro W hW; go_simp; all_goals first | (with_reducible rfl) | (intro hneg; exfalso; omega)
            change wpAnyC _ _ _ _ _ _ _ (Act.put _ (some 68) (.slice (some ⟨g, off, none⟩) n cap)) _
            try simp only [Act.put, List.setIfInBounds_toArray, List.set_cons_succ, List.set_cons_zero]
            refine wpAnyC_take (i := 14) (v := .int .i64 ((m : Int) + 1)) rfl (by kernel_rfl) (by kernel_rfl) (by kernel_rfl) (fun _ _ _ h => h) HN1.out (by kernel_rfl) ?_ ?_
            · intro W hW; go_simp; all_goals first | (with_reducible rfl) | (intro hneg; exfalso; omega)
            change wpAnyC _ _ _ _ _ _ _ (Act.put _ (some 69) (.int .i64 ((m : Int) + 1))) _
            try simp only [Act.put, List.setIfInBounds_toArray, List.set_cons_succ, List.set_cons_zero]
            refine wpAnyC_take (i := 15) (v := .pointer (some ⟨g, off + (m + 1) * 7, none⟩)) rfl (by kernel_rfl) (by kernel_rfl) (by kernel_rfl) (fun _ _ _ h => h) HN1.out (by kernel_rfl) ?_ ?_
            · intro W hW; go_simp; all_goals first | (with_reducible rfl) | (intro hneg; exfalso; omega)
            change wpAnyC _ _ _ _ _ _ _ (Act.put _ (some 70) (.pointer (some ⟨g, off + (m + 1) * 7, none⟩))) _
            try simp only [Act.put, List.setIfInBounds_toArray, List.set_cons_succ, List.set_cons_zero]
            refine wpAnyC_take (i := 16) (v := .pointer (some ⟨g, off + (m + 1) * 7 + 2, none⟩)) rfl (by kernel_rfl) (by kernel_rfl) (by kernel_rfl) (fun _ _ _ h => h) HN1.out (by kernel_rfl) ?_ ?_
            · intro W hW; go_simp; all_goals first | (with_reducible rfl) | (intro hneg; exfalso; omega)
            change wpAnyC _ _ _ _ _ _ _ (Act.put _ (some 71) (.pointer (some ⟨g, off + (m + 1) * 7 + 2, none⟩))) _
            try simp only [Act.put, List.setIfInBounds_toArray, List.set_cons_succ, List.set_cons_zero]
            refine wpAnyC_take (i := 17) (v := .int .i64 x.sq) rfl (by kernel_rfl) (by kernel_rfl) (by kernel_rfl) (fun _ _ _ h => h) HN1.out (by kernel_rfl) ?_ ?_
            · intro W hW; obtain ⟨z0, z1, z2, -⟩ := cells7 (w := W) (fun j u hj => hW.cell (HCX.out j u hj)); go_simp; all_goals first | (with_reducible rfl) | (intro hneg; exfalso; omega)
            change wpAnyC _ _ _ _ _ _ _ (Act.put _ (some 72) (.int .i64 x.sq)) _
            try simp only [Act.put, List.setIfInBounds_toArray, List.set_cons_succ, List.set_cons_zero]
            refine wpAnyC_take (i := 18) (v := .int .i64 (x.sq - 1)) rfl (by kernel_rfl) (by kernel_rfl) (by kernel_rfl) (fun _ _ _ h => h) HN1.out (by kernel_rfl) ?_ ?_
            · intro W hW; go_simp; all_goals first | (with_reducible rfl) | (intro hneg; exfalso; omega)
            change wpAnyC _ _ _ _ _ _ _ (Act.put _ (some 73) (.int .i64 (x.sq - 1))) _
            try simp only [Act.put, List.setIfInBounds_toArray, List.set_cons_succ, List.set_cons_zero]
            refine wpAnyC_take (i := 19) (v := .agg #[.string x.nd, .int .i64 x.bt, .int .i64 (1), .int .i64 (x.sq - 1)]) rfl (by kernel_rfl) (by kernel_rfl) (by kernel_rfl) (fun _ _ _ h => h) HN1.out (by kernel_rfl) ?_ ?_
            · intro W hW; go_simp; all_goals first | (with_reducible rfl) | (intro hneg; exfalso; omega)
            change wpAnyC _ _ _ _ _ _ _ (Act.put _ (some 74) (.agg #[.string x.nd, .int .i64 x.bt, .int .i64 (1), .int .i64 (x.sq - 1)])) _
            try simp only [Act.put, List.setIfInBounds_toArray, List.set_cons_succ, List.set_cons_zero]
            refine wpAnyC_one 20 (by kernel_rfl) rfl (by kernel_rfl) (fun KK hKK => ?_)
            go_simp
            refine hKK _ _ (Ext.alloc HN1.out _) ?_
            clear hKK KK
            try simp only [Act.put, List.setIfInBounds_toArray, List.set_cons_succ, List.set_cons_zero]
            refine wpAnyC_one 21 (by kernel_rfl) rfl (by kernel_rfl) (fun KK hKK => ?_)
            refine wp_append_gap _ (.tmp 55) (.tmp 75) rfl w.heap.size ⟨x.nd, x.bt, 1, x.sq - 1⟩ (HOZ.out.kept (((Ext.refl wz).drew).grown none) (fun k e => by cases e)) rfl rfl (by simp) (by have := HOL.out; omega) (by simpa using hsz) ?_
            intro v' w9 hO9 hB9 _
            refine hKK _ _ (HN1.out.below.trans hB9) ?_
            clear hKK KK
            try simp only [Act.put, List.setIfInBounds_toArray]
            refine wpAnyC_one 22 (by kernel_rfl) rfl (by kernel_rfl) (fun KK hKK => ?_)
            go_simp
            refine hKK _ _ (HN1.out.below.trans hB9) ?_
            clear hKK KK
            try simp only [Act.put, List.setIfInBounds_toArray, List.set_cons_succ, List.set_cons_zero]
            refine ⟨by kernel_rfl, ?_⟩
            go_wp2_with fail
            go_roundw
            case rel =>
              refine ⟨m + 1 + 1, by omega, by go_num, ?_, HN1.out.below.trans hB9⟩
              rw [HST.out]
              have hg : gapOf (lastE none (r.take (m + 1))) x = [⟨x.nd, x.bt, 1, x.sq - 1⟩] := by unfold gapOf; rw [HL0.out]; exact if_pos (by omega)
              rw [hg]
              exact hO9
            case measure => simp [intOf]; omega
          · go_wp2_with fail
            go_roundw
            case rel =>
              refine ⟨m + 1 + 1, by omega, by go_num, ?_, HXZ.out⟩
              rw [HST.out]
              have hg : gapOf (lastE none (r.take (m + 1))) x = [] := by unfold gapOf; rw [HL0.out]; exact if_neg (by omega)
              rw [hg, List.append_nil]
              exact HOZ.out
            case measure => simp [intOf]; omega
        | true =>
          cases hbt : (y.bt == x.bt) with
          | false =>
            have HL0 : Hid (lastS (lastE none (r.take (m + 1))) x = 0) := Lib.hid (by
              rw [HLA.out]
              unfold lastS
              exact if_neg (fun h => by rw [h.2] at hbt; simp at hbt))
            go_upto_region 6 with fail
            refine wp_region_quiet_lit (by kernel_rfl) (by kernel_rfl) ?_
            repeat (go_big_quiet_step (fail))
            refine wpQuiet_nil ?_
            rintro _ ⟨nq, rfl⟩
            clear a0 a1 a2 a3 a4 a5 a6 b0 b1 b2 b3 b4 b5 b6
            obtain ⟨wz, hwz⟩ : ∃ wz, wz = wr.drewN nq := ⟨_, rfl⟩
            have XZ : Ext wr wz := by rw [hwz]; exact (Ext.refl wr).drewN nq
            rw [← hwz]
            clear hwz
            have HXZ := Lib.hid (hX.trans XZ)
            have HOZ := Lib.hid (HOO.out.kept (XZ.grown none) (fun k e => by cases e))
            have hsz : w.heap.size ≤ wz.heap.size := HXZ.out.size
            clear XZ
            obtain ⟨e0, e1, e2, e3, e4, e5, e6⟩ := cells7 (w := wz) (fun j u hj => HXZ.out.cell (HCX.out j u hj))
            have w1' : wrap64 (0 + 1) = 0 + 1 := by unfold wrap64; omega
            have w2' : wrap64 (x.sq - 1) = x.sq - 1 := by unfold wrap64; omega
            by_cases hgap : 1 < x.sq
            · go_upto_region 9 with fail
              clear e0 e1 e2 e3 e4 e5 e6
              have v1' : IntKind.i64.wrap (1) = 1 := by simp [IntKind.wrap, IntKind.bits, IntKind.signed]
              have v2' : IntKind.i64.wrap (x.sq - 1) = x.sq - 1 := by simp [IntKind.wrap, IntKind.bits, IntKind.signed]; omega
              refine wp_region_C (C := fun w' => Ext w w') (by kernel_rfl) ?_
              have HN1 := Lib.hid (show Ext w wz.drew from HXZ.out.drew)
              refine wpAnyC_take (i := 0) (v := u3) rfl (by kernel_rfl) (by kernel_rfl) (by kernel_rfl) (fun _ _ _ h => h) HN1.out (by kernel_rfl) ?_ ?_
              · intro W hW; go_simp; all_goals first | (with_reducible rfl) | (intro hneg; exfalso; omega)
              change wpAnyC _ _ _ _ _ _ _ (Act.put _ (some 55) (u3)) _
              try simp only [Act.put, List.setIfInBounds_toArray, List.set_cons_succ, List.set_cons_zero]
              refine wpAnyC_take (i := 1) (v := .slice (some ⟨g, off, none⟩) n cap) rfl (by kernel_rfl) (by kernel_rfl) (by kernel_rfl) (fun _ _ _ h => h) HN1.out (by kernel_rfl) ?_ ?_
              · intro W hW; go_simp; all_goals first | (with_reducible rfl) | (intro hneg; exfalso; omega)
              change wpAnyC _ _ _ _ _ _ _ (Act.put _ (some 56) (.slice (some ⟨g, off, none⟩) n cap)) _
              try simp only [Act.put, List.setIfInBounds_toArray, List.set_cons_succ, List.set_cons_zero]
              refine wpAnyC_take (i := 2) (v := .int .i64 ((m : Int) + 1)) rfl (by kernel_rfl) (by kernel_rfl) (by kernel_rfl) (fun _ _ _ h => h) HN1.out (by kernel_rfl) ?_ ?_
              · intro W hW; go_simp; all_goals first | (with_reducible rfl) | (intro hneg; exfalso; omega)
              change wpAnyC _ _ _ _ _ _ _ (Act.put _ (some 57) (.int .i64 ((m : Int) + 1))) _
              try simp only [Act.put, List.setIfInBounds_toArray, List.set_cons_succ, List.set_cons_zero]
              refine wpAnyC_take (i := 3) (v := .pointer (some ⟨g, off + (m + 1) * 7, none⟩)) rfl (by kernel_rfl) (by kernel_rfl) (by kernel_rfl) (fun _ _ _ h => h) HN1.out (by kernel_rfl) ?_ ?_
              · intro W hW; go_simp; all_goals first | (with_reducible rfl) | (intro hneg; exfalso; omega)
              change wpAnyC _ _ _ _ _ _ _ (Act.put _ (some 58) (.pointer (some ⟨g, off + (m + 1) * 7, none⟩))) _
              try simp only [Act.put, List.setIfInBounds_toArray, List.set_cons_succ, List.set_cons_zero]
              refine wpAnyC_take (i := 4) (v := .pointer (some ⟨g, off + (m + 1) * 7, none⟩)) rfl (by kernel_rfl) (by kernel_rfl) (by kernel_rfl) (fun _ _ _ h => h) HN1.out (by kernel_rfl) ?_ ?_
              · intro W hW; go_simp; all_goals first | (with_reducible rfl) | (intro hneg; exfalso; omega)
              change wpAnyC _ _ _ _ _ _ _ (Act.put _ (some 59) (.pointer (some ⟨g, off + (m + 1) * 7, none⟩))) _
              try simp only [Act.put, List.setIfInBounds_toArray, List.set_cons_succ, List.set_cons_zero]
              refine wpAnyC_take (i := 5) (v := .string x.nd) rfl (by kernel_rfl) (by kernel_rfl) (by kernel_rfl) (fun _ _ _ h => h) HN1.out (by kernel_rfl) ?_ ?_
              · intro W hW; obtain ⟨z0, z1, z2, -⟩ := cells7 (w := W) (fun j u hj => hW.cell (HCX.out j u hj)); go_simp; all_goals first | (with_reducible rfl) | (intro hneg; exfalso; omega)
              change wpAnyC _ _ _ _ _ _ _ (Act.put _ (some 60) (.string x.nd)) _
              try simp only [Act.put, List.setIfInBounds_toArray, List.set_cons_succ, List.set_cons_zero]
              refine wpAnyC_take (i := 6) (v := .slice (some ⟨g, off, none⟩) n cap) rfl (by kernel_rfl) (by kernel_rfl) (by kernel_rfl) (fun _ _ _ h => h) HN1.out (by kernel_rfl) ?_ ?_
              · intro W hW; go_simp; all_goals first | (with_reducible rfl) | (intro hneg; exfalso; omega)
              change wpAnyC _ _ _ _ _ _ _ (Act.put _ (some 61) (.slice (some ⟨g, off, none⟩) n cap)) _
              try simp only [Act.put, List.setIfInBounds_toArray, List.set_cons_succ, List.set_cons_zero]
              refine wpAnyC_take (i := 7) (v := .int .i64 ((m : Int) + 1)) rfl (by kernel_rfl) (by kernel_rfl) (by kernel_rfl) (fun _ _ _ h => h) HN1.out (by kernel_rfl) ?_ ?_
              · intro W hW; go_simp; all_goals first | (with_reducible rfl) | (intro hneg; exfalso; omega)
              change wpAnyC _ _ _ _ _ _ _ (Act.put _ (some 62) (.int .i64 ((m : Int) + 1))) _
              try simp only [Act.put, List.setIfInBounds_toArray, List.set_cons_succ, List.set_cons_zero]
              refine wpAnyC_take (i := 8) (v := .pointer (some ⟨g, off + (m + 1) * 7, none⟩)) rfl (by kernel_rfl) (by kernel_rfl) (by kernel_rfl) (fun _ _ _ h => h) HN1.out (by kernel_rfl) ?_ ?_
              · intro W hW; go_simp; all_goals first | (with_reducible rfl) | (intro hneg; exfalso; omega)
              change wpAnyC _ _ _ _ _ _ _ (Act.put _ (some 63) (.pointer (some ⟨g, off + (m + 1) * 7, none⟩))) _
              try simp only [Act.put, List.setIfInBounds_toArray, List.set_cons_succ, List.set_cons_zero]
              refine wpAnyC_take (i := 9) (v := .pointer (some ⟨g, off + (m + 1) * 7 + 1, none⟩)) rfl (by kernel_rfl) (by kernel_rfl) (by kernel_rfl) (fun _ _ _ h => h) HN1.out (by kernel_rfl) ?_ ?_
              · intro W hW; go_simp; all_goals first | (with_reducible rfl) | (intro hneg; exfalso; omega)
              change wpAnyC _ _ _ _ _ _ _ (Act.put _ (some 64) (.pointer (some ⟨g, off + (m + 1) * 7 + 1, none⟩))) _
              try simp only [Act.put, List.setIfInBounds_toArray, List.set_cons_succ, List.set_cons_zero]
              refine wpAnyC_take (i := 10) (v := .int .i64 x.bt) rfl (by kernel_rfl) (by kernel_rfl) (by kernel_rfl) (fun _ _ _ h => h) HN1.out (by kernel_rfl) ?_ ?_
              · intro W hW; obtain ⟨z0, z1, z2, -⟩ := cells7 (w := W) (fun j u hj => hW.cell (HCX.out j u hj)); go_simp; all_goals first | (with_reducible rfl) | (intro hneg; exfalso; omega)
              change wpAnyC _ _ _ _ _ _ _ (Act.put _ (some 65) (.int .i64 x.bt)) _
              try simp only [Act.put, List.setIfInBounds_toArray, List.set_cons_succ, List.set_cons_zero]
              refine wpAnyC_take (i := 11) (v := .int .i64 0) rfl (by kernel_rfl) (by kernel_rfl) (by kernel_rfl) (fun _ _ _ h => h) HN1.out (by kernel_rfl) ?_ ?_
              · intro W hW; go_simp; all_goals first | (with_reducible rfl) | (intro hneg; exfalso; omega)
              change wpAnyC _ _ _ _ _ _ _ (Act.put _ (some 66) (.int .i64 0)) _
              try simp only [Act.put, List.setIfInBounds_toArray, List.set_cons_succ, List.set_cons_zero]
              refine wpAnyC_take (i := 12) (v := .int .i64 (1)) rfl (by kernel_rfl) (by kernel_rfl) (by kernel_rfl) (fun _ _ _ h => h) HN1.out (by kernel_rfl) ?_ ?_
              · intro W hW; go_simp; all_goals first | (with_reducible rfl) | (intro hneg; exfalso; omega)
              change wpAnyC _ _ _ _ _ _ _ (Act.put _ (some 67) (.int .i64 (1))) _
              try simp only [Act.put, List.setIfInBounds_toArray, List.set_cons_succ, List.set_cons_zero]
              refine wpAnyC_take (i := 13) (v := .slice (some ⟨g, off, none⟩) n cap) rfl (by kernel_rfl) (by kernel_rfl) (by kernel_rfl) (fun _ _ _ h => h) HN1.out (by kernel_rfl) ?_ ?_
              · intro W hW; go_simp; all_goals first | (with_reducible rfl) | (intro hneg; exfalso; omega)
              change wpAnyC _ _ _ _ _ _ _ (Act.put _ (some 68) (.slice (some ⟨g, off, none⟩) n cap)) _
              try simp only [Act.put, List.setIfInBounds_toArray, List.set_cons_succ, List.set_cons_zero]
              refine wpAnyC_take (i := 14) (v := .int .i64 ((m : Int) + 1)) rfl (by kernel_rfl) (by kernel_rfl) (by kernel_rfl) (fun _ _ _ h => h) HN1.out (by kernel_rfl) ?_ ?_
              · intro W hW; go_simp; all_goals first | (with_reducible rfl) | (intro hneg; exfalso; omega)
              change wpAnyC _ _ _ _ _ _ _ (Act.put _ (some 69) (.int .i64 ((m : Int) + 1))) _
              try simp only [Act.put, List.setIfInBounds_toArray, List.set_cons_succ, List.set_cons_zero]
              refine wpAnyC_take (i := 15) (v := .pointer (some ⟨g, off + (m + 1) * 7, none⟩)) rfl (by kernel_rfl) (by kernel_rfl) (by kernel_rfl) (fun _ _ _ h => h) HN1.out (by kernel_rfl) ?_ ?_
              · intro W hW; go_simp; all_goals first | (with_reducible rfl) | (intro hneg; exfalso; omega)
              change wpAnyC _ _ _ _ _ _ _ (Act.put _ (some 70) (.pointer (some ⟨g, off + (m + 1) * 7, none⟩))) _
              try simp only [Act.put, List.setIfInBounds_toArray, List.set_cons_succ, List.set_cons_zero]
              refine wpAnyC_take (i := 16) (v := .pointer (some ⟨g, off + (m + 1) * 7 + 2, none⟩)) rfl (by kernel_rfl) (by kernel_rfl) (by kernel_rfl) (fun _ _ _ h => h) HN1.out (by kernel_rfl) ?_ ?_
              · intro W hW; go_simp; all_goals first | (with_reducible rfl) | (intro hneg; exfalso; omega)
              change wpAnyC _ _ _ _ _ _ _ (Act.put _ (some 71) (.pointer (some ⟨g, off + (m + 1) * 7 + 2, none⟩))) _
              try simp only [Act.put, List.setIfInBounds_toArray, List.set_cons_succ, List.set_cons_zero]
              refine wpAnyC_take (i := 17) (v := .int .i64 x.sq) rfl (by kernel_rfl) (by kernel_rfl) (by kernel_rfl) (fun _ _ _ h => h) HN1.out (by kernel_rfl) ?_ ?_
              · intro W hW; obtain ⟨z0, z1, z2, -⟩ := cells7 (w := W) (fun j u hj => hW.cell (HCX.out j u hj)); go_simp; all_goals first | (with_reducible rfl) | (intro hneg; exfalso; omega)
              change wpAnyC _ _ _ _ _ _ _ (Act.put _ (some 72) (.int .i64 x.sq)) _
              try simp only [Act.put, List.setIfInBounds_toArray, List.set_cons_succ, List.set_cons_zero]
              refine wpAnyC_take (i := 18) (v := .int .i64 (x.sq - 1)) rfl (by kernel_rfl) (by kernel_rfl) (by kernel_rfl) (fun _ _ _ h => h) HN1.out (by kernel_rfl) ?_ ?_
              · intro W hW; go_simp; all_goals first | (with_reducible rfl) | (intro hneg; exfalso; omega)
              change wpAnyC _ _ _ _ _ _ _ (Act.put _ (some 73) (.int .i64 (x.sq - 1))) _
              try simp only [Act.put, List.setIfInBounds_toArray, List.set_cons_succ, List.set_cons_zero]
              refine wpAnyC_take (i := 19) (v := .agg #[.string x.nd, .int .i64 x.bt, .int .i64 (1), .int .i64 (x.sq - 1)]) rfl (by kernel_rfl) (by kernel_rfl) (by kernel_rfl) (fun _ _ _ h => h) HN1.out (by kernel_rfl) ?_ ?_
              · intro W hW; go_simp; all_goals first | (with_reducible rfl) | (intro hneg; exfalso; omega)
              change wpAnyC _ _ _ _ _ _ _ (Act.put _ (some 74) (.agg #[.string x.nd, .int .i64 x.bt, .int .i64 (1), .int .i64 (x.sq - 1)])) _
              try simp only [Act.put, List.setIfInBounds_toArray, List.set_cons_succ, List.set_cons_zero]
              refine wpAnyC_one 20 (by kernel_rfl) rfl (by kernel_rfl) (fun KK hKK => ?_)
              go_simp
              refine hKK _ _ (Ext.alloc HN1.out _) ?_
              clear hKK KK
              try simp only [Act.put, List.setIfInBounds_toArray, List.set_cons_succ, List.set_cons_zero]
              refine wpAnyC_one 21 (by kernel_rfl) rfl (by kernel_rfl) (fun KK hKK => ?_)
              refine wp_append_gap _ (.tmp 55) (.tmp 75) rfl w.heap.size ⟨x.nd, x.bt, 1, x.sq - 1⟩ (HOZ.out.kept (((Ext.refl wz).drew).grown none) (fun k e => by cases e)) rfl rfl (by simp) (by have := HOL.out; omega) (by simpa using hsz) ?_
              intro v' w9 hO9 hB9 _
              refine hKK _ _ (HN1.out.below.trans hB9) ?_
              clear hKK KK
              try simp only [Act.put, List.setIfInBounds_toArray]
              refine wpAnyC_one 22 (by kernel_rfl) rfl (by kernel_rfl) (fun KK hKK => ?_)
              go_simp
              refine hKK _ _ (HN1.out.below.trans hB9) ?_
              clear hKK KK
              try simp only [Act.put, List.setIfInBounds_toArray, List.set_cons_succ, List.set_cons_zero]
              refine ⟨by kernel_rfl, ?_⟩
              go_wp2_with fail
              go_roundw
              case rel =>
                refine ⟨m + 1 + 1, by omega, by go_num, ?_, HN1.out.below.trans hB9⟩
                rw [HST.out]
                have hg : gapOf (lastE none (r.take (m + 1))) x = [⟨x.nd, x.bt, 1, x.sq - 1⟩] := by unfold gapOf; rw [HL0.out]; exact if_pos (by omega)
                rw [hg]
                exact hO9
              case measure => simp [intOf]; omega
            · go_wp2_with fail
              go_roundw
              case rel =>
                refine ⟨m + 1 + 1, by omega, by go_num, ?_, HXZ.out⟩
                rw [HST.out]
                have hg : gapOf (lastE none (r.take (m + 1))) x = [] := by unfold gapOf; rw [HL0.out]; exact if_neg (by omega)
                rw [hg, List.append_nil]
                exact HOZ.out
              case measure => simp [intOf]; omega
          | true =>
            have HL0 : Hid (lastS (lastE none (r.take (m + 1))) x = y.sq) := Lib.hid (by
              rw [HLA.out]
              unfold lastS
              exact if_pos ⟨tl_inj (eq_of_beq hnd), eq_of_beq hbt⟩)
            go_upto_region 6 with fail
            refine wp_region_quiet_lit (by kernel_rfl) (by kernel_rfl) ?_
            repeat (go_big_quiet_step (fail))
            refine wpQuiet_nil ?_
            rintro _ ⟨nq, rfl⟩
            clear a0 a1 a2 a3 a4 a5 a6 b0 b1 b2 b3 b4 b5 b6
            obtain ⟨wz, hwz⟩ : ∃ wz, wz = wr.drewN nq := ⟨_, rfl⟩
            have XZ : Ext wr wz := by rw [hwz]; exact (Ext.refl wr).drewN nq
            rw [← hwz]
            clear hwz
            have HXZ := Lib.hid (hX.trans XZ)
            have HOZ := Lib.hid (HOO.out.kept (XZ.grown none) (fun k e => by cases e))
            have hsz : w.heap.size ≤ wz.heap.size := HXZ.out.size
            clear XZ
            obtain ⟨e0, e1, e2, e3, e4, e5, e6⟩ := cells7 (w := wz) (fun j u hj => HXZ.out.cell (HCX.out j u hj))
            obtain ⟨y0, y1, y2, y3, y4, y5, y6⟩ := cells7 (w := wz) (fun j u hj => HXZ.out.cell (HCY.out j u hj))
            have w1' : wrap64 (y.sq + 1) = y.sq + 1 := by unfold wrap64; omega
            have w2' : wrap64 (x.sq - 1) = x.sq - 1 := by unfold wrap64; omega
            by_cases hgap : y.sq + 1 < x.sq
            · go_upto_region 9 with fail
              clear e0 e1 e2 e3 e4 e5 e6
              have v1' : IntKind.i64.wrap (y.sq + 1) = y.sq + 1 := by simp [IntKind.wrap, IntKind.bits, IntKind.signed]; omega
              have v2' : IntKind.i64.wrap (x.sq - 1) = x.sq - 1 := by simp [IntKind.wrap, IntKind.bits, IntKind.signed]; omega
              refine wp_region_C (C := fun w' => Ext w w') (by kernel_rfl) ?_
              have HN1 := Lib.hid (show Ext w wz.drew from HXZ.out.drew)
              refine wpAnyC_take (i := 0) (v := u3) rfl (by kernel_rfl) (by kernel_rfl) (by kernel_rfl) (fun _ _ _ h => h) HN1.out (by kernel_rfl) ?_ ?_
              · intro W hW; go_simp; all_goals first | (with_reducible rfl) | (intro hneg; exfalso; omega)
              change wpAnyC _ _ _ _ _ _ _ (Act.put _ (some 55) (u3)) _
              try simp only [Act.put, List.setIfInBounds_toArray, List.set_cons_succ, List.set_cons_zero]
              refine wpAnyC_take (i := 1) (v := .slice (some ⟨g, off, none⟩) n cap) rfl (by kernel_rfl) (by kernel_rfl) (by kernel_rfl) (fun _ _ _ h => h) HN1.out (by kernel_rfl) ?_ ?_
              · intro W hW; go_simp; all_goals first | (with_reducible rfl) | (intro hneg; exfalso; omega)
              change wpAnyC _ _ _ _ _ _ _ (Act.put _ (some 56) (.slice (some ⟨g, off, none⟩) n cap)) _
              try simp only [Act.put, List.setIfInBounds_toArray, List.set_cons_succ, List.set_cons_zero]
              refine wpAnyC_take (i := 2) (v := .int .i64 ((m : Int) + 1)) rfl (by kernel_rfl) (by kernel_rfl) (by kernel_rfl) (fun _ _ _ h => h) HN1.out (by kernel_rfl) ?_ ?_
              · intro W hW; go_simp; all_goals first | (with_reducible rfl) | (intro hneg; exfalso; omega)
              change wpAnyC _ _ _ _ _ _ _ (Act.put _ (some 57) (.int .i64 ((m : Int) + 1))) _
              try simp only [Act.put, List.setIfInBounds_toArray, List.set_cons_succ, List.set_cons_zero]
              refine wpAnyC_take (i := 3) (v := .pointer (some ⟨g, off + (m + 1) * 7, none⟩)) rfl (by kernel_rfl) (by kernel_rfl) (by kernel_rfl) (fun _ _ _ h => h) HN1.out (by kernel_rfl) ?_ ?_
              · intro W hW; go_simp; all_goals first | (with_reducible rfl) | (intro hneg; exfalso; omega)
              change wpAnyC _ _ _ _ _ _ _ (Act.put _ (some 58) (.pointer (some ⟨g, off + (m + 1) * 7, none⟩))) _
              try simp only [Act.put, List.setIfInBounds_toArray, List.set_cons_succ, List.set_cons_zero]
              refine wpAnyC_take (i := 4) (v := .pointer (some ⟨g, off + (m + 1) * 7, none⟩)) rfl (by kernel_rfl) (by kernel_rfl) (by kernel_rfl) (fun _ _ _ h => h) HN1.out (by kernel_rfl) ?_ ?_
              · intro W hW; go_simp; all_goals first | (with_reducible rfl) | (intro hneg; exfalso; omega)
              change wpAnyC _ _ _ _ _ _ _ (Act.put _ (some 59) (.pointer (some ⟨g, off + (m + 1) * 7, none⟩))) _
              try simp only [Act.put, List.setIfInBounds_toArray, List.set_cons_succ, List.set_cons_zero]
              refine wpAnyC_take (i := 5) (v := .string x.nd) rfl (by kernel_rfl) (by kernel_rfl) (by kernel_rfl) (fun _ _ _ h => h) HN1.out (by kernel_rfl) ?_ ?_
              · intro W hW; obtain ⟨z0, z1, z2, -⟩ := cells7 (w := W) (fun j u hj => hW.cell (HCX.out j u hj)); go_simp; all_goals first | (with_reducible rfl) | (intro hneg; exfalso; omega)
              change wpAnyC _ _ _ _ _ _ _ (Act.put _ (some 60) (.string x.nd)) _
              try simp only [Act.put, List.setIfInBounds_toArray, List.set_cons_succ, List.set_cons_zero]
              refine wpAnyC_take (i := 6) (v := .slice (some ⟨g, off, none⟩) n cap) rfl (by kernel_rfl) (by kernel_rfl) (by kernel_rfl) (fun _ _ _ h => h) HN1.out (by kernel_rfl) ?_ ?_
              · intro W hW; go_simp; all_goals first | (with_reducible rfl) | (intro hneg; exfalso; omega)
              change wpAnyC _ _ _ _ _ _ _ (Act.put _ (some 61) (.slice (some ⟨g, off, none⟩) n cap)) _
              try simp only [Act.put, List.setIfInBounds_toArray, List.set_cons_succ, List.set_cons_zero]
              refine wpAnyC_take (i := 7) (v := .int .i64 ((m : Int) + 1)) rfl (by kernel_rfl) (by kernel_rfl) (by kernel_rfl) (fun _ _ _ h => h) HN1.out (by kernel_rfl) ?_ ?_
              · intro W hW; go_simp; all_goals first | (with_reducible rfl) | (intro hneg; exfalso; omega)
              change wpAnyC _ _ _ _ _ _ _ (Act.put _ (some 62) (.int .i64 ((m : Int) + 1))) _
              try simp only [Act.put, List.setIfInBounds_toArray, List.set_cons_succ, List.set_cons_zero]
              refine wpAnyC_take (i := 8) (v := .pointer (some ⟨g, off + (m + 1) * 7, none⟩)) rfl (by kernel_rfl) (by kernel_rfl) (by kernel_rfl) (fun _ _ _ h => h) HN1.out (by kernel_rfl) ?_ ?_
              · intro W hW; go_simp; all_goals first | (with_reducible rfl) | (intro hneg; exfalso; omega)
              change wpAnyC _ _ _ _ _ _ _ (Act.put _ (some 63) (.pointer (some ⟨g, off + (m + 1) * 7, none⟩))) _
              try simp only [Act.put, List.setIfInBounds_toArray, List.set_cons_succ, List.set_cons_zero]
              refine wpAnyC_take (i := 9) (v := .pointer (some ⟨g, off + (m + 1) * 7 + 1, none⟩)) rfl (by kernel_rfl) (by kernel_rfl) (by kernel_rfl) (fun _ _ _ h => h) HN1.out (by kernel_rfl) ?_ ?_
              · intro W hW; go_simp; all_goals first | (with_reducible rfl) | (intro hneg; exfalso; omega)
              change wpAnyC _ _ _ _ _ _ _ (Act.put _ (some 64) (.pointer (some ⟨g, off + (m + 1) * 7 + 1, none⟩))) _
              try simp only [Act.put, List.setIfInBounds_toArray, List.set_cons_succ, List.set_cons_zero]
              refine wpAnyC_take (i := 10) (v := .int .i64 x.bt) rfl (by kernel_rfl) (by kernel_rfl) (by kernel_rfl) (fun _ _ _ h => h) HN1.out (by kernel_rfl) ?_ ?_
              · intro W hW; obtain ⟨z0, z1, z2, -⟩ := cells7 (w := W) (fun j u hj => hW.cell (HCX.out j u hj)); go_simp; all_goals first | (with_reducible rfl) | (intro hneg; exfalso; omega)
              change wpAnyC _ _ _ _ _ _ _ (Act.put _ (some 65) (.int .i64 x.bt)) _
              try simp only [Act.put, List.setIfInBounds_toArray, List.set_cons_succ, List.set_cons_zero]
              refine wpAnyC_take (i := 11) (v := .int .i64 y.sq) rfl (by kernel_rfl) (by kernel_rfl) (by kernel_rfl) (fun _ _ _ h => h) HN1.out (by kernel_rfl) ?_ ?_
              · intro W hW; go_simp; all_goals first | (with_reducible rfl) | (intro hneg; exfalso; omega)
              change wpAnyC _ _ _ _ _ _ _ (Act.put _ (some 66) (.int .i64 y.sq)) _
              try simp only [Act.put, List.setIfInBounds_toArray, List.set_cons_succ, List.set_cons_zero]
              refine wpAnyC_take (i := 12) (v := .int .i64 (y.sq + 1)) rfl (by kernel_rfl) (by kernel_rfl) (by kernel_rfl) (fun _ _ _ h => h) HN1.out (by kernel_rfl) ?_ ?_
              · intro W hW; go_simp; all_goals first | (with_reducible rfl) | (intro hneg; exfalso; omega)
              change wpAnyC _ _ _ _ _ _ _ (Act.put _ (some 67) (.int .i64 (y.sq + 1))) _
              try simp only [Act.put, List.setIfInBounds_toArray, List.set_cons_succ, List.set_cons_zero]
              refine wpAnyC_take (i := 13) (v := .slice (some ⟨g, off, none⟩) n cap) rfl (by kernel_rfl) (by kernel_rfl) (by kernel_rfl) (fun _ _ _ h => h) HN1.out (by kernel_rfl) ?_ ?_
              · intro W hW; go_simp; all_goals first | (with_reducible rfl) | (intro hneg; exfalso; omega)
              change wpAnyC _ _ _ _ _ _ _ (Act.put _ (some 68) (.slice (some ⟨g, off, none⟩) n cap)) _
              try simp only [Act.put, List.setIfInBounds_toArray, List.set_cons_succ, List.set_cons_zero]
              refine wpAnyC_take (i := 14) (v := .int .i64 ((m : Int) + 1)) rfl (by kernel_rfl) (by kernel_rfl) (by kernel_rfl) (fun _ _ _ h => h) HN1.out (by kernel_rfl) ?_ ?_
              · intro W hW; go_simp; all_goals first | (with_reducible rfl) | (intro hneg; exfalso; omega)
              change wpAnyC _ _ _ _ _ _ _ (Act.put _ (some 69) (.int .i64 ((m : Int) + 1))) _
              try simp only [Act.put, List.setIfInBounds_toArray, List.set_cons_succ, List.set_cons_zero]
              refine wpAnyC_take (i := 15) (v := .pointer (some ⟨g, off + (m + 1) * 7, none⟩)) rfl (by kernel_rfl) (by kernel_rfl) (by kernel_rfl) (fun _ _ _ h => h) HN1.out (by kernel_rfl) ?_ ?_
              · intro W hW; go_simp; all_goals first | (with_reducible rfl) | (intro hneg; exfalso; omega)
              change wpAnyC _ _ _ _ _ _ _ (Act.put _ (some 70) (.pointer (some ⟨g, off + (m + 1) * 7, none⟩))) _
              try simp only [Act.put, List.setIfInBounds_toArray, List.set_cons_succ, List.set_cons_zero]
              refine wpAnyC_take (i := 16) (v := .pointer (some ⟨g, off + (m + 1) * 7 + 2, none⟩)) rfl (by kernel_rfl) (by kernel_rfl) (by kernel_rfl) (fun _ _ _ h => h) HN1.out (by kernel_rfl) ?_ ?_
              · intro W hW; go_simp; all_goals first | (with_reducible rfl) | (intro hneg; exfalso; omega)
              change wpAnyC _ _ _ _ _ _ _ (Act.put _ (some 71) (.pointer (some ⟨g, off + (m + 1) * 7 + 2, none⟩))) _
              try simp only [Act.put, List.setIfInBounds_toArray, List.set_cons_succ, List.set_cons_zero]
              refine wpAnyC_take (i := 17) (v := .int .i64 x.sq) rfl (by kernel_rfl) (by kernel_rfl) (by kernel_rfl) (fun _ _ _ h => h) HN1.out (by kernel_rfl) ?_ ?_
              · intro W hW; obtain ⟨z0, z1, z2, -⟩ := cells7 (w := W) (fun j u hj => hW.cell (HCX.out j u hj)); go_simp; all_goals first | (with_reducible rfl) | (intro hneg; exfalso; omega)
              change wpAnyC _ _ _ _ _ _ _ (Act.put _ (some 72) (.int .i64 x.sq)) _
              try simp only [Act.put, List.setIfInBounds_toArray, List.set_cons_succ, List.set_cons_zero]
              refine wpAnyC_take (i := 18) (v := .int .i64 (x.sq - 1)) rfl (by kernel_rfl) (by kernel_rfl) (by kernel_rfl) (fun _ _ _ h => h) HN1.out (by kernel_rfl) ?_ ?_
              · intro W hW; go_simp; all_goals first | (with_reducible rfl) | (intro hneg; exfalso; omega)
              change wpAnyC _ _ _ _ _ _ _ (Act.put _ (some 73) (.int .i64 (x.sq - 1))) _
              try simp only [Act.put, List.setIfInBounds_toArray, List.set_cons_succ, List.set_cons_zero]
              refine wpAnyC_take (i := 19) (v := .agg #[.string x.nd, .int .i64 x.bt, .int .i64 (y.sq + 1), .int .i64 (x.sq - 1)]) rfl (by kernel_rfl) (by kernel_rfl) (by kernel_rfl) (fun _ _ _ h => h) HN1.out (by kernel_rfl) ?_ ?_
              · intro W hW; go_simp; all_goals first | (with_reducible rfl) | (intro hneg; exfalso; omega)
              change wpAnyC _ _ _ _ _ _ _ (Act.put _ (some 74) (.agg #[.string x.nd, .int .i64 x.bt, .int .i64 (y.sq + 1), .int .i64 (x.sq - 1)])) _
              try simp only [Act.put, List.setIfInBounds_toArray, List.set_cons_succ, List.set_cons_zero]
              refine wpAnyC_one 20 (by kernel_rfl) rfl (by kernel_rfl) (fun KK hKK => ?_)
              go_simp
              refine hKK _ _ (Ext.alloc HN1.out _) ?_
              clear hKK KK
              try simp only [Act.put, List.setIfInBounds_toArray, List.set_cons_succ, List.set_cons_zero]
              refine wpAnyC_one 21 (by kernel_rfl) rfl (by kernel_rfl) (fun KK hKK => ?_)
              refine wp_append_gap _ (.tmp 55) (.tmp 75) rfl w.heap.size ⟨x.nd, x.bt, y.sq + 1, x.sq - 1⟩ (HOZ.out.kept (((Ext.refl wz).drew).grown none) (fun k e => by cases e)) rfl rfl (by simp) (by have := HOL.out; omega) (by simpa using hsz) ?_
              intro v' w9 hO9 hB9 _
              refine hKK _ _ (HN1.out.below.trans hB9) ?_
              clear hKK KK
              try simp only [Act.put, List.setIfInBounds_toArray]
              refine wpAnyC_one 22 (by kernel_rfl) rfl (by kernel_rfl) (fun KK hKK => ?_)
              go_simp
              refine hKK _ _ (HN1.out.below.trans hB9) ?_
              clear hKK KK
              try simp only [Act.put, List.setIfInBounds_toArray, List.set_cons_succ, List.set_cons_zero]
              refine ⟨by kernel_rfl, ?_⟩
              go_wp2_with fail
              go_roundw
              case rel =>
                refine ⟨m + 1 + 1, by omega, by go_num, ?_, HN1.out.below.trans hB9⟩
                rw [HST.out]
                have hg : gapOf (lastE none (r.take (m + 1))) x = [⟨x.nd, x.bt, y.sq + 1, x.sq - 1⟩] := by unfold gapOf; rw [HL0.out]; exact if_pos (by omega)
                rw [hg]
                exact hO9
              case measure => simp [intOf]; omega
            · go_wp2_with fail
              go_roundw
              case rel =>
                refine ⟨m + 1 + 1, by omega, by go_num, ?_, HXZ.out⟩
                rw [HST.out]
                have hg : gapOf (lastE none (r.take (m + 1))) x = [] := by unfold gapOf; rw [HL0.out]; exact if_neg (by omega)
                rw [hg, List.append_nil]
                exact HOZ.out
              case measure => simp [intOf]; omega
    · obtain rfl : k = n := by omega
      have hall : r.take k = r := List.take_of_length_le (by have := HN.out; omega)
      rw [hall] at hO
      go_wp2_with fail
      go_ret
      exact ⟨_, rfl, hO.at, hX⟩
end Go.Proofs.Ytjdbhemojopnlaa
