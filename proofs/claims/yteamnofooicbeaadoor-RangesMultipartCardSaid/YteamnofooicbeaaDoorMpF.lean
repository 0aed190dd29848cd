/- Chapter 09: RangesMultipart: Multipart writes the specified body, and ReadMultipart reads the ranges with their bytes. -/
import Derived.Test.YteamnofooicbeaaDoorGF
import Derived.Test.YteamnofooicbeaaDoorRgO
import Derived.Test.YteamnofooicbeaaDoorAnyD
import Derived.Deep.DeepCutAuto
namespace Go.Proofs.YteamnofooicbeaaDoor
open Go.RowKit Go.Deep
theorem wp_bytes_of_string {P : Program} (w : World) {o : Oper} {a : Act} {K : Act → World → Prop} {Q : Exit → Act → World → Prop}
    (src dst e : TypeId) (x : Operand) (ho : o.op = Op.convert src dst x) (hs : P.underlying src = some .string) (hd : P.underlying dst = some (.slice e)) (he : P.underlying e = some (.int .u8))
    (s : ByteArray) (hx : a.eval x = .string s)
    (hK : ∀ w' cap, Ext w w' → RowB w' w.heap.size e (s.data.toList.map fun b => Value.int .u8 b.toNat) → s.size ≤ cap → K (a.put o.dst (.slice (some ⟨w.heap.size, 0, none⟩) s.size cap)) w') : Oper.wp P o a w K Q := by
  have hrun := run_bytes_of_string (P := P) w src dst e s hs hd he
  unfold Oper.wp
  simp only [execOp, ho, hx, Sem.run_bind, hrun, Result.andThen]
  refine hK _ _ ((Ext.refl w).drew.trans (Ext.alloc (Ext.refl _) _)) ?_ ?_
  · refine ⟨bytesRow s (grownCap w s.size 0 e), ((bytesRow s (grownCap w s.size 0 e)).size, (bytesRow s (grownCap w s.size 0 e)).size + 1), List.replicate (grownCap w s.size 0 e - s.size) (.int .u8 0), ?_, ?_, ?_⟩
    · show (w.heap.push _)[w.heap.size]? = _
      simp
    · intro j h1 _; exact h1
    · unfold bytesRow
      simp
  · exact grownCap_ge w s.size 0 e
theorem mout_same {b k body : ByteArray} {xs : List (Int × Int)} {s s' : ByteArray} {c c' : Int} (h : mOut b k body xs s c) (h' : mOut b k body xs s' c') : s = s' ∧ c = c' := by
  unfold mOut at h h'
  rcases h with ⟨a1, a2, a3, rfl, rfl⟩ | ⟨a1, a2, rfl, rfl⟩ | ⟨a1, rfl, rfl⟩ <;> rcases h' with ⟨b1, b2, b3, rfl, rfl⟩ | ⟨b1, b2, rfl, rfl⟩ | ⟨b1, rfl, rfl⟩
  · exact ⟨rfl, rfl⟩
  · exact absurd ⟨a2, a3⟩ b2
  · rw [a1] at b1; cases b1
  · exact absurd ⟨b2, b3⟩ a2
  · exact ⟨rfl, rfl⟩
  · rw [a1] at b1; cases b1
  · rw [a1] at b1; cases b1
  · rw [a1] at b1; cases b1
  · exact ⟨rfl, rfl⟩
theorem conv_nil (W : World) : (convert 60 9 (.slice none 0 0)).run Tryd.prog W = .ok (.string ⟨#[]⟩) W := by kernel_rfl
theorem mres_more {w0 w w' : World} {b k body : ByteArray} {xs : List (Int × Int)} {v ev : Value} (h : MRes w w' b k body xs v ev) (hs : w0.heap.size ≤ w.heap.size) : MRes w0 w' b k body xs v ev := by
  obtain ⟨s, c, h1, h2, h3, h4⟩ := h
  refine ⟨s, c, h1, h2, fun h0 => ?_, h4⟩
  obtain ⟨⟨g, cap, e, hg, hr⟩, h5⟩ := h3 h0
  exact ⟨⟨g, cap, e, Nat.le_trans hs hg, hr⟩, h5⟩
section
variable {P : Program} {ops : Array Oper} {md : Region.Mode} {C : World → Prop} {Q : Exit → Act → World → Prop}
theorem wpAnyC_both (i j : Nat) {oi oj : Oper} {f : Nat} {seen : Array Bool} {a : Act} {w : World} (hr : Region.ready md ops seen = [i, j]) (hi : ops[i]? = some oi) (hj : ops[j]? = some oj)
    (hgi : Region.wanted oi (yielded ops a.tmps) = true) (hgj : Region.wanted oj (yielded ops a.tmps) = true)
    (h1 : ∀ K : Act → World → Prop, (∀ a w, C w → wpAnyC P md ops C Q f (seen.setIfInBounds i true) a w → K a w) → Oper.wp P oi a w K Q)
    (h2 : ∀ K : Act → World → Prop, (∀ a w, C w → wpAnyC P md ops C Q f (seen.setIfInBounds j true) a w → K a w) → Oper.wp P oj a w K Q) : wpAnyC P md ops C Q (f + 1) seen a w :=
  wpAnyC_two i j hr (wpOpC_of hi hgi h1) (wpOpC_of hj hgj h2)
end
theorem good_parts {b k body : ByteArray} (h : goodM b k body = true) : bndF b = true ∧ holdF body b = false ∧ kindF k = true := by
  unfold goodM at h
  simp only [Bool.and_eq_true, Bool.not_eq_true'] at h
  exact ⟨h.1.1, h.1.2, h.2⟩
set_option maxRecDepth 100000 in
set_option maxHeartbeats 8000000 in
theorem multipart_law (b k g : ByteArray) (sz : Int) (hz : 0 ≤ sz ∧ sz ≤ 65535) (hb63 : b.data.toList.length ≤ reachBytes) (hk63 : k.data.toList.length ≤ reachBytes) (hg63 : g.data.toList.length ≤ reachBytes) {w : World} {lv : Value} {xs : List (Int × Int)} (h : RIn w lv xs) (hM : MaxL w) (hP : PowT w) :
    Calls Tryd.prog 11 #[.agg #[.string b, .string k, lv, .int .u16 sz, .string g]] w fun e w' => e = .returned (.bool true) ∧ Ext w w' := by
  have HAW := Lib.hid (fun W (hW : Ext w W) => awake_any W (hM.ext hW))
  have hrb := reachBytes_lt
  rw [← Lib.size_eq] at hb63 hk63 hg63
  have hw1 : wrap64 ((g.size : Int) + (k.size : Int)) = (g.size : Int) + (k.size : Int) := by unfold wrap64; omega
  have hw2 : wrap64 ((g.size : Int) + (k.size : Int) + (b.size : Int)) = (g.size : Int) + (k.size : Int) + (b.size : Int) := by unfold wrap64; omega
  clear hb63 hk63 hg63 hrb
  have HIN := Lib.hid h
  have HM := Lib.hid hM
  have HP := Lib.hid hP
  obtain ⟨A, cap, rfl, hcap, hr⟩ := h
  have HR := Lib.hid hr
  obtain ⟨n, hxn⟩ : ∃ n, xs.length = n := ⟨_, rfl⟩
  have HN := Lib.hid hxn
  rw [hxn] at hcap HIN HR ⊢
  clear hxn hM hP hr
  by_cases hn : n ≤ 12
  · have hn' : ¬ (12 : Int) < (n : Int) := by omega
    by_cases hs : g.size + k.size + b.size ≤ 3000
    · have hs' : ¬ (3000 : Int) < (g.size : Int) + (k.size : Int) + (b.size : Int) := by omega
      go_enter Tryd.func11, Tryd.ntmps11
      go_upto_region 1 with fail
      obtain ⟨wa, hwa⟩ : ∃ x, x = w.alloc (.cells #[.string b, .string k, .slice A n cap, .int .u16 sz, .string g] 88) := ⟨_, rfl⟩
      have HXA : Hid (Ext w wa) := Lib.hid (by rw [hwa]; exact (Ext.refl w).alloc _)
      have HBX : Hid (RowB wa w.heap.size 88 [.string b, .string k, .slice A n cap, .int .u16 sz, .string g]) := Lib.hid (by rw [hwa]; exact row_laid w 88 [.string b, .string k, .slice A n cap, .int .u16 sz, .string g])
      rw [← hwa]
      clear hwa
      go_upto_region 3 with (go_at_call 12; refine (HAW.out _ HXA.out).mono ?_; rintro e w1 ⟨rfl, hx1⟩; have c0 := (HBX.out.ext hx1).cell (j := 0) rfl; have c1 := (HBX.out.ext hx1).cell (j := 1) rfl; have c2 := (HBX.out.ext hx1).cell (j := 2) rfl; have c4 := (HBX.out.ext hx1).cell (j := 4) rfl)
      have HX1 := Lib.hid (HXA.out.trans hx1)
      have HBX1 := Lib.hid (HBX.out.ext hx1)
      have c3 := HBX1.out.cell (j := 3) rfl
      clear hx1 HAW
      have HBO := Lib.hid (body_any b k g (.slice A n cap) sz hz (by omega) w1)
      go_upto_region 4 with (go_at_call 38; refine HBO.out.mono ?_; rintro e w2 ⟨body, rfl, hbody, hx2⟩)
      have HX2 := Lib.hid (HX1.out.trans hx2)
      have HBX4 := Lib.hid (HBX1.out.ext hx2)
      clear hx2 HBO c0 c1 c2 c3 c4
      go_cut [4, 5] (fun vv ev wx => Hid (MRes w2 wx b k body xs vv ev) ∧ Ext w2 wx)
      case first =>
        refine wp_region_C (C := fun w' => Ext w2 w') (by kernel_rfl) ?_
        have HN1 := Lib.hid (Ext.drew (Ext.refl w2))
        refine wpAnyC_take (i := 0) (v := .pointer (some ⟨w.heap.size, 0, none⟩)) rfl (by kernel_rfl) (by kernel_rfl) (by kernel_rfl) (fun _ _ _ h => h) HN1.out (by kernel_rfl) ?_ ?_
        · intro W hW; have z0 := (HBX4.out.ext hW).cell (j := 0) rfl; have z1 := (HBX4.out.ext hW).cell (j := 1) rfl; have z2 := (HBX4.out.ext hW).cell (j := 2) rfl; go_simp; try (with_reducible rfl)
        change wpAnyC _ _ _ _ _ _ _ (Act.put _ (some 40) (.pointer (some ⟨w.heap.size, 0, none⟩))) _
        try simp only [Act.put, List.setIfInBounds_toArray, List.set_cons_succ, List.set_cons_zero]
        refine wpAnyC_take (i := 1) (v := .string b) rfl (by kernel_rfl) (by kernel_rfl) (by kernel_rfl) (fun _ _ _ h => h) HN1.out (by kernel_rfl) ?_ ?_
        · intro W hW; have z0 := (HBX4.out.ext hW).cell (j := 0) rfl; have z1 := (HBX4.out.ext hW).cell (j := 1) rfl; have z2 := (HBX4.out.ext hW).cell (j := 2) rfl; go_simp; try (with_reducible rfl)
        change wpAnyC _ _ _ _ _ _ _ (Act.put _ (some 41) (.string b)) _
        try simp only [Act.put, List.setIfInBounds_toArray, List.set_cons_succ, List.set_cons_zero]
        refine wpAnyC_take (i := 2) (v := .pointer (some ⟨w.heap.size, 1, none⟩)) rfl (by kernel_rfl) (by kernel_rfl) (by kernel_rfl) (fun _ _ _ h => h) HN1.out (by kernel_rfl) ?_ ?_
        · intro W hW; have z0 := (HBX4.out.ext hW).cell (j := 0) rfl; have z1 := (HBX4.out.ext hW).cell (j := 1) rfl; have z2 := (HBX4.out.ext hW).cell (j := 2) rfl; go_simp; try (with_reducible rfl)
        change wpAnyC _ _ _ _ _ _ _ (Act.put _ (some 42) (.pointer (some ⟨w.heap.size, 1, none⟩))) _
        try simp only [Act.put, List.setIfInBounds_toArray, List.set_cons_succ, List.set_cons_zero]
        refine wpAnyC_take (i := 3) (v := .string k) rfl (by kernel_rfl) (by kernel_rfl) (by kernel_rfl) (fun _ _ _ h => h) HN1.out (by kernel_rfl) ?_ ?_
        · intro W hW; have z0 := (HBX4.out.ext hW).cell (j := 0) rfl; have z1 := (HBX4.out.ext hW).cell (j := 1) rfl; have z2 := (HBX4.out.ext hW).cell (j := 2) rfl; go_simp; try (with_reducible rfl)
        change wpAnyC _ _ _ _ _ _ _ (Act.put _ (some 43) (.string k)) _
        try simp only [Act.put, List.setIfInBounds_toArray, List.set_cons_succ, List.set_cons_zero]
        refine wpAnyC_take (i := 4) (v := .pointer (some ⟨w.heap.size, 2, none⟩)) rfl (by kernel_rfl) (by kernel_rfl) (by kernel_rfl) (fun _ _ _ h => h) HN1.out (by kernel_rfl) ?_ ?_
        · intro W hW; have z0 := (HBX4.out.ext hW).cell (j := 0) rfl; have z1 := (HBX4.out.ext hW).cell (j := 1) rfl; have z2 := (HBX4.out.ext hW).cell (j := 2) rfl; go_simp; try (with_reducible rfl)
        change wpAnyC _ _ _ _ _ _ _ (Act.put _ (some 44) (.pointer (some ⟨w.heap.size, 2, none⟩))) _
        try simp only [Act.put, List.setIfInBounds_toArray, List.set_cons_succ, List.set_cons_zero]
        refine wpAnyC_take (i := 5) (v := .slice A n cap) rfl (by kernel_rfl) (by kernel_rfl) (by kernel_rfl) (fun _ _ _ h => h) HN1.out (by kernel_rfl) ?_ ?_
        · intro W hW; have z0 := (HBX4.out.ext hW).cell (j := 0) rfl; have z1 := (HBX4.out.ext hW).cell (j := 1) rfl; have z2 := (HBX4.out.ext hW).cell (j := 2) rfl; go_simp; try (with_reducible rfl)
        change wpAnyC _ _ _ _ _ _ _ (Act.put _ (some 45) (.slice A n cap)) _
        try simp only [Act.put, List.setIfInBounds_toArray, List.set_cons_succ, List.set_cons_zero]
        refine wpAnyC_take (i := 7) (v := .string body) rfl (by kernel_rfl) (by kernel_rfl) (by kernel_rfl) (fun _ _ _ h => h) HN1.out (by kernel_rfl) ?_ ?_
        · intro W hW; go_simp; try (with_reducible rfl)
        change wpAnyC _ _ _ _ _ _ _ (Act.put _ (some 47) (.string body)) _
        try simp only [Act.put, List.setIfInBounds_toArray, List.set_cons_succ, List.set_cons_zero]
        refine wpAnyC_both 6 8 (by kernel_rfl) rfl rfl (by kernel_rfl) (by kernel_rfl) (fun KK hKK => ?_) (fun KK hKK => ?_)
        · go_simp
          refine (of_any (HIN.out.ext (HX2.out.trans HN1.out)) (by rw [HN.out]; omega)).mono ?_
          rintro e w5 ⟨v5, rfl, hx5, ho5, hn5⟩
          refine hKK _ _ (HN1.out.trans hx5) ?_
          clear hKK KK
          try simp only [Act.put, List.setIfInBounds_toArray, List.set_cons_succ, List.set_cons_zero]
          refine wpAnyC_one 8 (by kernel_rfl) rfl (by kernel_rfl) (fun KK hKK => ?_)
          refine wp_bytes_of_string _ 9 60 5 (.tmp 47) rfl Tryd.underlying9 Tryd.underlying60 Tryd.underlying5 body rfl ?_
          intro w6 cap6 hx6 hr6 hc6
          have hX6 := Lib.hid ((HN1.out.trans hx5).trans hx6)
          have ho5r := Lib.hid ((ho5.ext hx6).rin)
          have hr6r := Lib.hid hr6
          refine hKK _ _ hX6.out ?_
          clear hKK KK
          try simp only [Act.put, List.setIfInBounds_toArray]
          clear ho5 hr6
          refine wpAnyC_one 9 (by kernel_rfl) rfl (by kernel_rfl) (fun KK hKK => ?_)
          go_simp
          refine (mult_any b k body (by omega) (by omega) (by omega) ho5r.out (by rw [HN.out]; omega) rfl hc6 hr6r.out (HM.out.ext (HX2.out.trans hX6.out)) (HP.out.ext (HX2.out.trans hX6.out))).mono ?_
          rintro e w7 ⟨v7, ev7, rfl, H7, hx7⟩
          have HX7 := Lib.hid (hX6.out.trans hx7)
          have HR7 := Lib.hid (H7.out)
          refine hKK _ _ HX7.out ?_
          clear hKK KK hx7 hx5 hx6
          try simp only [Act.put, List.setIfInBounds_toArray, List.set_cons_succ, List.set_cons_zero]
          refine wpAnyC_take (i := 10) (v := .tuple #[v7, ev7]) rfl (by kernel_rfl) (by kernel_rfl) (by kernel_rfl) (fun _ _ _ h => h) HX7.out (by kernel_rfl) ?_ ?_
          · intro W hW; go_simp; try (with_reducible rfl)
          change wpAnyC _ _ _ _ _ _ _ (Act.put _ (some 39) (.tuple #[v7, ev7])) _
          try simp only [Act.put, List.setIfInBounds_toArray, List.set_cons_succ, List.set_cons_zero]
          refine wpAnyC_take (i := 11) (v := v7) rfl (by kernel_rfl) (by kernel_rfl) (by kernel_rfl) (fun _ _ _ h => h) HX7.out (by kernel_rfl) ?_ ?_
          · intro W hW; go_simp; try (with_reducible rfl)
          change wpAnyC _ _ _ _ _ _ _ (Act.put _ (some 50) (v7)) _
          try simp only [Act.put, List.setIfInBounds_toArray, List.set_cons_succ, List.set_cons_zero]
          refine wpAnyC_take (i := 12) (v := ev7) rfl (by kernel_rfl) (by kernel_rfl) (by kernel_rfl) (fun _ _ _ h => h) HX7.out (by kernel_rfl) ?_ ?_
          · intro W hW; go_simp; try (with_reducible rfl)
          change wpAnyC _ _ _ _ _ _ _ (Act.put _ (some 51) (ev7)) _
          try simp only [Act.put, List.setIfInBounds_toArray, List.set_cons_succ, List.set_cons_zero]
          refine wpAnyC_take (i := 13) (v := v7) rfl (by kernel_rfl) (by kernel_rfl) (by kernel_rfl) (fun _ _ _ h => h) HX7.out (by kernel_rfl) ?_ ?_
          · intro W hW; go_simp; try (with_reducible rfl)
          change wpAnyC _ _ _ _ _ _ _ (Act.put _ (some 4) (v7)) _
          try simp only [Act.put, List.setIfInBounds_toArray, List.set_cons_succ, List.set_cons_zero]
          refine wpAnyC_take (i := 14) (v := ev7) rfl (by kernel_rfl) (by kernel_rfl) (by kernel_rfl) (fun _ _ _ h => h) HX7.out (by kernel_rfl) ?_ ?_
          · intro W hW; go_simp; try (with_reducible rfl)
          change wpAnyC _ _ _ _ _ _ _ (Act.put _ (some 5) (ev7)) _
          try simp only [Act.put, List.setIfInBounds_toArray, List.set_cons_succ, List.set_cons_zero]
          refine ⟨by kernel_rfl, ?_⟩
          go_wp2_with fail
          go_meet
          exact ⟨Lib.hid (mres_more HR7.out (hX6.out.size)), HX7.out⟩
        · refine wp_bytes_of_string _ 9 60 5 (.tmp 47) rfl Tryd.underlying9 Tryd.underlying60 Tryd.underlying5 body rfl ?_
          intro w6 cap6 hx6 hr6 hc6
          refine hKK _ _ (HN1.out.trans hx6) ?_
          clear hKK KK
          change wpAnyC _ _ _ _ _ _ _ (Act.put _ (some 48) _) _
          try simp only [Act.put, List.setIfInBounds_toArray, List.set_cons_succ, List.set_cons_zero]
          refine wpAnyC_one 6 (by kernel_rfl) rfl (by kernel_rfl) (fun KK hKK => ?_)
          go_simp
          refine (of_any (HIN.out.ext (HX2.out.trans (HN1.out.trans hx6))) (by rw [HN.out]; omega)).mono ?_
          rintro e w5 ⟨v5, rfl, hx5, ho5, hn5⟩
          have hX6 := Lib.hid ((HN1.out.trans hx6).trans hx5)
          have ho5r := Lib.hid (ho5.rin)
          have hr6r := Lib.hid (hr6.ext hx5)
          refine hKK _ _ hX6.out ?_
          clear hKK KK
          try simp only [Act.put, List.setIfInBounds_toArray, List.set_cons_succ, List.set_cons_zero]
          clear ho5 hr6
          refine wpAnyC_one 9 (by kernel_rfl) rfl (by kernel_rfl) (fun KK hKK => ?_)
          go_simp
          refine (mult_any b k body (by omega) (by omega) (by omega) ho5r.out (by rw [HN.out]; omega) rfl hc6 hr6r.out (HM.out.ext (HX2.out.trans hX6.out)) (HP.out.ext (HX2.out.trans hX6.out))).mono ?_
          rintro e w7 ⟨v7, ev7, rfl, H7, hx7⟩
          have HX7 := Lib.hid (hX6.out.trans hx7)
          have HR7 := Lib.hid (H7.out)
          refine hKK _ _ HX7.out ?_
          clear hKK KK hx7 hx5 hx6
          try simp only [Act.put, List.setIfInBounds_toArray, List.set_cons_succ, List.set_cons_zero]
          refine wpAnyC_take (i := 10) (v := .tuple #[v7, ev7]) rfl (by kernel_rfl) (by kernel_rfl) (by kernel_rfl) (fun _ _ _ h => h) HX7.out (by kernel_rfl) ?_ ?_
          · intro W hW; go_simp; try (with_reducible rfl)
          change wpAnyC _ _ _ _ _ _ _ (Act.put _ (some 39) (.tuple #[v7, ev7])) _
          try simp only [Act.put, List.setIfInBounds_toArray, List.set_cons_succ, List.set_cons_zero]
          refine wpAnyC_take (i := 11) (v := v7) rfl (by kernel_rfl) (by kernel_rfl) (by kernel_rfl) (fun _ _ _ h => h) HX7.out (by kernel_rfl) ?_ ?_
          · intro W hW; go_simp; try (with_reducible rfl)
          change wpAnyC _ _ _ _ _ _ _ (Act.put _ (some 50) (v7)) _
          try simp only [Act.put, List.setIfInBounds_toArray, List.set_cons_succ, List.set_cons_zero]
          refine wpAnyC_take (i := 12) (v := ev7) rfl (by kernel_rfl) (by kernel_rfl) (by kernel_rfl) (fun _ _ _ h => h) HX7.out (by kernel_rfl) ?_ ?_
          · intro W hW; go_simp; try (with_reducible rfl)
          change wpAnyC _ _ _ _ _ _ _ (Act.put _ (some 51) (ev7)) _
          try simp only [Act.put, List.setIfInBounds_toArray, List.set_cons_succ, List.set_cons_zero]
          refine wpAnyC_take (i := 13) (v := v7) rfl (by kernel_rfl) (by kernel_rfl) (by kernel_rfl) (fun _ _ _ h => h) HX7.out (by kernel_rfl) ?_ ?_
          · intro W hW; go_simp; try (with_reducible rfl)
          change wpAnyC _ _ _ _ _ _ _ (Act.put _ (some 4) (v7)) _
          try simp only [Act.put, List.setIfInBounds_toArray, List.set_cons_succ, List.set_cons_zero]
          refine wpAnyC_take (i := 14) (v := ev7) rfl (by kernel_rfl) (by kernel_rfl) (by kernel_rfl) (fun _ _ _ h => h) HX7.out (by kernel_rfl) ?_ ?_
          · intro W hW; go_simp; try (with_reducible rfl)
          change wpAnyC _ _ _ _ _ _ _ (Act.put _ (some 5) (ev7)) _
          try simp only [Act.put, List.setIfInBounds_toArray, List.set_cons_succ, List.set_cons_zero]
          refine ⟨by kernel_rfl, ?_⟩
          go_wp2_with fail
          go_meet
          exact ⟨Lib.hid (mres_more HR7.out (hX6.out.size)), HX7.out⟩
      case rest =>
        obtain ⟨HMR, hxc⟩ := hcut
        obtain ⟨s, c, rfl, hout, hyes, hnot⟩ := HMR.out
        have HOUT := Lib.hid hout
        have HYES := Lib.hid hyes
        have HNOT := Lib.hid hnot
        have HX4 := Lib.hid (HX2.out.trans hxc)
        have HBX5 := Lib.hid (HBX4.out.ext hxc)
        have c0 := HBX5.out.cell (j := 0) rfl
        have c1 := HBX5.out.cell (j := 1) rfl
        have c2 := HBX5.out.cell (j := 2) rfl
        have hkz : k.size ≤ 3000 := by omega
        have hbz : b.size ≤ 3000 := by omega
        clear hout hyes hnot hxc
        go_upto_region 6 with (go_at_call 40; refine (rmult_any b k body hbz hkz hbody (HIN.out.ext HX4.out) (by rw [HN.out]; omega)).mono ?_; rintro e w8 ⟨s2, c2', rfl, H8, hx8⟩)
        have HX8 := Lib.hid (HX4.out.trans hx8)
        have HBX8 := Lib.hid (HBX5.out.ext hx8)
        obtain ⟨rfl, rfl⟩ := mout_same HOUT.out H8.out
        have HNU := Lib.hid (fun W => numC_any c W)
        have hcc : (c != c) = false := by simp
        have hss : (s.toList == s.toList) = true := by simp
        clear c0 c1 c2 H8
        rcases HOUT.out with ⟨g1, g2, g3, hs3, rfl⟩ | h1
        · obtain ⟨hbv, hvc⟩ := HYES.out rfl
          have HBV := Lib.hid (hbv.ext hx8)
          obtain ⟨gv, cv, rfl, -, -⟩ := hbv
          have hcv := HBV.out.conv
          have hscv := hvc _ _ _ rfl
          obtain ⟨q1, q2, q3⟩ := good_parts g1
          have hsz : s.size ≤ 64000 := by
            have h1 := preS_size (bnd_size q1) (kind_size q3) hbody xs g3
            rw [hs3, app_size]
            have h2 : (finB b).size ≤ 46 := by
              unfold finB
              rw [app_size, app_size]
              have e1 : (⟨#[45, 45]⟩ : ByteArray).size = 2 := rfl
              have e2 : (⟨#[45, 45, 13, 10]⟩ : ByteArray).size = 4 := rfl
              have := bnd_size q1
              omega
            have h3 := HN.out
            omega
          have HRD := Lib.hid (show rdF b s none = some (xs.map fun p => (p.1, p.2, cutO body p), (body.size : Int)) from by
            rw [hs3]
            exact rd_written q3 q2 xs none g3 (.inl rfl) (.inl g2))
          have HQ1 := Lib.hid q1
          have HG3 := Lib.hid g3
          clear g1 g2 g3 hs3 hx8 q1 q2 q3 hvc HYES HNOT HOUT
          go_upto_region 8 with (go_at_call 15; refine (HNU.out _).mono ?_; rintro e w9 ⟨rfl, rfl⟩)
          clear hcv
          go_upto_region 10 with fail
          have c0 := HBX8.out.cell (j := 0) rfl
          have HRM := Lib.hid (readm_any b s hbz (by omega) (show BytesV w8 0 (.slice (some ⟨gv, 0, none⟩) s.size cv) s from by obtain ⟨g', c', e, -, hr⟩ := HBV.out; exact ⟨g', c', e, Nat.zero_le _, hr⟩) (HM.out.ext HX8.out) (HP.out.ext HX8.out))
          go_upto_region 11 with (go_at_call 26; refine HRM.out.mono ?_; rintro e w10 ⟨v10, n10, ev10, rfl, H10, hx10⟩)
          clear c0
          rcases H10.out with ⟨ps, ⟨-, hrd⟩, rfl, hpt, hpl⟩ | ⟨hno, -⟩
          · rw [HRD.out] at hrd
            obtain ⟨hps, hn10⟩ := Prod.mk.inj (Option.some.inj hrd)
            subst hps
            subst hn10
            have HX10 := Lib.hid (HX8.out.trans hx10)
            have HBX10 := Lib.hid (HBX8.out.ext hx10)
            obtain ⟨ds, hdl, hp3, hdd⟩ := hpt
            have HDD := Lib.hid hdd
            have hzl : ((((xs.map fun p => (p.1, p.2, cutO body p)) : List (Int × Int × ByteArray)).zip ds).map fun q => (q.1.1, q.1.2.1, q.2)).length = n := by
              rw [List.length_map, List.length_zip, hdl, List.length_map, HN.out]; omega
            obtain ⟨A3, c3', e3, hc3, hg3⟩ := hp3.parts
            rw [hzl] at e3 hc3
            subst e3
            have HG3' := Lib.hid hg3
            have HDL := Lib.hid (show ds.length = n by rw [hdl, List.length_map, HN.out])
            have c2 := HBX10.out.cell (j := 2) rfl
            have hbb : ((body.size : Int) != (body.size : Int)) = false := by simp
            have hnn : ((n : Int) != (n : Int)) = false := by simp
            clear hg3 hdl hdd hp3 hzl hrd hpl H10 HRM HRD hx10
            go_upto_region 13 with fail
            clear c2
            go_wp2_with fail
            go_loopw [101] (fun i wr => ∃ m : Nat, m ≤ n ∧ i = .int .i64 m ∧ Ext w10 wr) (fun i _ => n - (intOf i).toNat)
            case atStart => exact ⟨0, by omega, rfl, Ext.refl _⟩
            case round =>
              obtain ⟨m, hm, rfl, hX⟩ := hrel
              by_cases hlt : m < n
              · have hki : (m : Int) < (n : Int) := by omega
                have hk6 : (m : Int) < 13 := by omega
                have hmc3 : m < c3' := by omega
                have hmc : m < cap := by omega
                obtain ⟨⟨f, t⟩, hp⟩ : ∃ r, xs[m]? = some r := ⟨_, List.getElem?_eq_getElem (by rw [HN.out]; exact hlt)⟩
                obtain ⟨dv, hdv⟩ : ∃ r, ds[m]? = some r := ⟨_, List.getElem?_eq_getElem (by rw [HDL.out]; exact hlt)⟩
                have hp3 : ((xs.map fun p => (p.1, p.2, cutO body p)) : List (Int × Int × ByteArray))[m]? = some (f, t, cutO body (f, t)) := by rw [List.getElem?_map, hp]; rfl
                have hz3 : ((((xs.map fun p => (p.1, p.2, cutO body p)) : List (Int × Int × ByteArray)).zip ds).map fun q => (q.1.1, q.1.2.1, q.2))[m]? = some (f, t, dv) := by
                  rw [List.getElem?_map, show ((xs.map fun p => (p.1, p.2, cutO body p)).zip ds)[m]? = some ((f, t, cutO body (f, t)), dv) from List.getElem?_zip_eq_some.2 ⟨hp3, hdv⟩]; rfl
                obtain ⟨g3, rfl, d0, d1, d2⟩ := HG3'.out m _ hz3
                obtain ⟨a, rfl, hg⟩ := HR.out (by omega)
                have hok := HG3.out (f, t) (List.mem_of_getElem? hp)
                obtain ⟨⟨p1, p2, -⟩, p4, -, -⟩ := okC_parts hok
                simp only at p1 p2 p4
                obtain ⟨f, rfl⟩ := Int.eq_ofNat_of_zero_le p1
                obtain ⟨t, rfl⟩ := Int.eq_ofNat_of_zero_le (show 0 ≤ t by omega)
                have hBV : BytesV w10 w8.heap.size dv (cutO body ((f : Int), (t : Int))) := HDD.out m dv _ hdv hp3
                obtain ⟨z, hzz⟩ : ∃ z, body.extract f t = z := ⟨_, rfl⟩
                have hcut : cutO body ((f : Int), (t : Int)) = z := by unfold cutO; simpa using hzz
                rw [hcut] at hBV
                have hft : f ≤ t := by omega
                have hty : t ≤ body.size := by omega
                obtain ⟨gb, capb, rfl, -, hrb⟩ := hBV
                have e0 := hX.cell d0
                have e1 := hX.cell d1
                have e2 := hX.cell d2
                have f0 := fun o => ((HX10.out.trans hX).alloc o).cell (hg m _ hp).1
                have f1 := fun o => ((HX10.out.trans hX).alloc o).cell (hg m _ hp).2
                have c2 := fun o => (HBX10.out.ext (hX.alloc o)).cell (j := 2) rfl
                simp only at e0 e1 e2 f0 f1
                have HZZ := Lib.hid hzz
                have HRB := Lib.hid (hrb.ext hX)
                clear d0 d1 d2 hz3 hp hp3 hdv hrb hg hok hcut hzz p1
                go_upto_region 17 with fail
                obtain ⟨wX, hwX⟩ : ∃ x, x = ((wr.alloc (.cells #[.int .i64 (f : Int), .int .i64 (t : Int), .slice (some ⟨gb, 0, none⟩) z.size capb] 65)).alloc (.cells #[.int .i64 (f : Int), .int .i64 (t : Int)] 43)) := ⟨_, rfl⟩
                have XX : Ext wr wX := by rw [hwX]; exact ((Ext.refl wr).alloc _).alloc _
                have hrow1 : RowB wX wr.heap.size 65 [.int .i64 (f : Int), .int .i64 (t : Int), .slice (some ⟨gb, 0, none⟩) z.size capb] := by rw [hwX]; exact (row_laid wr 65 [.int .i64 (f : Int), .int .i64 (t : Int), .slice (some ⟨gb, 0, none⟩) z.size capb]).ext ((Ext.refl _).alloc _)
                have hrow2 : RowB wX (wr.heap.size + 1) 43 [.int .i64 (f : Int), .int .i64 (t : Int)] := by
                  rw [hwX]
                  have h := row_laid (wr.alloc (.cells #[.int .i64 (f : Int), .int .i64 (t : Int), .slice (some ⟨gb, 0, none⟩) z.size capb] 65)) 43 [.int .i64 (f : Int), .int .i64 (t : Int)]
                  rwa [show (wr.alloc (.cells #[.int .i64 (f : Int), .int .i64 (t : Int), .slice (some ⟨gb, 0, none⟩) z.size capb] 65)).heap.size = wr.heap.size + 1 by simp] at h
                rw [← hwX]
                clear hwX e0 e1 e2 f0 f1 c2
                have r0 := fun q => ((Ext.refl wX).drewN q).cell (hrow1.cell (j := 0) rfl)
                have r1 := fun q => ((Ext.refl wX).drewN q).cell (hrow1.cell (j := 1) rfl)
                have r2 := fun q => ((Ext.refl wX).drewN q).cell (hrow1.cell (j := 2) rfl)
                have s0 := fun q => ((Ext.refl wX).drewN q).cell (hrow2.cell (j := 0) rfl)
                have s1 := fun q => ((Ext.refl wX).drewN q).cell (hrow2.cell (j := 1) rfl)
                have hcv := fun q => BytesV.conv (w := wX.drewN q) (B := 0) ⟨gb, capb, rfl, Nat.zero_le _, HRB.out.ext (XX.drewN q)⟩
                have hff : ((f : Int) != (f : Int)) = false := by simp
                have htt : ((t : Int) != (t : Int)) = false := by simp
                have hzt : (z.toList == z.toList) = true := by simp
                have hzz := HZZ.out
                have HXX := Lib.hid XX
                have HXW := Lib.hid hX
                clear XX hrow1 hrow2 hX
                try simp only at r0 r1 r2 s0 s1
                refine wp_region_quiet_lit (by kernel_rfl) (by kernel_rfl) ?_
                repeat (go_big_quiet_step (fail))
                refine wpQuiet_nil ?_
                rintro _ ⟨nq, rfl⟩
                go_wp2_with fail
                go_roundw
                case rel => exact ⟨m + 1, by omega, by go_num, (HXW.out.trans HXX.out).drewN _⟩
                case measure => first | (simp [intOf]; omega) | omega
              · obtain rfl : m = n := by omega
                go_wp2_with fail
                go_ret
                exact ⟨rfl, HX10.out.trans hX⟩
          · exact absurd (hno HQ1.out) (by rw [HRD.out]; simp)
        · have hc0 : c ≠ 0 := by rcases h1 with ⟨-, -, -, rfl⟩ | ⟨-, -, rfl⟩ <;> decide
          have hs0 : s = ⟨#[]⟩ := by rcases h1 with ⟨-, -, h, -⟩ | ⟨-, h, -⟩ <;> exact h
          obtain rfl := HNOT.out hc0
          have hcv := conv_nil w8
          have hc1 : (c != 0) = true := by simp [hc0]
          have HS0 := Lib.hid hs0
          subst hs0
          clear h1 hx8 HYES HNOT HOUT
          go_wp2_with (go_at_call 15; refine (HNU.out _).mono ?_; rintro e w9 ⟨rfl, rfl⟩)
          go_ret
          exact ⟨rfl, HX8.out⟩
    · have hs' : (3000 : Int) < (g.size : Int) + (k.size : Int) + (b.size : Int) := by omega
      go_enter Tryd.func11, Tryd.ntmps11
      go_upto_region 1 with fail
      obtain ⟨wa, hwa⟩ : ∃ x, x = w.alloc (.cells #[.string b, .string k, .slice A n cap, .int .u16 sz, .string g] 88) := ⟨_, rfl⟩
      have HXA : Hid (Ext w wa) := Lib.hid (by rw [hwa]; exact (Ext.refl w).alloc _)
      have HBX : Hid (RowB wa w.heap.size 88 [.string b, .string k, .slice A n cap, .int .u16 sz, .string g]) := Lib.hid (by rw [hwa]; exact row_laid w 88 [.string b, .string k, .slice A n cap, .int .u16 sz, .string g])
      rw [← hwa]
      clear hwa
      go_upto_region 2 with (go_at_call 12; refine (HAW.out _ HXA.out).mono ?_; rintro e w1 ⟨rfl, hx1⟩; have c0 := (HBX.out.ext hx1).cell (j := 0) rfl; have c1 := (HBX.out.ext hx1).cell (j := 1) rfl; have c2 := (HBX.out.ext hx1).cell (j := 2) rfl; have c4 := (HBX.out.ext hx1).cell (j := 4) rfl)
      have HX1 := Lib.hid (HXA.out.trans hx1)
      clear hx1 c0 c1 c2 c4
      go_wp2_with (go_at_call 12; refine (HAW.out _ HX1.out).mono ?_; rintro e w2 ⟨rfl, hx2⟩)
      go_ret
      exact ⟨rfl, HX1.out.trans hx2⟩
  · have hn' : (12 : Int) < (n : Int) := by omega
    go_enter Tryd.func11, Tryd.ntmps11
    go_upto_region 1 with fail
    obtain ⟨wa, hwa⟩ : ∃ x, x = w.alloc (.cells #[.string b, .string k, .slice A n cap, .int .u16 sz, .string g] 88) := ⟨_, rfl⟩
    have HXA : Hid (Ext w wa) := Lib.hid (by rw [hwa]; exact (Ext.refl w).alloc _)
    have HBX : Hid (RowB wa w.heap.size 88 [.string b, .string k, .slice A n cap, .int .u16 sz, .string g]) := Lib.hid (by rw [hwa]; exact row_laid w 88 [.string b, .string k, .slice A n cap, .int .u16 sz, .string g])
    rw [← hwa]
    clear hwa
    go_upto_region 2 with (go_at_call 12; refine (HAW.out _ HXA.out).mono ?_; rintro e w1 ⟨rfl, hx1⟩; have c0 := (HBX.out.ext hx1).cell (j := 0) rfl; have c1 := (HBX.out.ext hx1).cell (j := 1) rfl; have c2 := (HBX.out.ext hx1).cell (j := 2) rfl; have c4 := (HBX.out.ext hx1).cell (j := 4) rfl)
    have HX1 := Lib.hid (HXA.out.trans hx1)
    clear hx1 c0 c1 c2 c4
    go_wp2_with (go_at_call 12; refine (HAW.out _ HX1.out).mono ?_; rintro e w2 ⟨rfl, hx2⟩)
    go_ret
    exact ⟨rfl, HX1.out.trans hx2⟩
end Go.Proofs.YteamnofooicbeaaDoor
