/- Chapter 52: Join. -/
import Derived.Test.YtjdbhemojopnlaaMgX
namespace Go.Proofs.Ytjdbhemojopnlaa
open Go.RowKit Go.Maps
open Go.ChangeMaps (setBlock)
attribute [local go_sem 2000] equal_ent
set_option maxRecDepth 100000 in
set_option maxHeartbeats 4000000 in
theorem join_any (q b q' b' : Nat) (L M : List Ent) (w : World) (hS : SetAt w q b L) (hS' : SetAt w q' b' M) :
    Calls Try.prog 21 #[.pointer (some ⟨q, 0, none⟩), .pointer (some ⟨q', 0, none⟩)] w fun e w' =>
      (¬ Fits L M ∧ e = .returned (errV 20) ∧ Ext w w') ∨ (Fits L M ∧ e = .returned .nilIface ∧ w.grownBy w' (some b) ∧ ∃ C, SetAt w' q b C ∧ ∀ x, x ∈ C ↔ x ∈ L ∨ x ∈ M) := by
  have hc := hS.c
  have hc' := hS'.c
  have HS := Lib.hid (And.intro hS hS')
  have hb' := hS'.hb
  clear hS hS'
  go_enter Try.func21, Try.ntmps21
  go_wp2_with (first
    | (at_range; refine wpList_range_mp rfl _ rfl rfl hb' ?_; intro hI0)
    | go_in)
  go_frame
  obtain ⟨r, hr⟩ : ∃ r, w.heap.size = r := ⟨_, rfl⟩
  have HR := Lib.hid hr
  rw [hr] at hI0 ⊢
  go_loopw [5, 6, 7, 8] (fun _ _ _ _ wr => ∃ s, ItAt wr r b' M s ∧ Hid (Ext w wr ∧ ∀ x ∈ picks M s, ∀ y ∈ L, y.key = x.key → y = x)) (fun _ _ _ _ wr => itLeft wr r)
  case atStart => exact ⟨[], hI0, Lib.hid ⟨(Ext.refl w).alloc _, by simp [picks]⟩⟩
  case round =>
    obtain ⟨s, hI, HX⟩ := hrel
    go_wp2_with (first
      | (at_next; refine wpList_next_mp rfl _ rfl rfl hI ?_ ?_)
      | go_in)
    · intro hlen
      have hfit : Fits L M := fun x hx y hy hk => HX.out.2 x ((picks_perm M hI.nd hI.lt hlen).mem_iff.2 hx) y hy hk
      have hcr := HX.out.1.cell hc
      have hcr' := HX.out.1.cell hc'
      have c1 : ∀ n : Wd wr, n.val.cell? ⟨q, 0, none⟩ = some (.map (some b)) := fun n => n.ext.cell hcr
      have c2 : ∀ n : Wd wr, n.val.cell? ⟨q', 0, none⟩ = some (.map (some b')) := fun n => n.ext.cell hcr'
      clear hcr hcr' hc hc'
      go_upto_region 11 with fail
      have HCO : Hid (∀ n : Wd wr, Calls Try.prog 38 #[.map (some b), .map (some b')] n.val fun e w' => e = .returned (.tuple #[]) ∧ w.grownBy w' (some b) ∧ ∃ C, SetAt w' q b C ∧ ∀ x, x ∈ C ↔ x ∈ L ∨ x ∈ M) := Lib.hid (fun n => by
        have h1 := HS.out.1.ext (HX.out.1.trans n.ext)
        have h2 := HS.out.2.ext (HX.out.1.trans n.ext)
        refine (copy_any b b' L M n.val h1.hb h2.hb h1.ok h2.ok h1.nd h2.nd hfit).mono ?_
        rintro e w' ⟨rfl, hg, C, hC, hok, hnd, hm⟩
        exact ⟨rfl, ((HX.out.1.trans n.ext).grown (some b)).andThen hg (fun j hj => .inr hj), C, ⟨(World.cell?_of_block (hg.block q (World.block_lt_of_cell? _ _ h1.c) (by simpa using h1.ne))).trans h1.c, hC, hok, hnd⟩, hm⟩)
      have HFI := Lib.hid hfit
      clear hfit
      refine wp_region_wd_tail 8 (by kernel_rfl) (by kernel_rfl) ?_
      simp only [List.take_succ_cons, List.take_zero, List.drop_succ_cons, List.drop_zero]
      repeat (go_big_quiet_step (fail))
      refine wpQuiet_nil ?_
      rintro _ ⟨nq, rfl⟩
      clear c1 c2
      go_wp2_with (go_at_call 38; refine (HCO.out nq).mono ?_; rintro e w5 ⟨rfl, hg5, hC5⟩)
      go_ret
      exact .inr ⟨HFI.out, rfl, hg5, hC5⟩
    · intro i x w2 hx hns hI2 hg2 hs2 hen
      have hps : picks M (s ++ [i]) = picks M s ++ [x] := picks_snoc M s hx
      have HPS := Lib.hid hps
      have HXM := Lib.hid (List.mem_of_getElem? hx)
      have hlt2 : itLeft w2 r < itLeft wr r := by rw [hI2.left, hI.left]; have := hI2.len; simp at this ⊢; omega
      dsimp only [Ent.v, Ent.k] at hen ⊢
      clear hs2 hps
      go_upto_region 8 with fail
      obtain ⟨wz, hwz⟩ : ∃ wz, wz = (w2.alloc (.cells #[.string x.nd, .int .i64 x.bt, .int .i64 x.sq] 66)).alloc (.cells x.cs.toArray 41) := ⟨_, rfl⟩
      have XZ : Ext w2 wz := by rw [hwz]; exact ((Ext.refl w2).alloc _).alloc _
      have k0 : ∀ j u, [Value.string x.nd, .int .i64 x.bt, .int .i64 x.sq][j]? = some u → wz.cell? ⟨w2.heap.size, j, none⟩ = some u := fun j u hj => by
        rw [hwz]
        exact ((Ext.refl _).alloc _).cell (cell_at_new w2 _ _ _ rfl j u hj)
      have v0 : RowB wz (w2.heap.size + 1) 41 x.cs := by
        rw [hwz]
        have := row_laid (w2.alloc (.cells #[.string x.nd, .int .i64 x.bt, .int .i64 x.sq] 66)) 41 x.cs
        simpa using this
      have hX2 : Ext w w2 := Below.grown HX.out.1 hg2 HX.out.1.size (fun j hj => by cases hj; have := HR.out; omega)
      have hitz : ItAt wz r b' M (s ++ [i]) := hI2.kept (Below.block XZ b' (Array.getElem?_eq_some_iff.1 hI2.hb).1) (Below.block XZ _ (Array.getElem?_eq_some_iff.1 hI2.hr).1)
      have HIZ := Lib.hid hitz
      have HXZ := Lib.hid (hX2.trans XZ)
      have HLT := Lib.hid (show itLeft wz r < itLeft wr r by rw [hitz.left, ← hI2.left]; exact hlt2)
      have HKZ : Hid (∀ W, Ext wz W → W.cell? ⟨w2.heap.size, 0, none⟩ = some (.string x.nd) ∧ W.cell? ⟨w2.heap.size, 1, none⟩ = some (.int .i64 x.bt) ∧ W.cell? ⟨w2.heap.size, 2, none⟩ = some (.int .i64 x.sq)) := Lib.hid (fun W hW => ⟨hW.cell (k0 0 _ rfl), hW.cell (k0 1 _ rfl), hW.cell (k0 2 _ rfl)⟩)
      have HVZ := Lib.hid v0
      have HCZ : Hid (∀ W, Ext wz W → W.cell? ⟨q, 0, none⟩ = some (.map (some b))) := Lib.hid (fun W hW => (HXZ.out.trans hW).cell hc)
      have hLk : ∃ (old : Ent) (there : Bool), (∀ W, Ext wz W → (Instr.lookup 68 (.map (some b)) x.k true).run Try.prog W = .ok (.tuple #[old.v, .bool there]) W) ∧ ((there = false ∧ ∀ y ∈ L, y.key ≠ x.key) ∨ (there = true ∧ old ∈ L ∧ old.key = x.key)) := by
        have hwx : x.wf := Ent.good.wf (HS.out.2.ok x HXM.out)
        have hwL : ∀ e ∈ L, e.wf := fun e he => Ent.good.wf (HS.out.1.ok e he)
        have hbW : ∀ W, Ext wz W → W.heap[b]? = some (mpO L) := fun W hW => (HS.out.1.ext (HXZ.out.trans hW)).hb
        rcases look_mp (hbW wz (Ext.refl _)) hwL x hwx true with ⟨hn, _⟩ | ⟨e, he, hk, _⟩
        · refine ⟨entZ, false, fun W hW => ?_, .inl ⟨rfl, hn⟩⟩
          rcases look_mp (hbW W hW) hwL x hwx true with ⟨_, hr⟩ | ⟨e, he, hk, _⟩
          · exact hr
          · exact absurd hk (hn e he)
        · refine ⟨e, true, fun W hW => ?_, .inr ⟨rfl, he, hk⟩⟩
          rcases look_mp (hbW W hW) hwL x hwx true with ⟨hn, _⟩ | ⟨e', he', hk', hr⟩
          · exact absurd hk (hn e he)
          · rw [pair_unique HS.out.1.nd he he' (hk.trans hk'.symm)]; exact hr
      obtain ⟨old, there, hLK, hcase⟩ := hLk
      have HL := Lib.hid hLK
      have HCS := Lib.hid hcase
      simp only [Ent.v, Ent.k] at HL
      simp only [Ent.cs] at hwz
      rw [← hwz]
      obtain ⟨t5, ht5⟩ : ∃ t, w2.heap.size = t := ⟨_, rfl⟩
      rw [ht5] at HKZ HVZ ⊢
      clear hwz k0 v0 hitz XZ hI2 hg2 hen hX2 hlt2 hLK hcase ht5 hc hc' hx
      go_cut [7, 8] (fun pv kv wx => ∃ mb, pv = .pointer (some ⟨mb, 0, none⟩) ∧ kv = .bool there ∧ Ext wz wx ∧ RowB wx mb 41 old.cs)
      case first =>
        refine wp_region_C (C := fun w' => Ext wz w') (by kernel_rfl) ?_
        have HN1 := Lib.hid (show Ext wz wz.drew from (Ext.refl _).drew)
        refine wpAnyC_take (i := 0) (v := .pointer (some ⟨q, 0, none⟩)) rfl (by kernel_rfl) (by kernel_rfl) (by kernel_rfl) (fun _ _ _ h => h) HN1.out (by kernel_rfl) ?_ ?_
        · intro W hW; go_simp; all_goals first | (with_reducible rfl) | skip
        change wpAnyC _ _ _ _ _ _ _ (Act.put _ (some 25) (.pointer (some ⟨q, 0, none⟩))) _
        try simp only [Act.put, List.setIfInBounds_toArray, List.set_cons_succ, List.set_cons_zero]
        refine wpAnyC_take (i := 1) (v := .pointer (some ⟨q, 0, none⟩)) rfl (by kernel_rfl) (by kernel_rfl) (by kernel_rfl) (fun _ _ _ h => h) HN1.out (by kernel_rfl) ?_ ?_
        · intro W hW; go_simp; all_goals first | (with_reducible rfl) | skip
        change wpAnyC _ _ _ _ _ _ _ (Act.put _ (some 26) (.pointer (some ⟨q, 0, none⟩))) _
        try simp only [Act.put, List.setIfInBounds_toArray, List.set_cons_succ, List.set_cons_zero]
        refine wpAnyC_take (i := 2) (v := .pointer (some ⟨q, 0, none⟩)) rfl (by kernel_rfl) (by kernel_rfl) (by kernel_rfl) (fun _ _ _ h => h) HN1.out (by kernel_rfl) ?_ ?_
        · intro W hW; go_simp; all_goals first | (with_reducible rfl) | skip
        change wpAnyC _ _ _ _ _ _ _ (Act.put _ (some 27) (.pointer (some ⟨q, 0, none⟩))) _
        try simp only [Act.put, List.setIfInBounds_toArray, List.set_cons_succ, List.set_cons_zero]
        refine wpAnyC_take (i := 3) (v := .map (some b)) rfl (by kernel_rfl) (by kernel_rfl) (by kernel_rfl) (fun _ _ _ h => h) HN1.out (by kernel_rfl) ?_ ?_
        · intro W hW; have zz := HCZ.out _ hW; go_simp; all_goals first | (with_reducible rfl) | skip
        change wpAnyC _ _ _ _ _ _ _ (Act.put _ (some 28) (.map (some b))) _
        try simp only [Act.put, List.setIfInBounds_toArray, List.set_cons_succ, List.set_cons_zero]
        refine wpAnyC_take (i := 4) (v := .agg #[.string x.nd, .int .i64 x.bt, .int .i64 x.sq]) rfl (by kernel_rfl) (by kernel_rfl) (by kernel_rfl) (fun _ _ _ h => h) HN1.out (by kernel_rfl) ?_ ?_
        · intro W hW; obtain ⟨z0, z1, z2⟩ := HKZ.out _ hW; go_simp; all_goals first | (with_reducible rfl) | skip
        change wpAnyC _ _ _ _ _ _ _ (Act.put _ (some 29) (.agg #[.string x.nd, .int .i64 x.bt, .int .i64 x.sq])) _
        try simp only [Act.put, List.setIfInBounds_toArray, List.set_cons_succ, List.set_cons_zero]
        refine wpAnyC_take (i := 5) (v := .tuple #[.agg #[.string old.nd, .int .i64 old.bt, .int .i64 old.sq, .int .i64 old.tn, .int .i64 old.ht, .int .i64 old.by_, .int .i64 old.at_], .bool there]) rfl (by kernel_rfl) (by kernel_rfl) (by kernel_rfl) (fun _ _ _ h => h) HN1.out (by kernel_rfl) ?_ ?_
        · intro W hW; have zz := HL.out _ hW; go_simp; all_goals first | (with_reducible rfl) | skip
        change wpAnyC _ _ _ _ _ _ _ (Act.put _ (some 30) (.tuple #[.agg #[.string old.nd, .int .i64 old.bt, .int .i64 old.sq, .int .i64 old.tn, .int .i64 old.ht, .int .i64 old.by_, .int .i64 old.at_], .bool there])) _
        try simp only [Act.put, List.setIfInBounds_toArray, List.set_cons_succ, List.set_cons_zero]
        refine wpAnyC_take (i := 6) (v := .tuple #[.agg #[.string old.nd, .int .i64 old.bt, .int .i64 old.sq, .int .i64 old.tn, .int .i64 old.ht, .int .i64 old.by_, .int .i64 old.at_], .bool there]) rfl (by kernel_rfl) (by kernel_rfl) (by kernel_rfl) (fun _ _ _ h => h) HN1.out (by kernel_rfl) ?_ ?_
        · intro W hW; go_simp; all_goals first | (with_reducible rfl) | skip
        change wpAnyC _ _ _ _ _ _ _ (Act.put _ (some 24) (.tuple #[.agg #[.string old.nd, .int .i64 old.bt, .int .i64 old.sq, .int .i64 old.tn, .int .i64 old.ht, .int .i64 old.by_, .int .i64 old.at_], .bool there])) _
        try simp only [Act.put, List.setIfInBounds_toArray, List.set_cons_succ, List.set_cons_zero]
        refine wpAnyC_take (i := 7) (v := .agg #[.string old.nd, .int .i64 old.bt, .int .i64 old.sq, .int .i64 old.tn, .int .i64 old.ht, .int .i64 old.by_, .int .i64 old.at_]) rfl (by kernel_rfl) (by kernel_rfl) (by kernel_rfl) (fun _ _ _ h => h) HN1.out (by kernel_rfl) ?_ ?_
        · intro W hW; go_simp; all_goals first | (with_reducible rfl) | skip
        change wpAnyC _ _ _ _ _ _ _ (Act.put _ (some 31) (.agg #[.string old.nd, .int .i64 old.bt, .int .i64 old.sq, .int .i64 old.tn, .int .i64 old.ht, .int .i64 old.by_, .int .i64 old.at_])) _
        try simp only [Act.put, List.setIfInBounds_toArray, List.set_cons_succ, List.set_cons_zero]
        refine wpAnyC_take (i := 8) (v := .bool there) rfl (by kernel_rfl) (by kernel_rfl) (by kernel_rfl) (fun _ _ _ h => h) HN1.out (by kernel_rfl) ?_ ?_
        · intro W hW; go_simp; all_goals first | (with_reducible rfl) | skip
        change wpAnyC _ _ _ _ _ _ _ (Act.put _ (some 32) (.bool there)) _
        try simp only [Act.put, List.setIfInBounds_toArray, List.set_cons_succ, List.set_cons_zero]
        refine wpAnyC_one 9 (by kernel_rfl) rfl (by kernel_rfl) (fun KK hKK => ?_)
        go_simp
        refine hKK _ _ (Ext.alloc HN1.out _) ?_
        clear hKK KK
        try simp only [Act.put, List.setIfInBounds_toArray, List.set_cons_succ, List.set_cons_zero]
        refine wpAnyC_one 10 (by kernel_rfl) rfl (by kernel_rfl) (fun KK hKK => ?_)
        go_simp
        refine hKK _ _ (Ext.alloc HN1.out _) ?_
        clear hKK KK
        try simp only [Act.put, List.setIfInBounds_toArray, List.set_cons_succ, List.set_cons_zero]
        refine wpAnyC_one 11 (by kernel_rfl) rfl (by kernel_rfl) (fun KK hKK => ?_)
        go_simp
        refine hKK _ _ (Ext.alloc HN1.out _) ?_
        clear hKK KK
        try simp only [Act.put, List.setIfInBounds_toArray, List.set_cons_succ, List.set_cons_zero]
        refine ⟨by kernel_rfl, ?_⟩
        go_wp2_with fail
        go_meet
        exact ⟨wz.heap.size, rfl, rfl, Ext.alloc HN1.out _, row_laid _ _ old.cs⟩
      obtain ⟨mb, rfl, rfl, hx2, HM⟩ := hcut
      obtain ⟨t0, t1, t2, t3, t4, t5', t6⟩ := ent_cells (HVZ.out.ext hx2)
      obtain ⟨m0, m1, m2, m3, m4, m5, m6⟩ := ent_cells HM
      have HX2 := Lib.hid hx2
      obtain ⟨c, hcc⟩ : ∃ c, eqE old.nd old.bt old.sq old.tn old.ht old.by_ old.at_ x.nd x.bt x.sq x.tn x.ht x.by_ x.at_ = c := ⟨_, rfl⟩
      have HCC : Hid (c = decide (old = x)) := Lib.hid (hcc.symm.trans (eqE_ent old x))
      clear hx2 HM
      have goon : ((there = false ∧ ∀ y ∈ L, y.key ≠ x.key) ∨ old = x) → ∃ s, ItAt wc r b' M s ∧ Hid (Ext w wc ∧ ∀ x ∈ picks M s, ∀ y ∈ L, y.key = x.key → y = x) := by
        intro hor
        refine ⟨s ++ [i], HIZ.out.kept (Below.block HX2.out b' (Array.getElem?_eq_some_iff.1 HIZ.out.hb).1) (Below.block HX2.out _ (Array.getElem?_eq_some_iff.1 HIZ.out.hr).1), Lib.hid ⟨HXZ.out.trans HX2.out, fun z hz y hy hk => ?_⟩⟩
        rw [HPS.out] at hz
        rcases List.mem_append.1 hz with hz | hz
        · exact HX.out.2 z hz y hy hk
        · simp only [List.mem_singleton] at hz
          subst hz
          rcases hor with ⟨_, hno⟩ | rfl
          · exact absurd hk (hno y hy)
          · rcases HCS.out with ⟨_, hno⟩ | ⟨_, ho, _⟩
            · exact absurd hk (hno y hy)
            · exact pair_unique HS.out.1.nd hy ho hk
      have GO := Lib.hid goon
      have GL : Hid (itLeft wc r < itLeft wr r) := Lib.hid (by
        have h1 : itLeft wc r = itLeft wz r := by unfold itLeft; rw [Below.block HX2.out _ (Array.getElem?_eq_some_iff.1 HIZ.out.hr).1]
        rw [h1]; exact HLT.out)
      clear goon
      cases there with
      | false =>
        have hno : ∀ y ∈ L, y.key ≠ x.key := by rcases HCS.out with ⟨_, h⟩ | ⟨h, _⟩; · exact h
                                                · cases h
        have HNO := Lib.hid hno
        clear hno
        go_wp2_with fail
        go_roundw
        case rel => exact GO.out (.inl ⟨rfl, HNO.out⟩)
        case measure => exact GL.out
      | true =>
        cases c with
        | true =>
          go_wp2_with fail
          go_roundw
          case rel => exact GO.out (.inr (of_decide_eq_true HCC.out.symm))
          case measure => exact GL.out
        | false =>
          have hne := of_decide_eq_false HCC.out.symm
          have HNE := Lib.hid hne
          clear hne
          go_wp2_with fail
          go_ret
          refine .inl ⟨fun hf => ?_, rfl, HXZ.out.trans HX2.out⟩
          rcases HCS.out with ⟨h, _⟩ | ⟨_, ho, hk⟩
          · cases h
          · exact HNE.out (hf x HXM.out old ho hk)
end Go.Proofs.Ytjdbhemojopnlaa
