/- Chapter 52: Put. -/
import Derived.Test.YtjdbhemojopnlaaMgH
namespace Go.Proofs.Ytjdbhemojopnlaa
open Go.RowKit Go.Maps
open Go.ChangeMaps (setBlock)
set_option maxRecDepth 100000 in
theorem of_any (x : Ent) (w : World) : Calls Try.prog 31 #[x.v] w fun e w' => e = .returned x.k ∧ Ext w w' := by
  dsimp only [Ent.v, Ent.k]
  go_enter Try.func31, Try.ntmps31
  go_wp2_with fail
  go_returns
  all_goals try exact ⟨rfl, ((Ext.refl w).alloc _).alloc _⟩
theorem Ent.eq_of {x y : Ent} (h : x.nd = y.nd ∧ x.bt = y.bt ∧ x.sq = y.sq ∧ x.tn = y.tn ∧ x.ht = y.ht ∧ x.by_ = y.by_ ∧ x.at_ = y.at_) : x = y := by
  cases x; cases y; simp_all
theorem row_laid (w : World) (e : TypeId) (xs : List Value) : RowB (w.alloc (.cells xs.toArray e)) w.heap.size e xs :=
  ⟨xs.toArray, (0, 0), [], World.alloc_heap_new w _, fun _ h1 h2 => by omega, by simp⟩
theorem ent_cells {w : World} {g : Nat} {x : Ent} (h : RowB w g 41 x.cs) : w.cell? ⟨g, 0, none⟩ = some (.string x.nd) ∧ w.cell? ⟨g, 1, none⟩ = some (.int .i64 x.bt) ∧ w.cell? ⟨g, 2, none⟩ = some (.int .i64 x.sq) ∧
    w.cell? ⟨g, 3, none⟩ = some (.int .i64 x.tn) ∧ w.cell? ⟨g, 4, none⟩ = some (.int .i64 x.ht) ∧ w.cell? ⟨g, 5, none⟩ = some (.int .i64 x.by_) ∧ w.cell? ⟨g, 6, none⟩ = some (.int .i64 x.at_) :=
  ⟨h.cell (j := 0) rfl, h.cell (j := 1) rfl, h.cell (j := 2) rfl, h.cell (j := 3) rfl, h.cell (j := 4) rfl, h.cell (j := 5) rfl, h.cell (j := 6) rfl⟩
theorem ext_set7 {a w : World} (h : Ext a w) {g : Nat} (hg : a.heap.size ≤ g) (v0 v1 v2 v3 v4 v5 v6 : Value) : Ext a (((((((w.setCell ⟨g, 0, none⟩ v0).setCell ⟨g, 1, none⟩ v1).setCell ⟨g, 2, none⟩ v2).setCell ⟨g, 3, none⟩ v3).setCell ⟨g, 4, none⟩ v4).setCell ⟨g, 5, none⟩ v5).setCell ⟨g, 6, none⟩ v6) :=
  ((((((h.setCell (p := ⟨g, 0, none⟩) hg v0).setCell (p := ⟨g, 1, none⟩) hg v1).setCell (p := ⟨g, 2, none⟩) hg v2).setCell (p := ⟨g, 3, none⟩) hg v3).setCell (p := ⟨g, 4, none⟩) hg v4).setCell (p := ⟨g, 5, none⟩) hg v5).setCell (p := ⟨g, 6, none⟩) hg v6
theorem row_set7 {w : World} {g : Nat} {x : Ent} (h : RowB w g 41 x.cs) (y : Ent) :
    RowB (((((((w.setCell ⟨g, 0, none⟩ (.string y.nd)).setCell ⟨g, 1, none⟩ (.int .i64 y.bt)).setCell ⟨g, 2, none⟩ (.int .i64 y.sq)).setCell ⟨g, 3, none⟩ (.int .i64 y.tn)).setCell ⟨g, 4, none⟩ (.int .i64 y.ht)).setCell ⟨g, 5, none⟩ (.int .i64 y.by_)).setCell ⟨g, 6, none⟩ (.int .i64 y.at_)) g 41 y.cs :=
  ((((((h.set 0 (.string y.nd) (by simp [Ent.cs])).set 1 (.int .i64 y.bt) (by simp [Ent.cs])).set 2 (.int .i64 y.sq) (by simp [Ent.cs])).set 3 (.int .i64 y.tn) (by simp [Ent.cs])).set 4 (.int .i64 y.ht) (by simp [Ent.cs])).set 5 (.int .i64 y.by_) (by simp [Ent.cs])).set 6 (.int .i64 y.at_) (by simp [Ent.cs])
set_option maxRecDepth 100000 in
set_option maxHeartbeats 1000000 in
theorem put_fits (q b : Nat) (x : Ent) (old : Ent) (there : Bool) (ho : there = true → old = x) (o' : Obj) (w : World) (hc : w.cell? ⟨q, 0, none⟩ = some (.map (some b)))
    (hs : (x.nd.size : Int) ≤ 9223372036854775807) (hn : nmB x.nd = true) (h : okE x.bt x.sq x.tn x.ht x.by_ x.at_)
    (HL : ∀ W, Ext w W → (Instr.lookup 68 (.map (some b)) x.k true).run Try.prog W = .ok (.tuple #[old.v, .bool there]) W)
    (HU : ∀ W, Ext w W → (Instr.mapUpdate 68 (.map (some b)) x.k x.v).run Try.prog W = .ok () (setBlock W b o')) :
    Calls Try.prog 19 #[.pointer (some ⟨q, 0, none⟩), x.v] w fun e w' => e = .returned (.tuple #[.bool (!there), .nilIface]) ∧ ∃ W1, Ext w W1 ∧ w' = setBlock W1 b o' := by
  have HCK := Lib.hid (fun W => check_ok x.nd x.bt x.sq x.tn x.ht x.by_ x.at_ hs hn h W)
  have HLH := Lib.hid HL
  have HUH := Lib.hid HU
  have HC := Lib.hid hc
  clear HL HU hs hn h
  dsimp only [Ent.v]
  go_enter Try.func19, Try.ntmps19
  obtain ⟨w0, hw0⟩ : ∃ w0, w0 = w.alloc (.cells x.cs.toArray 41) := ⟨_, rfl⟩
  have X0 : Ext w w0 := by rw [hw0]; exact (Ext.refl w).alloc _
  have HT : Hid (RowB w0 w.heap.size 41 x.cs) := Lib.hid (by rw [hw0]; exact row_laid _ _ _)
  have HOF : Hid (∀ W, Calls Try.prog 31 #[.agg #[.string x.nd, .int .i64 x.bt, .int .i64 x.sq, .int .i64 x.tn, .int .i64 x.ht, .int .i64 x.by_, .int .i64 x.at_]] W fun e w' => e = .returned (.agg #[.string x.nd, .int .i64 x.bt, .int .i64 x.sq]) ∧ Ext W w') := Lib.hid (fun W => of_any x W)
  go_upto_region 1 with fail
  simp only [Ent.cs] at hw0
  rw [← hw0]
  clear hw0
  obtain ⟨t0, t1, t2, t3, t4, t5, t6⟩ := ent_cells HT.out
  go_upto_region 6 with (go_at_call 30; refine (HCK.out _).mono ?_; rintro e w1 ⟨rfl, hx1⟩)
  clear t0 t1 t2 t3 t4 t5 t6
  have HT1 := Lib.hid (HT.out.ext hx1)
  have HX1 := Lib.hid (X0.trans hx1)
  have HC1 := Lib.hid (fun W (hW : Ext w1 W) => ((X0.trans hx1).trans hW).cell HC.out)
  simp only [Ent.v, Ent.k] at HLH
  go_cut [7, 8] (fun pv kv wx => ∃ mb, pv = .pointer (some ⟨mb, 0, none⟩) ∧ kv = .bool there ∧ Ext w1 wx ∧ RowB wx mb 41 old.cs)
  case first =>
    refine wp_region_C (C := fun w' => Ext w1 w') (by kernel_rfl) ?_
    have HN1 := Lib.hid (show Ext w1 w1.drew from (Ext.refl _).drew)
    refine wpAnyC_take (i := 0) (v := .pointer (some ⟨q, 0, none⟩)) rfl (by kernel_rfl) (by kernel_rfl) (by kernel_rfl) (fun _ _ _ h => h) HN1.out (by kernel_rfl) ?_ ?_
    · intro W hW; go_simp; try (with_reducible rfl)
    change wpAnyC _ _ _ _ _ _ _ (Act.put _ (some 18) (.pointer (some ⟨q, 0, none⟩))) _
    try simp only [Act.put, List.setIfInBounds_toArray, List.set_cons_succ, List.set_cons_zero]
    refine wpAnyC_take (i := 1) (v := .pointer (some ⟨q, 0, none⟩)) rfl (by kernel_rfl) (by kernel_rfl) (by kernel_rfl) (fun _ _ _ h => h) HN1.out (by kernel_rfl) ?_ ?_
    · intro W hW; go_simp; try (with_reducible rfl)
    change wpAnyC _ _ _ _ _ _ _ (Act.put _ (some 19) (.pointer (some ⟨q, 0, none⟩))) _
    try simp only [Act.put, List.setIfInBounds_toArray, List.set_cons_succ, List.set_cons_zero]
    refine wpAnyC_take (i := 2) (v := .pointer (some ⟨q, 0, none⟩)) rfl (by kernel_rfl) (by kernel_rfl) (by kernel_rfl) (fun _ _ _ h => h) HN1.out (by kernel_rfl) ?_ ?_
    · intro W hW; go_simp; try (with_reducible rfl)
    change wpAnyC _ _ _ _ _ _ _ (Act.put _ (some 20) (.pointer (some ⟨q, 0, none⟩))) _
    try simp only [Act.put, List.setIfInBounds_toArray, List.set_cons_succ, List.set_cons_zero]
    refine wpAnyC_take (i := 3) (v := .map (some b)) rfl (by kernel_rfl) (by kernel_rfl) (by kernel_rfl) (fun _ _ _ h => h) HN1.out (by kernel_rfl) ?_ ?_
    · intro W hW; have zz := HC1.out _ hW; go_simp; try (with_reducible rfl)
    change wpAnyC _ _ _ _ _ _ _ (Act.put _ (some 21) (.map (some b))) _
    try simp only [Act.put, List.setIfInBounds_toArray, List.set_cons_succ, List.set_cons_zero]
    refine wpAnyC_take (i := 4) (v := .agg #[.string x.nd, .int .i64 x.bt, .int .i64 x.sq, .int .i64 x.tn, .int .i64 x.ht, .int .i64 x.by_, .int .i64 x.at_]) rfl (by kernel_rfl) (by kernel_rfl) (by kernel_rfl) (fun _ _ _ h => h) HN1.out (by kernel_rfl) ?_ ?_
    · intro W hW; obtain ⟨z0, z1, z2, z3, z4, z5, z6⟩ := ent_cells (HT1.out.ext hW); go_simp; try (with_reducible rfl)
    change wpAnyC _ _ _ _ _ _ _ (Act.put _ (some 22) (.agg #[.string x.nd, .int .i64 x.bt, .int .i64 x.sq, .int .i64 x.tn, .int .i64 x.ht, .int .i64 x.by_, .int .i64 x.at_])) _
    try simp only [Act.put, List.setIfInBounds_toArray, List.set_cons_succ, List.set_cons_zero]
    refine wpAnyC_two 5 10 (by kernel_rfl) ?_ ?_
    · refine wpOpC_of rfl (by kernel_rfl) (fun KK hKK => ?_)
      go_simp
      refine (HOF.out _).mono ?_
      rintro e wh ⟨rfl, hxh⟩
      refine hKK _ _ (Ext.trans HN1.out hxh) ?_
      clear hKK KK
      try simp only [Act.put, List.setIfInBounds_toArray, List.set_cons_succ, List.set_cons_zero]
      have XH := Ext.trans HN1.out hxh
      refine wpAnyC_take (i := 6) (v := .tuple #[.agg #[.string old.nd, .int .i64 old.bt, .int .i64 old.sq, .int .i64 old.tn, .int .i64 old.ht, .int .i64 old.by_, .int .i64 old.at_], .bool there]) rfl (by kernel_rfl) (by kernel_rfl) (by kernel_rfl) (fun _ _ _ h => h) XH (by kernel_rfl) ?_ ?_
      · intro W hW; have zz := HLH.out W (HX1.out.trans hW); go_simp; try (with_reducible rfl)
      change wpAnyC _ _ _ _ _ _ _ (Act.put _ (some 24) (.tuple #[.agg #[.string old.nd, .int .i64 old.bt, .int .i64 old.sq, .int .i64 old.tn, .int .i64 old.ht, .int .i64 old.by_, .int .i64 old.at_], .bool there])) _
      try simp only [Act.put, List.setIfInBounds_toArray, List.set_cons_succ, List.set_cons_zero]
      refine wpAnyC_take (i := 7) (v := .tuple #[.agg #[.string old.nd, .int .i64 old.bt, .int .i64 old.sq, .int .i64 old.tn, .int .i64 old.ht, .int .i64 old.by_, .int .i64 old.at_], .bool there]) rfl (by kernel_rfl) (by kernel_rfl) (by kernel_rfl) (fun _ _ _ h => h) XH (by kernel_rfl) ?_ ?_
      · intro W hW; go_simp; try (with_reducible rfl)
      change wpAnyC _ _ _ _ _ _ _ (Act.put _ (some 17) (.tuple #[.agg #[.string old.nd, .int .i64 old.bt, .int .i64 old.sq, .int .i64 old.tn, .int .i64 old.ht, .int .i64 old.by_, .int .i64 old.at_], .bool there])) _
      try simp only [Act.put, List.setIfInBounds_toArray, List.set_cons_succ, List.set_cons_zero]
      refine wpAnyC_take (i := 8) (v := .agg #[.string old.nd, .int .i64 old.bt, .int .i64 old.sq, .int .i64 old.tn, .int .i64 old.ht, .int .i64 old.by_, .int .i64 old.at_]) rfl (by kernel_rfl) (by kernel_rfl) (by kernel_rfl) (fun _ _ _ h => h) XH (by kernel_rfl) ?_ ?_
      · intro W hW; go_simp; try (with_reducible rfl)
      change wpAnyC _ _ _ _ _ _ _ (Act.put _ (some 25) (.agg #[.string old.nd, .int .i64 old.bt, .int .i64 old.sq, .int .i64 old.tn, .int .i64 old.ht, .int .i64 old.by_, .int .i64 old.at_])) _
      try simp only [Act.put, List.setIfInBounds_toArray, List.set_cons_succ, List.set_cons_zero]
      refine wpAnyC_take (i := 9) (v := .bool there) rfl (by kernel_rfl) (by kernel_rfl) (by kernel_rfl) (fun _ _ _ h => h) XH (by kernel_rfl) ?_ ?_
      · intro W hW; go_simp; try (with_reducible rfl)
      change wpAnyC _ _ _ _ _ _ _ (Act.put _ (some 26) (.bool there)) _
      try simp only [Act.put, List.setIfInBounds_toArray, List.set_cons_succ, List.set_cons_zero]
      refine wpAnyC_one 10 (by kernel_rfl) rfl (by kernel_rfl) (fun KK hKK => ?_)
      go_simp
      refine hKK _ _ (Ext.alloc XH _) ?_
      clear hKK KK
      try simp only [Act.put, List.setIfInBounds_toArray, List.set_cons_succ, List.set_cons_zero]
      refine wpAnyC_one 11 (by kernel_rfl) rfl (by kernel_rfl) (fun KK hKK => ?_)
      go_simp
      refine hKK _ _ (Ext.alloc XH _) ?_
      clear hKK KK
      try simp only [Act.put, List.setIfInBounds_toArray, List.set_cons_succ, List.set_cons_zero]
      refine wpAnyC_one 12 (by kernel_rfl) rfl (by kernel_rfl) (fun KK hKK => ?_)
      go_simp
      refine hKK _ _ (Ext.alloc XH _) ?_
      clear hKK KK
      try simp only [Act.put, List.setIfInBounds_toArray, List.set_cons_succ, List.set_cons_zero]
      refine ⟨by kernel_rfl, ?_⟩
      go_wp2_with fail
      go_meet
      exact ⟨wh.heap.size, rfl, rfl, Ext.alloc XH _, row_laid _ _ old.cs⟩
    · refine wpOpC_of rfl (by kernel_rfl) (fun KK hKK => ?_)
      go_simp
      refine hKK _ _ (Ext.alloc HN1.out _) ?_
      clear hKK KK
      try simp only [Act.put, List.setIfInBounds_toArray, List.set_cons_succ, List.set_cons_zero]
      have XA := Ext.alloc HN1.out (.cells entZ.cs.toArray 41)
      have RA : RowB (w1.drew.alloc (.cells entZ.cs.toArray 41)) w1.heap.size 41 entZ.cs := row_laid w1.drew 41 entZ.cs
      refine wpAnyC_one 5 (by kernel_rfl) rfl (by kernel_rfl) (fun KK hKK => ?_)
      go_simp
      refine (HOF.out _).mono ?_
      rintro e wh ⟨rfl, hxh⟩
      refine hKK _ _ (Ext.trans XA hxh) ?_
      clear hKK KK
      try simp only [Act.put, List.setIfInBounds_toArray, List.set_cons_succ, List.set_cons_zero]
      have XH := Ext.trans XA hxh
      replace RA := RA.ext hxh
      refine wpAnyC_take (i := 6) (v := .tuple #[.agg #[.string old.nd, .int .i64 old.bt, .int .i64 old.sq, .int .i64 old.tn, .int .i64 old.ht, .int .i64 old.by_, .int .i64 old.at_], .bool there]) rfl (by kernel_rfl) (by kernel_rfl) (by kernel_rfl) (fun _ _ _ h => h) XH (by kernel_rfl) ?_ ?_
      · intro W hW; have zz := HLH.out W (HX1.out.trans hW); go_simp; try (with_reducible rfl)
      change wpAnyC _ _ _ _ _ _ _ (Act.put _ (some 24) (.tuple #[.agg #[.string old.nd, .int .i64 old.bt, .int .i64 old.sq, .int .i64 old.tn, .int .i64 old.ht, .int .i64 old.by_, .int .i64 old.at_], .bool there])) _
      try simp only [Act.put, List.setIfInBounds_toArray, List.set_cons_succ, List.set_cons_zero]
      refine wpAnyC_take (i := 7) (v := .tuple #[.agg #[.string old.nd, .int .i64 old.bt, .int .i64 old.sq, .int .i64 old.tn, .int .i64 old.ht, .int .i64 old.by_, .int .i64 old.at_], .bool there]) rfl (by kernel_rfl) (by kernel_rfl) (by kernel_rfl) (fun _ _ _ h => h) XH (by kernel_rfl) ?_ ?_
      · intro W hW; go_simp; try (with_reducible rfl)
      change wpAnyC _ _ _ _ _ _ _ (Act.put _ (some 17) (.tuple #[.agg #[.string old.nd, .int .i64 old.bt, .int .i64 old.sq, .int .i64 old.tn, .int .i64 old.ht, .int .i64 old.by_, .int .i64 old.at_], .bool there])) _
      try simp only [Act.put, List.setIfInBounds_toArray, List.set_cons_succ, List.set_cons_zero]
      refine wpAnyC_take (i := 8) (v := .agg #[.string old.nd, .int .i64 old.bt, .int .i64 old.sq, .int .i64 old.tn, .int .i64 old.ht, .int .i64 old.by_, .int .i64 old.at_]) rfl (by kernel_rfl) (by kernel_rfl) (by kernel_rfl) (fun _ _ _ h => h) XH (by kernel_rfl) ?_ ?_
      · intro W hW; go_simp; try (with_reducible rfl)
      change wpAnyC _ _ _ _ _ _ _ (Act.put _ (some 25) (.agg #[.string old.nd, .int .i64 old.bt, .int .i64 old.sq, .int .i64 old.tn, .int .i64 old.ht, .int .i64 old.by_, .int .i64 old.at_])) _
      try simp only [Act.put, List.setIfInBounds_toArray, List.set_cons_succ, List.set_cons_zero]
      refine wpAnyC_take (i := 9) (v := .bool there) rfl (by kernel_rfl) (by kernel_rfl) (by kernel_rfl) (fun _ _ _ h => h) XH (by kernel_rfl) ?_ ?_
      · intro W hW; go_simp; try (with_reducible rfl)
      change wpAnyC _ _ _ _ _ _ _ (Act.put _ (some 26) (.bool there)) _
      try simp only [Act.put, List.setIfInBounds_toArray, List.set_cons_succ, List.set_cons_zero]
      refine wpAnyC_one 11 (by kernel_rfl) rfl (by kernel_rfl) (fun KK hKK => ?_)
      obtain ⟨y0, y1, y2, y3, y4, y5, y6⟩ := ent_cells RA
      have f0 := RA.frozen (j := 0) (by decide)
      have f1 := RA.frozen (j := 1) (by decide)
      have f2 := RA.frozen (j := 2) (by decide)
      have f3 := RA.frozen (j := 3) (by decide)
      have f4 := RA.frozen (j := 4) (by decide)
      have f5 := RA.frozen (j := 5) (by decide)
      have f6 := RA.frozen (j := 6) (by decide)
      go_simp
      have XS := fun v0 v1 v2 v3 v4 v5 v6 => ext_set7 XH (Nat.le_refl w1.heap.size) v0 v1 v2 v3 v4 v5 v6
      refine hKK _ _ (XS ..) ?_
      clear hKK KK
      try simp only [Act.put, List.setIfInBounds_toArray, List.set_cons_succ, List.set_cons_zero]
      refine wpAnyC_one 12 (by kernel_rfl) rfl (by kernel_rfl) (fun KK hKK => ?_)
      go_simp
      refine hKK _ _ (XS ..) ?_
      clear hKK KK
      try simp only [Act.put, List.setIfInBounds_toArray, List.set_cons_succ, List.set_cons_zero]
      refine ⟨by kernel_rfl, ?_⟩
      go_wp2_with fail
      go_meet
      refine ⟨w1.heap.size, rfl, rfl, XS .., ?_⟩
      exact row_set7 RA old
  obtain ⟨mb, rfl, rfl, hx2, HM⟩ := hcut
  have hT2 := HT1.out.ext hx2
  obtain ⟨t0, t1, t2, t3, t4, t5, t6⟩ := ent_cells hT2
  obtain ⟨m0, m1, m2, m3, m4, m5, m6⟩ := ent_cells HM
  have HTW : Hid (∀ n : Wd wc, RowB n.val w.heap.size 41 x.cs) := Lib.hid (fun n => hT2.ext n.ext)
  have p1 : ∀ n : Wd wc, n.val.cell? ⟨w.heap.size, 0, none⟩ = some (.string x.nd) := fun n => (ent_cells (hT2.ext n.ext)).1
  have p2 : ∀ n : Wd wc, n.val.cell? ⟨w.heap.size, 1, none⟩ = some (.int .i64 x.bt) := fun n => (ent_cells (hT2.ext n.ext)).2.1
  have p3 : ∀ n : Wd wc, n.val.cell? ⟨w.heap.size, 2, none⟩ = some (.int .i64 x.sq) := fun n => (ent_cells (hT2.ext n.ext)).2.2.1
  have p4 : ∀ n : Wd wc, n.val.cell? ⟨w.heap.size, 3, none⟩ = some (.int .i64 x.tn) := fun n => (ent_cells (hT2.ext n.ext)).2.2.2.1
  have p5 : ∀ n : Wd wc, n.val.cell? ⟨w.heap.size, 4, none⟩ = some (.int .i64 x.ht) := fun n => (ent_cells (hT2.ext n.ext)).2.2.2.2.1
  have p6 : ∀ n : Wd wc, n.val.cell? ⟨w.heap.size, 5, none⟩ = some (.int .i64 x.by_) := fun n => (ent_cells (hT2.ext n.ext)).2.2.2.2.2.1
  have p7 : ∀ n : Wd wc, n.val.cell? ⟨w.heap.size, 6, none⟩ = some (.int .i64 x.at_) := fun n => (ent_cells (hT2.ext n.ext)).2.2.2.2.2.2
  have p0 : ∀ n : Wd wc, n.val.cell? ⟨q, 0, none⟩ = some (.map (some b)) := fun n => HC1.out _ (hx2.trans n.ext)
  have HU2 : Hid (∀ n : Wd wc, (Instr.mapUpdate 68 (.map (some b)) (.agg #[.string x.nd, .int .i64 x.bt, .int .i64 x.sq]) (.agg #[.string x.nd, .int .i64 x.bt, .int .i64 x.sq, .int .i64 x.tn, .int .i64 x.ht, .int .i64 x.by_, .int .i64 x.at_])).run Try.prog n.val = .ok () (setBlock n.val b o')) := Lib.hid (fun n => HUH.out _ (HX1.out.trans (hx2.trans n.ext)))
  have HX2 := Lib.hid (HX1.out.trans hx2)
  clear hT2 hx2 HM HTW
  cases there
  case false =>
    clear ho
    go_upto_region 9 with fail
    clear t0 t1 t2 t3 t4 t5 t6 m0 m1 m2 m3 m4 m5 m6
    refine wp_region_wd_tail 7 (by kernel_rfl) (by kernel_rfl) ?_
    simp only [List.take_succ_cons, List.take_zero, List.drop_succ_cons, List.drop_zero]
    repeat (go_big_quiet_step ((go_at_call 31; exact Calls.wd_of (HOF.out _))))
    refine wpQuiet_nil ?_
    rintro _ ⟨nq, rfl⟩
    have HUN := HU2.out nq
    go_wp2_with fail
    go_ret2
    exact ⟨rfl, nq.val, HX2.out.trans nq.ext, rfl⟩
  case true =>
    obtain rfl := ho rfl
    clear ho
    go_upto_region 9 with fail
    clear t0 t1 t2 t3 t4 t5 t6 m0 m1 m2 m3 m4 m5 m6
    refine wp_region_wd_tail 7 (by kernel_rfl) (by kernel_rfl) ?_
    simp only [List.take_succ_cons, List.take_zero, List.drop_succ_cons, List.drop_zero]
    repeat (go_big_quiet_step ((go_at_call 31; exact Calls.wd_of (HOF.out _))))
    refine wpQuiet_nil ?_
    rintro _ ⟨nq, rfl⟩
    have HUN := HU2.out nq
    go_wp2_with fail
    go_ret2
    exact ⟨rfl, nq.val, HX2.out.trans nq.ext, rfl⟩
set_option maxRecDepth 100000 in
set_option maxHeartbeats 1000000 in
theorem put_mixed (q b : Nat) (x : Ent) (old : Ent) (ho : old ≠ x) (w : World) (hc : w.cell? ⟨q, 0, none⟩ = some (.map (some b)))
    (hs : (x.nd.size : Int) ≤ 9223372036854775807) (hn : nmB x.nd = true) (h : okE x.bt x.sq x.tn x.ht x.by_ x.at_)
    (HL : ∀ W, Ext w W → (Instr.lookup 68 (.map (some b)) x.k true).run Try.prog W = .ok (.tuple #[old.v, .bool true]) W) :
    Calls Try.prog 19 #[.pointer (some ⟨q, 0, none⟩), x.v] w fun e w' => e = .returned (.tuple #[.bool false, errV 20]) ∧ Ext w w' := by
  have HCK := Lib.hid (fun W => check_ok x.nd x.bt x.sq x.tn x.ht x.by_ x.at_ hs hn h W)
  have HLH := Lib.hid HL
  have HC := Lib.hid hc
  clear HL hs hn h
  dsimp only [Ent.v]
  go_enter Try.func19, Try.ntmps19
  obtain ⟨w0, hw0⟩ : ∃ w0, w0 = w.alloc (.cells x.cs.toArray 41) := ⟨_, rfl⟩
  have X0 : Ext w w0 := by rw [hw0]; exact (Ext.refl w).alloc _
  have HT : Hid (RowB w0 w.heap.size 41 x.cs) := Lib.hid (by rw [hw0]; exact row_laid _ _ _)
  have HOF : Hid (∀ W, Calls Try.prog 31 #[.agg #[.string x.nd, .int .i64 x.bt, .int .i64 x.sq, .int .i64 x.tn, .int .i64 x.ht, .int .i64 x.by_, .int .i64 x.at_]] W fun e w' => e = .returned (.agg #[.string x.nd, .int .i64 x.bt, .int .i64 x.sq]) ∧ Ext W w') := Lib.hid (fun W => of_any x W)
  go_upto_region 1 with fail
  simp only [Ent.cs] at hw0
  rw [← hw0]
  clear hw0
  obtain ⟨t0, t1, t2, t3, t4, t5, t6⟩ := ent_cells HT.out
  go_upto_region 6 with (go_at_call 30; refine (HCK.out _).mono ?_; rintro e w1 ⟨rfl, hx1⟩)
  clear t0 t1 t2 t3 t4 t5 t6
  have HT1 := Lib.hid (HT.out.ext hx1)
  have HX1 := Lib.hid (X0.trans hx1)
  have HC1 := Lib.hid (fun W (hW : Ext w1 W) => ((X0.trans hx1).trans hW).cell HC.out)
  simp only [Ent.v, Ent.k] at HLH
  go_cut [7, 8] (fun pv kv wx => ∃ mb, pv = .pointer (some ⟨mb, 0, none⟩) ∧ kv = .bool true ∧ Ext w1 wx ∧ RowB wx mb 41 old.cs)
  case first =>
    refine wp_region_C (C := fun w' => Ext w1 w') (by kernel_rfl) ?_
    have HN1 := Lib.hid (show Ext w1 w1.drew from (Ext.refl _).drew)
    refine wpAnyC_take (i := 0) (v := .pointer (some ⟨q, 0, none⟩)) rfl (by kernel_rfl) (by kernel_rfl) (by kernel_rfl) (fun _ _ _ h => h) HN1.out (by kernel_rfl) ?_ ?_
    · intro W hW; go_simp; try (with_reducible rfl)
    change wpAnyC _ _ _ _ _ _ _ (Act.put _ (some 18) (.pointer (some ⟨q, 0, none⟩))) _
    try simp only [Act.put, List.setIfInBounds_toArray, List.set_cons_succ, List.set_cons_zero]
    refine wpAnyC_take (i := 1) (v := .pointer (some ⟨q, 0, none⟩)) rfl (by kernel_rfl) (by kernel_rfl) (by kernel_rfl) (fun _ _ _ h => h) HN1.out (by kernel_rfl) ?_ ?_
    · intro W hW; go_simp; try (with_reducible rfl)
    change wpAnyC _ _ _ _ _ _ _ (Act.put _ (some 19) (.pointer (some ⟨q, 0, none⟩))) _
    try simp only [Act.put, List.setIfInBounds_toArray, List.set_cons_succ, List.set_cons_zero]
    refine wpAnyC_take (i := 2) (v := .pointer (some ⟨q, 0, none⟩)) rfl (by kernel_rfl) (by kernel_rfl) (by kernel_rfl) (fun _ _ _ h => h) HN1.out (by kernel_rfl) ?_ ?_
    · intro W hW; go_simp; try (with_reducible rfl)
    change wpAnyC _ _ _ _ _ _ _ (Act.put _ (some 20) (.pointer (some ⟨q, 0, none⟩))) _
    try simp only [Act.put, List.setIfInBounds_toArray, List.set_cons_succ, List.set_cons_zero]
    refine wpAnyC_take (i := 3) (v := .map (some b)) rfl (by kernel_rfl) (by kernel_rfl) (by kernel_rfl) (fun _ _ _ h => h) HN1.out (by kernel_rfl) ?_ ?_
    · intro W hW; have zz := HC1.out _ hW; go_simp; try (with_reducible rfl)
    change wpAnyC _ _ _ _ _ _ _ (Act.put _ (some 21) (.map (some b))) _
    try simp only [Act.put, List.setIfInBounds_toArray, List.set_cons_succ, List.set_cons_zero]
    refine wpAnyC_take (i := 4) (v := .agg #[.string x.nd, .int .i64 x.bt, .int .i64 x.sq, .int .i64 x.tn, .int .i64 x.ht, .int .i64 x.by_, .int .i64 x.at_]) rfl (by kernel_rfl) (by kernel_rfl) (by kernel_rfl) (fun _ _ _ h => h) HN1.out (by kernel_rfl) ?_ ?_
    · intro W hW; obtain ⟨z0, z1, z2, z3, z4, z5, z6⟩ := ent_cells (HT1.out.ext hW); go_simp; try (with_reducible rfl)
    change wpAnyC _ _ _ _ _ _ _ (Act.put _ (some 22) (.agg #[.string x.nd, .int .i64 x.bt, .int .i64 x.sq, .int .i64 x.tn, .int .i64 x.ht, .int .i64 x.by_, .int .i64 x.at_])) _
    try simp only [Act.put, List.setIfInBounds_toArray, List.set_cons_succ, List.set_cons_zero]
    refine wpAnyC_two 5 10 (by kernel_rfl) ?_ ?_
    · refine wpOpC_of rfl (by kernel_rfl) (fun KK hKK => ?_)
      go_simp
      refine (HOF.out _).mono ?_
      rintro e wh ⟨rfl, hxh⟩
      refine hKK _ _ (Ext.trans HN1.out hxh) ?_
      clear hKK KK
      try simp only [Act.put, List.setIfInBounds_toArray, List.set_cons_succ, List.set_cons_zero]
      have XH := Ext.trans HN1.out hxh
      refine wpAnyC_take (i := 6) (v := .tuple #[.agg #[.string old.nd, .int .i64 old.bt, .int .i64 old.sq, .int .i64 old.tn, .int .i64 old.ht, .int .i64 old.by_, .int .i64 old.at_], .bool true]) rfl (by kernel_rfl) (by kernel_rfl) (by kernel_rfl) (fun _ _ _ h => h) XH (by kernel_rfl) ?_ ?_
      · intro W hW; have zz := HLH.out W (HX1.out.trans hW); go_simp; try (with_reducible rfl)
      change wpAnyC _ _ _ _ _ _ _ (Act.put _ (some 24) (.tuple #[.agg #[.string old.nd, .int .i64 old.bt, .int .i64 old.sq, .int .i64 old.tn, .int .i64 old.ht, .int .i64 old.by_, .int .i64 old.at_], .bool true])) _
      try simp only [Act.put, List.setIfInBounds_toArray, List.set_cons_succ, List.set_cons_zero]
      refine wpAnyC_take (i := 7) (v := .tuple #[.agg #[.string old.nd, .int .i64 old.bt, .int .i64 old.sq, .int .i64 old.tn, .int .i64 old.ht, .int .i64 old.by_, .int .i64 old.at_], .bool true]) rfl (by kernel_rfl) (by kernel_rfl) (by kernel_rfl) (fun _ _ _ h => h) XH (by kernel_rfl) ?_ ?_
      · intro W hW; go_simp; try (with_reducible rfl)
      change wpAnyC _ _ _ _ _ _ _ (Act.put _ (some 17) (.tuple #[.agg #[.string old.nd, .int .i64 old.bt, .int .i64 old.sq, .int .i64 old.tn, .int .i64 old.ht, .int .i64 old.by_, .int .i64 old.at_], .bool true])) _
      try simp only [Act.put, List.setIfInBounds_toArray, List.set_cons_succ, List.set_cons_zero]
      refine wpAnyC_take (i := 8) (v := .agg #[.string old.nd, .int .i64 old.bt, .int .i64 old.sq, .int .i64 old.tn, .int .i64 old.ht, .int .i64 old.by_, .int .i64 old.at_]) rfl (by kernel_rfl) (by kernel_rfl) (by kernel_rfl) (fun _ _ _ h => h) XH (by kernel_rfl) ?_ ?_
      · intro W hW; go_simp; try (with_reducible rfl)
      change wpAnyC _ _ _ _ _ _ _ (Act.put _ (some 25) (.agg #[.string old.nd, .int .i64 old.bt, .int .i64 old.sq, .int .i64 old.tn, .int .i64 old.ht, .int .i64 old.by_, .int .i64 old.at_])) _
      try simp only [Act.put, List.setIfInBounds_toArray, List.set_cons_succ, List.set_cons_zero]
      refine wpAnyC_take (i := 9) (v := .bool true) rfl (by kernel_rfl) (by kernel_rfl) (by kernel_rfl) (fun _ _ _ h => h) XH (by kernel_rfl) ?_ ?_
      · intro W hW; go_simp; try (with_reducible rfl)
      change wpAnyC _ _ _ _ _ _ _ (Act.put _ (some 26) (.bool true)) _
      try simp only [Act.put, List.setIfInBounds_toArray, List.set_cons_succ, List.set_cons_zero]
      refine wpAnyC_one 10 (by kernel_rfl) rfl (by kernel_rfl) (fun KK hKK => ?_)
      go_simp
      refine hKK _ _ (Ext.alloc XH _) ?_
      clear hKK KK
      try simp only [Act.put, List.setIfInBounds_toArray, List.set_cons_succ, List.set_cons_zero]
      refine wpAnyC_one 11 (by kernel_rfl) rfl (by kernel_rfl) (fun KK hKK => ?_)
      go_simp
      refine hKK _ _ (Ext.alloc XH _) ?_
      clear hKK KK
      try simp only [Act.put, List.setIfInBounds_toArray, List.set_cons_succ, List.set_cons_zero]
      refine wpAnyC_one 12 (by kernel_rfl) rfl (by kernel_rfl) (fun KK hKK => ?_)
      go_simp
      refine hKK _ _ (Ext.alloc XH _) ?_
      clear hKK KK
      try simp only [Act.put, List.setIfInBounds_toArray, List.set_cons_succ, List.set_cons_zero]
      refine ⟨by kernel_rfl, ?_⟩
      go_wp2_with fail
      go_meet
      exact ⟨wh.heap.size, rfl, rfl, Ext.alloc XH _, row_laid _ _ old.cs⟩
    · refine wpOpC_of rfl (by kernel_rfl) (fun KK hKK => ?_)
      go_simp
      refine hKK _ _ (Ext.alloc HN1.out _) ?_
      clear hKK KK
      try simp only [Act.put, List.setIfInBounds_toArray, List.set_cons_succ, List.set_cons_zero]
      have XA := Ext.alloc HN1.out (.cells entZ.cs.toArray 41)
      have RA : RowB (w1.drew.alloc (.cells entZ.cs.toArray 41)) w1.heap.size 41 entZ.cs := row_laid w1.drew 41 entZ.cs
      refine wpAnyC_one 5 (by kernel_rfl) rfl (by kernel_rfl) (fun KK hKK => ?_)
      go_simp
      refine (HOF.out _).mono ?_
      rintro e wh ⟨rfl, hxh⟩
      refine hKK _ _ (Ext.trans XA hxh) ?_
      clear hKK KK
      try simp only [Act.put, List.setIfInBounds_toArray, List.set_cons_succ, List.set_cons_zero]
      have XH := Ext.trans XA hxh
      replace RA := RA.ext hxh
      refine wpAnyC_take (i := 6) (v := .tuple #[.agg #[.string old.nd, .int .i64 old.bt, .int .i64 old.sq, .int .i64 old.tn, .int .i64 old.ht, .int .i64 old.by_, .int .i64 old.at_], .bool true]) rfl (by kernel_rfl) (by kernel_rfl) (by kernel_rfl) (fun _ _ _ h => h) XH (by kernel_rfl) ?_ ?_
      · intro W hW; have zz := HLH.out W (HX1.out.trans hW); go_simp; try (with_reducible rfl)
      change wpAnyC _ _ _ _ _ _ _ (Act.put _ (some 24) (.tuple #[.agg #[.string old.nd, .int .i64 old.bt, .int .i64 old.sq, .int .i64 old.tn, .int .i64 old.ht, .int .i64 old.by_, .int .i64 old.at_], .bool true])) _
      try simp only [Act.put, List.setIfInBounds_toArray, List.set_cons_succ, List.set_cons_zero]
      refine wpAnyC_take (i := 7) (v := .tuple #[.agg #[.string old.nd, .int .i64 old.bt, .int .i64 old.sq, .int .i64 old.tn, .int .i64 old.ht, .int .i64 old.by_, .int .i64 old.at_], .bool true]) rfl (by kernel_rfl) (by kernel_rfl) (by kernel_rfl) (fun _ _ _ h => h) XH (by kernel_rfl) ?_ ?_
      · intro W hW; go_simp; try (with_reducible rfl)
      change wpAnyC _ _ _ _ _ _ _ (Act.put _ (some 17) (.tuple #[.agg #[.string old.nd, .int .i64 old.bt, .int .i64 old.sq, .int .i64 old.tn, .int .i64 old.ht, .int .i64 old.by_, .int .i64 old.at_], .bool true])) _
      try simp only [Act.put, List.setIfInBounds_toArray, List.set_cons_succ, List.set_cons_zero]
      refine wpAnyC_take (i := 8) (v := .agg #[.string old.nd, .int .i64 old.bt, .int .i64 old.sq, .int .i64 old.tn, .int .i64 old.ht, .int .i64 old.by_, .int .i64 old.at_]) rfl (by kernel_rfl) (by kernel_rfl) (by kernel_rfl) (fun _ _ _ h => h) XH (by kernel_rfl) ?_ ?_
      · intro W hW; go_simp; try (with_reducible rfl)
      change wpAnyC _ _ _ _ _ _ _ (Act.put _ (some 25) (.agg #[.string old.nd, .int .i64 old.bt, .int .i64 old.sq, .int .i64 old.tn, .int .i64 old.ht, .int .i64 old.by_, .int .i64 old.at_])) _
      try simp only [Act.put, List.setIfInBounds_toArray, List.set_cons_succ, List.set_cons_zero]
      refine wpAnyC_take (i := 9) (v := .bool true) rfl (by kernel_rfl) (by kernel_rfl) (by kernel_rfl) (fun _ _ _ h => h) XH (by kernel_rfl) ?_ ?_
      · intro W hW; go_simp; try (with_reducible rfl)
      change wpAnyC _ _ _ _ _ _ _ (Act.put _ (some 26) (.bool true)) _
      try simp only [Act.put, List.setIfInBounds_toArray, List.set_cons_succ, List.set_cons_zero]
      refine wpAnyC_one 11 (by kernel_rfl) rfl (by kernel_rfl) (fun KK hKK => ?_)
      obtain ⟨y0, y1, y2, y3, y4, y5, y6⟩ := ent_cells RA
      have f0 := RA.frozen (j := 0) (by decide)
      have f1 := RA.frozen (j := 1) (by decide)
      have f2 := RA.frozen (j := 2) (by decide)
      have f3 := RA.frozen (j := 3) (by decide)
      have f4 := RA.frozen (j := 4) (by decide)
      have f5 := RA.frozen (j := 5) (by decide)
      have f6 := RA.frozen (j := 6) (by decide)
      go_simp
      have XS := fun v0 v1 v2 v3 v4 v5 v6 => ext_set7 XH (Nat.le_refl w1.heap.size) v0 v1 v2 v3 v4 v5 v6
      refine hKK _ _ (XS ..) ?_
      clear hKK KK
      try simp only [Act.put, List.setIfInBounds_toArray, List.set_cons_succ, List.set_cons_zero]
      refine wpAnyC_one 12 (by kernel_rfl) rfl (by kernel_rfl) (fun KK hKK => ?_)
      go_simp
      refine hKK _ _ (XS ..) ?_
      clear hKK KK
      try simp only [Act.put, List.setIfInBounds_toArray, List.set_cons_succ, List.set_cons_zero]
      refine ⟨by kernel_rfl, ?_⟩
      go_wp2_with fail
      go_meet
      refine ⟨w1.heap.size, rfl, rfl, XS .., ?_⟩
      exact row_set7 RA old
  obtain ⟨mb, rfl, rfl, hx2, HM⟩ := hcut
  have hT2 := HT1.out.ext hx2
  obtain ⟨t0, t1, t2, t3, t4, t5, t6⟩ := ent_cells hT2
  obtain ⟨m0, m1, m2, m3, m4, m5, m6⟩ := ent_cells HM
  have hX2 := HX1.out.trans hx2
  clear hT2 hx2
  go_wp2_with fail
  all_goals first
    | (go_ret2; exact ⟨rfl, hX2⟩)
    | exact absurd (Ent.eq_of ⟨tl_inj (by assumption), by assumption, by assumption, by assumption, by assumption, by assumption, by assumption⟩) ho
/-- a set: a struct at block q whose one cell is the map at block b -/
structure SetAt (w : World) (q b : Nat) (L : List Ent) : Prop where
  c : w.cell? ⟨q, 0, none⟩ = some (.map (some b))
  hb : w.heap[b]? = some (mpO L)
  ok : ∀ e ∈ L, ((e.nd.size : Int) ≤ 9223372036854775807 ∧ nmB e.nd = true) ∧ okE e.bt e.sq e.tn e.ht e.by_ e.at_
  nd : L.Pairwise fun a b => a.key ≠ b.key
def Ent.good (e : Ent) : Prop := ((e.nd.size : Int) ≤ 9223372036854775807 ∧ nmB e.nd = true) ∧ okE e.bt e.sq e.tn e.ht e.by_ e.at_
theorem Ent.good.wf {e : Ent} (h : e.good) : e.wf := by
  obtain ⟨⟨h1, _⟩, ⟨a1, a2⟩, ⟨b1, b2⟩, _⟩ := h
  exact ⟨h1, by omega, by omega⟩
theorem SetAt.ne {w : World} {q b : Nat} {L : List Ent} (h : SetAt w q b L) : q ≠ b := by
  intro e
  have := h.c
  rw [e] at this
  simp [World.cell?, h.hb, mpO] at this
theorem SetAt.kept {w w' : World} {q b : Nat} {L : List Ent} (h : SetAt w q b L) {o : Option Nat} (hg : w.grownBy w' o) (h1 : some q ≠ o) (h2 : some b ≠ o) : SetAt w' q b L := by
  have hlt := World.block_lt_of_cell? w _ h.c
  exact ⟨(World.cell?_of_block (hg.block q hlt h1)).trans h.c, (hg.block b (Array.getElem?_eq_some_iff.1 h.hb).1 h2).trans h.hb, h.ok, h.nd⟩
theorem Ext.grown {w w' : World} (h : Ext w w') (o : Option Nat) : w.grownBy w' o := ⟨Below.os h, Below.tape h, Below.output h, h.size, fun i hi _ => Below.block h i hi⟩
theorem SetAt.ext {w w' : World} {q b : Nat} {L : List Ent} (h : SetAt w q b L) (hx : Ext w w') : SetAt w' q b L := h.kept (hx.grown none) (by simp) (by simp)
theorem grown_set {w w1 : World} {b : Nat} (h : Ext w w1) (o : Obj) : w.grownBy (setBlock w1 b o) (some b) := by
  refine ⟨h.below.os, h.below.tape, h.below.output, by simpa [setBlock] using h.size, fun i hi hn => ?_⟩
  have : i ≠ b := fun e => hn (by rw [e])
  show (w1.heap.setIfInBounds b o)[i]? = _
  rw [Array.getElem?_setIfInBounds, if_neg (by omega)]
  exact h.below.block i hi
/-- what Put answers -/
inductive PutR (L : List Ent) (x : Ent) : Value → List Ent → Prop
  | old : x ∈ L → PutR L x (.tuple #[.bool false, .nilIface]) L
  | new : (∀ e ∈ L, e.key ≠ x.key) → PutR L x (.tuple #[.bool true, .nilIface]) (L ++ [x])
  | mixed (y : Ent) : y ∈ L → y.key = x.key → y ≠ x → PutR L x (.tuple #[.bool false, errV 20]) L
theorem put_good (q b : Nat) (L : List Ent) (x : Ent) (w : World) (h : SetAt w q b L) (hx : x.good) :
    Calls Try.prog 19 #[.pointer (some ⟨q, 0, none⟩), x.v] w fun e w' => ∃ v L', PutR L x v L' ∧ e = .returned v ∧ w.grownBy w' (some b) ∧ SetAt w' q b L' := by
  have hwf : ∀ e ∈ L, e.wf := fun e he => Ent.good.wf (h.ok e he)
  have hbW : ∀ W, Ext w W → W.heap[b]? = some (mpO L) := fun W hW => (Below.block hW b (Array.getElem?_eq_some_iff.1 h.hb).1).trans h.hb
  have hx' := hx
  obtain ⟨⟨h1, h2⟩, h3⟩ := hx'
  rcases look_mp h.hb hwf x (Ent.good.wf hx) true with ⟨hn, _⟩ | ⟨e, he, hk, _⟩
  · have HL : ∀ W, Ext w W → (Instr.lookup 68 (.map (some b)) x.k true).run Try.prog W = .ok (.tuple #[entZ.v, .bool false]) W := fun W hW => by
      rcases look_mp (hbW W hW) hwf x (Ent.good.wf hx) true with ⟨_, hr⟩ | ⟨e, he, hk, _⟩
      · exact hr
      · exact absurd hk (hn e he)
    refine (put_fits q b x entZ false (by simp) (mpO (L ++ [x])) w h.c h1 h2 h3 HL (fun W hW => store_mp_new (hbW W hW) hwf x (Ent.good.wf hx) hn)).mono ?_
    rintro _ _ ⟨rfl, W1, hW1, rfl⟩
    have hg := grown_set hW1 (mpO (L ++ [x])) (b := b)
    refine ⟨_, _, .new hn, rfl, hg, ⟨?_, ?_, ?_, ?_⟩⟩
    · exact (World.cell?_of_block (hg.block q (World.block_lt_of_cell? w _ h.c) (by simpa using h.ne))).trans h.c
    · have := (Array.getElem?_eq_some_iff.1 (hbW W1 hW1)).1
      simp [setBlock, this]
    · intro e he
      rcases List.mem_append.1 he with he | he
      · exact h.ok e he
      · simp at he; subst he; exact hx
    · rw [List.pairwise_append]
      exact ⟨h.nd, by simp, fun a ha c hc => by simp at hc; subst hc; exact hn a ha⟩
  · have HL : ∀ W, Ext w W → (Instr.lookup 68 (.map (some b)) x.k true).run Try.prog W = .ok (.tuple #[e.v, .bool true]) W := fun W hW => by
      rcases look_mp (hbW W hW) hwf x (Ent.good.wf hx) true with ⟨hn, _⟩ | ⟨e', he', hk', hr⟩
      · exact absurd hk (hn e he)
      · rw [pair_unique h.nd he he' (hk.trans hk'.symm)]; exact hr
    by_cases hex : e = x
    · subst hex
      refine (put_fits q b e e true (fun _ => rfl) (mpO L) w h.c h1 h2 h3 HL (fun W hW => (store_mp_old (hbW W hW) hwf h.nd e he).trans (by rw [setBlock_same (hbW W hW)]))).mono ?_
      rintro _ _ ⟨rfl, W1, hW1, rfl⟩
      rw [setBlock_same (hbW W1 hW1)]
      exact ⟨_, _, .old he, rfl, hW1.grown _, h.ext hW1⟩
    · refine (put_mixed q b x e hex w h.c h1 h2 h3 HL).mono ?_
      rintro _ _ ⟨rfl, hW1⟩
      exact ⟨_, _, .mixed e he hk hex, rfl, hW1.grown _, h.ext hW1⟩
end Go.Proofs.Ytjdbhemojopnlaa
