/- Chapter 20: the reference's Put. -/
import Derived.Test.YtfgjbbpkkbohhaaGreatPcK
import Derived.Lib.SlBuf
import Derived.Laws.CopyOwn
namespace Go.Proofs.YtfgjbbpkkbohhaaGreat
open Go.RowKit Go.Deep Go.Sort

/-- copy(d, s) of two rows of the same length -/
theorem wpList_copy_rows {w : World} {ops : Array Oper} {rest : List Oper} {o : Oper} {a : Act} {Q : Exit → Act → World → Prop} (hgd : o.guard = none) (x y : Operand) (T e : TypeId)
    (ho : o.op = .call { callee := .builtin .copy, args := #[x, y], argTypes := #[T, T] }) (hu : Tryz.prog.underlying T = some (.slice e)) (hsz : (Tryz.prog.info? e).map (·.size) = some 1)
    (d s n cap cap' : Nat) (f g : Nat → Value) (hd : w.rowIs d e n f) (hs : w.rowIs s e n g) (h1 : ∀ i, i < n → (g i).oneCell' = true)
    (hx : a.eval x = .slice (some ⟨d, 0, none⟩) n cap) (hy : a.eval y = .slice (some ⟨s, 0, none⟩) n cap')
    (h : ∀ w', w'.rowIs d e n g → (∀ k, k ≠ d → w'.heap[k]? = w.heap[k]?) → (∀ B v, B ≤ d → Below B v w → Below B v w') → wpList Tryz.prog ops Q rest (a.put o.dst (.int .i64 n)) w') : wpList Tryz.prog ops Q (o :: rest) a w := by
  obtain ⟨cur, hb, hn, hc⟩ := hd
  have hl : ((List.range n).map g).length = n := by simp
  have hrun := run_copy_row (P := Tryz.prog) w T T o.type e d 0 n cap ⟨s, 0, none⟩ n cap' cur e ((List.range n).map g) hu hsz hb (by simp) (fun j v hj => by
    have hjn : j < n := by have := (List.getElem?_eq_some_iff.1 hj).1; simpa using this
    rw [Addr.add_lit, Nat.zero_add, hs.cell hjn, ← hj]
    simp [hjn]) (by simp; omega) (fun v hv => by
    obtain ⟨j, hj, rfl⟩ := List.mem_map.1 hv
    exact h1 j (List.mem_range.1 hj))
  refine Lib.wpList_copy_run w hgd x y T T ho _ _ hx hy hrun ?_
  rw [hl]
  refine h _ ⟨_, setRow_heap w d cur _ e _ hb, ?_, fun i hi => ?_⟩ (fun k hk => setRow_other w d k _ hk) (fun B v hB hbl => below_setRow hbl hB _)
  · simp; omega
  · simp [hn, hi]


set_option maxRecDepth 100000 in
set_option maxHeartbeats 4000000 in
theorem rput_ok {w : World} {d t len : Nat} {tag : ByteArray} {D : Nat → Option ByteArray} (h : RefAt w d t len D) (hl : len ≤ 65536) (i : Nat) (hi : i < npc len) (s : ByteArray)
    (hz : s.size = pto i len - i * 256) (hD : D i = none) :
    Calls Tryz.prog 112 #[refV tag len d t, .int .i64 i, .string s] w fun e w' => ∃ d' t', e = .returned (.tuple #[refV tag len d' t', .int .i64 0]) ∧ Ext w w' ∧ (w.heap.size ≤ d' ∧ w.heap.size ≤ t') ∧ RefAt w' d' t' len (upd D i (some s)) := by
  have hn : npc len ≤ 256 := by unfold npc; omega
  have hi2 : i * 256 < len := by unfold npc at hi; omega
  have hc := h.there.cell hi
  rw [hD] at hc
  have hil : i ≤ 256 := by omega
  have e1 : ((pto i len : Nat) : Int) - (i : Int) * 256 = (s.size : Int) := by unfold pto at hz ⊢; omega
  have hpl : s.size ≤ 65536 := by unfold pto at hz; omega
  have HZ := Lib.hid hz
  have HA := Lib.hid h
  clear hz h
  obtain ⟨ws, hws⟩ : ∃ ws, ws = (w.alloc (.cells #[.string tag, .int .i64 len, .slice (some ⟨d, 0, none⟩) (npc len) (npc len), .slice (some ⟨t, 0, none⟩) (npc len) (npc len)] 129)).alloc (.cells #[.string ⟨#[]⟩, .int .i64 0, .slice none 0 0, .slice none 0 0] 129) := ⟨_, rfl⟩
  have hX0 : Ext w ws := by rw [hws]; exact ((Ext.refl w).alloc _).alloc _
  have R0 : RowB ws w.heap.size 129 [.string tag, .int .i64 len, .slice (some ⟨d, 0, none⟩) (npc len) (npc len), .slice (some ⟨t, 0, none⟩) (npc len) (npc len)] := by
    rw [hws]; exact (RowB.laid w _ _).ext ((Ext.refl _).alloc _)
  have R1 : RowB ws (w.heap.size + 1) 129 [.string ⟨#[]⟩, .int .i64 0, .slice none 0 0, .slice none 0 0] := by
    rw [hws]; simpa using RowB.laid (w.alloc _) 129 [.string ⟨#[]⟩, .int .i64 0, .slice none 0 0, .slice none 0 0]
  have HR0 := Lib.hid R0
  have HR1 := Lib.hid R1
  clear R0 R1
  go_enter Tryz.func112, Tryz.ntmps112
  go_upto_region 1 with fail
  rw [← hws]
  clear hws
  have b1 := HR0.out.cell (j := 1) rfl
  go_upto_region 2 with (first | (go_at_call 53; refine (piece9_in i len hl hi2 _).mono ?_; rintro e w1 ⟨rfl, hx⟩))
  clear b1
  have X1 : Ext w w1 := hX0.trans hx
  have b0 := fun o => ((HR0.out.ext hx).ext ((Ext.refl _).alloc o)).cell (j := 0) rfl
  have b1 := fun o => ((HR0.out.ext hx).ext ((Ext.refl _).alloc o)).cell (j := 1) rfl
  have b2 := fun o => ((HR0.out.ext hx).ext ((Ext.refl _).alloc o)).cell (j := 2) rfl
  have b3 := fun o => ((HR0.out.ext hx).ext ((Ext.refl _).alloc o)).cell (j := 3) rfl
  have hlt : w.heap.size + 1 < w1.heap.size := (HR1.out.ext hx).lt
  have hc1 : ∀ o, (w1.alloc o).cell? ⟨t, i, none⟩ = some (.bool false) := fun o => (X1.alloc o).cell hc
  clear hc hD
  go_upto_region 9 with (first | (go_at_call 76; refine (rnew_any tag len hl _).mono ?_; rintro e w2 ⟨d2, t2, rfl, hx2, hN, hA2⟩))
  have ho3 := RowB.laid w2 129 [.string tag, .int .i64 len, .slice (some ⟨d2, 0, none⟩) (npc len) (npc len), .slice (some ⟨t2, 0, none⟩) (npc len) (npc len)]
  have hX2 : Ext w1 w2 := ((Ext.refl w1).alloc _).trans hx2
  have hX3 : Ext w2 (w2.alloc (.cells #[.string tag, .int .i64 len, .slice (some ⟨d2, 0, none⟩) (npc len) (npc len), .slice (some ⟨t2, 0, none⟩) (npc len) (npc len)] 129)) := (Ext.refl w2).alloc _
  have hd2 := hA2.data.lt
  have ht2 := hA2.there.lt
  have hN1 : w.heap.size + 1 < d2 ∧ w.heap.size + 1 < t2 ∧ d2 ≠ t2 := by
    have := hN
    simp at this
    omega
  obtain ⟨w3, hw3⟩ : ∃ w3, w3 = w2.alloc (.cells #[.string tag, .int .i64 len, .slice (some ⟨d2, 0, none⟩) (npc len) (npc len), .slice (some ⟨t2, 0, none⟩) (npc len) (npc len)] 129) := ⟨_, rfl⟩
  rw [← hw3] at hX3 ⊢
  have ho3 : RowB w3 w2.heap.size 129 [.string tag, .int .i64 len, .slice (some ⟨d2, 0, none⟩) (npc len) (npc len), .slice (some ⟨t2, 0, none⟩) (npc len) (npc len)] := by rw [hw3]; exact ho3
  clear hw3
  obtain ⟨u, hu⟩ : ∃ u, w2.heap.size = u := ⟨_, rfl⟩
  rw [hu] at ho3 hd2 ht2 ⊢
  have X13 : Ext w1 w3 := hX2.trans hX3
  have X3 : Ext w w3 := X1.trans X13
  have hb3 := (HR0.out.ext hx).ext X13
  have hr3 := (HR1.out.ext hx).ext X13
  have hA3 := hA2.ext hX3
  have hS3 := HA.out.ext X3
  have hdl := HA.out.data.lt
  have htl := HA.out.there.lt
  clear hA2 hx2 hX2 hX3 hN hu b0 b1 b2 b3 hc1
  have o2 := ho3.cell (j := 2) rfl
  have b2 := hb3.cell (j := 2) rfl
  have hH := Lib.hid (show (w.heap.size ≠ d2 ∧ w.heap.size + 1 ≠ d2 ∧ u ≠ d2 ∧ t2 ≠ d2 ∧ d ≠ d2 ∧ t ≠ d2) ∧ (w.heap.size ≠ t2 ∧ w.heap.size + 1 ≠ t2 ∧ u ≠ t2 ∧ d2 ≠ t2 ∧ d ≠ t2 ∧ t ≠ t2) by omega)
  go_wp2_with (first
    | (refine wpList_copy_rows rfl (.tmp 54) (.tmp 56) 31 9 rfl Tryz.underlying31 (by kernel_rfl) d2 d (npc len) _ _ _ _ hA3.data hS3.data (fun i _ => rfl) rfl rfl ?_; intro w4 h4 k4 n4; have ho4 := ho3.kept (k4 _ hH.out.1.2.2.1); have hb4 := hb3.kept (k4 _ hH.out.1.1); have hr4 := hr3.kept (k4 _ hH.out.1.2.1); have ht4 := hA3.there.of_block (k4 _ hH.out.1.2.2.2.1); have hs4 := hS3.there.of_block (k4 _ hH.out.1.2.2.2.2.2); have X4 := n4 w.heap.size w (by omega) X3; have o3 := ho4.cell (j := 3) rfl; have b3 := hb4.cell (j := 3) rfl)
    | (refine wpList_copy_rows rfl (.tmp 59) (.tmp 61) 127 4 rfl Tryz.underlying127 (by kernel_rfl) t2 t (npc len) _ _ _ _ ht4 hs4 (fun i _ => rfl) rfl rfl ?_; intro w5 h5 k5 n5; have ho5 := ho4.kept (k5 _ hH.out.2.2.2.1); have hr5 := hr4.kept (k5 _ hH.out.2.2.1); have hd5 := h4.of_block (k5 _ hH.out.2.2.2.2.1); have X5 := n5 w.heap.size w (by omega) X4))
  clear b2 b3 o2 o3 h4 ht4 hs4 ho4 hb4 hr4 k4 k5 n4 n5 ho3 hb3 hr3 hA3 hS3 X3 X13 X1 X4 hx
  have o2 := ho5.cell (j := 2) rfl
  have o3 := ho5.cell (j := 3) rfl
  have z1 := hd5.cell hi
  have z2 := h5.cell hi
  have y1 := hd5.frozen i
  have y2 := h5.frozen i
  have hne1 : u ≠ d2 := hH.out.1.2.2.1
  have hne2 : u ≠ t2 := hH.out.2.2.2.1
  have hne3 : d2 ≠ t2 := hH.out.2.2.2.2.1
  have hne4 : t2 ≠ d2 := hH.out.1.2.2.2.1
  have q1 : decide ((i : Int) < 0) = false := by simp
  have q2 : decide (npc len ≤ i) = false := by simp; omega
  have HO := Lib.hid ho5
  have HRR := Lib.hid hr5
  have HD5 := Lib.hid hd5
  have HT5 := Lib.hid h5
  have HX5 := Lib.hid X5
  clear ho5 hr5 hd5 h5 X5 hn hi2 hl e1 hpl
  simp only [Act.put, List.setIfInBounds_toArray, List.set_cons_succ, List.set_cons_zero]
  go_cut [] (fun wx => wx = ((w5.setCell ⟨d2, i, none⟩ (.string s)).setCell ⟨t2, i, none⟩ (.bool true)).drew)
  case first =>
    go_region_with fail
    all_goals go_wp2_with fail
    all_goals go_meet
    all_goals exact rfl
  case rest =>
    have hoc : RowB wc u 129 [.string tag, .int .i64 len, .slice (some ⟨d2, 0, none⟩) (npc len) (npc len), .slice (some ⟨t2, 0, none⟩) (npc len) (npc len)] := by
      rw [hcut]; exact (HO.out.kept (blk_setCell_other w5 ⟨d2, i, none⟩ _ _ hne1)).kept (blk_setCell_other _ ⟨t2, i, none⟩ _ _ hne2)
    have hrc : RowB wc (w.heap.size + 1) 129 [.string ⟨#[]⟩, .int .i64 0, .slice none 0 0, .slice none 0 0] := by
      rw [hcut]; exact (HRR.out.kept (blk_setCell_other w5 ⟨d2, i, none⟩ _ _ hH.out.1.2.1)).kept (blk_setCell_other _ ⟨t2, i, none⟩ _ _ hH.out.2.2.1)
    have hAc : RefAt wc d2 t2 len (upd D i (some s)) := by
      rw [hcut]
      refine ⟨World.rowIs.drew (World.rowIs.setOther ((HD5.out.set i _).congr fun j hj => ?_) hne3 _), World.rowIs.drew (((HT5.out.setOther hne4 _).set i _).congr fun j hj => ?_)⟩
      · unfold upd
        by_cases e : j = i
        · rw [if_pos e, if_pos e]; rfl
        · rw [if_neg e, if_neg e]
      · unfold upd
        by_cases e : j = i
        · rw [if_pos e, if_pos e]; rfl
        · rw [if_neg e, if_neg e]
    have hXc : Ext w wc := by
      rw [hcut]; exact ((HX5.out.setCell (by have := hN1; show w.heap.size ≤ d2; omega) _).setCell (by have := hN1; show w.heap.size ≤ t2; omega) _).drew
    clear hcut o2 o3 z1 z2 y1 y2
    have o0 := hoc.cell (j := 0) rfl
    have o1 := hoc.cell (j := 1) rfl
    have o2 := hoc.cell (j := 2) rfl
    have o3 := hoc.cell (j := 3) rfl
    have r0 := hrc.cell (j := 0) rfl
    have r1 := hrc.cell (j := 1) rfl
    have r2 := hrc.cell (j := 2) rfl
    have r3 := hrc.cell (j := 3) rfl
    have f0 := hrc.frozen (j := 0) (by simp)
    have f1 := hrc.frozen (j := 1) (by simp)
    have f2 := hrc.frozen (j := 2) (by simp)
    have f3 := hrc.frozen (j := 3) (by simp)
    go_wp2_with fail
    have hz := (((hrc.set 0 (.string tag) (by simp)).set 1 (.int .i64 len) (by simp)).set 2 (.slice (some ⟨d2, 0, none⟩) (npc len) (npc len)) (by simp)).set 3 (.slice (some ⟨t2, 0, none⟩) (npc len) (npc len)) (by simp)
    have z0 := hz.cell (j := 0) rfl
    have z1 := hz.cell (j := 1) rfl
    have z2 := hz.cell (j := 2) rfl
    have z3 := hz.cell (j := 3) rfl
    have m1 : d2 ≠ w.heap.size + 1 := fun e => hH.out.1.2.1 e.symm
    have m2 : t2 ≠ w.heap.size + 1 := fun e => hH.out.2.2.1 e.symm
    refine bodyPost_ret (by simp [results, Tryz.results112, go_sem, z0, z1, z2, z3]; try rfl) rfl ?_
    refine ⟨d2, t2, rfl, (((hXc.setCell (Nat.le_succ _) _).setCell (Nat.le_succ _) _).setCell (Nat.le_succ _) _).setCell (Nat.le_succ _) _, ⟨by have := hN1; omega, by have := hN1; omega⟩, ?_, ?_⟩
    · exact (((hAc.data.setOther m1 _).setOther m1 _).setOther m1 _).setOther m1 _
    · exact (((hAc.there.setOther m2 _).setOther m2 _).setOther m2 _).setOther m2 _
end Go.Proofs.YtfgjbbpkkbohhaaGreat
