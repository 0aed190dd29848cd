/- Chapter 20: the reference's Drop. -/
import Derived.Test.YtfjpaacanoocmaaPe6
namespace Go.Proofs.Ytfjpaacanoocmaa
open Go.RowKit Go.Deep Go.Sort
theorem RefAt.congr {w : World} {d t len : Nat} {D E : Nat → Option ByteArray} (h : RefAt w d t len D) (he : ∀ j, j < npc len → D j = E j) : RefAt w d t len E :=
  ⟨h.data.congr fun j hj => by rw [he j hj], h.there.congr fun j hj => by rw [he j hj]⟩
theorem RefAt.of_blocks {w w' : World} {d t len : Nat} {D : Nat → Option ByteArray} (h : RefAt w d t len D) (h1 : w'.heap[d]? = w.heap[d]?) (h2 : w'.heap[t]? = w.heap[t]?) : RefAt w' d t len D := ⟨h.data.of_block h1, h.there.of_block h2⟩
set_option maxRecDepth 100000 in
set_option maxHeartbeats 4000000 in
theorem rdrop_any {w : World} {d t len : Nat} {tag : ByteArray} {D : Nat → Option ByteArray} (h : RefAt w d t len D) (hl : len ≤ 65536) (i : Int) :
    Calls Try.prog 28 #[refV tag len d t, .int .i64 i] w fun e w' => ∃ d' t', e = .returned (refV tag len d' t') ∧ Ext w w' ∧ (w.heap.size ≤ d' ∧ w.heap.size ≤ t') ∧ RefAt w' d' t' len (fun j => if (j : Int) = i then none else D j) := by
  have hn : npc len ≤ 256 := by unfold npc; omega
  have HA := Lib.hid h
  clear h
  obtain ⟨ws, hws⟩ : ∃ ws, ws = (w.alloc (.cells #[.string tag, .int .i64 len, .slice (some ⟨d, 0, none⟩) (npc len) (npc len), .slice (some ⟨t, 0, none⟩) (npc len) (npc len)] 29)).alloc (.cells #[.string ⟨#[]⟩, .int .i64 0, .slice none 0 0, .slice none 0 0] 29) := ⟨_, rfl⟩
  have hX0 : Ext w ws := by rw [hws]; exact ((Ext.refl w).alloc _).alloc _
  have HR0 := Lib.hid (show RowB ws w.heap.size 29 [.string tag, .int .i64 len, .slice (some ⟨d, 0, none⟩) (npc len) (npc len), .slice (some ⟨t, 0, none⟩) (npc len) (npc len)] by rw [hws]; exact (RowB.laid w _ _).ext ((Ext.refl _).alloc _))
  have HR1 := Lib.hid (show RowB ws (w.heap.size + 1) 29 [.string ⟨#[]⟩, .int .i64 0, .slice none 0 0, .slice none 0 0] by rw [hws]; simpa using RowB.laid (w.alloc _) 29 [.string ⟨#[]⟩, .int .i64 0, .slice none 0 0, .slice none 0 0])
  go_enter Try.func28, Try.ntmps28
  go_upto_region 1 with fail
  rw [← hws]
  clear hws
  have b0 := HR0.out.cell (j := 0) rfl
  have b1 := HR0.out.cell (j := 1) rfl
  go_upto_region 2 with (first | (go_at_call 26; refine (rnew_any tag len hl _).mono ?_; rintro e w2 ⟨d2, t2, rfl, hx2, hN, hA2⟩))
  clear b0 b1
  have hd2 := hA2.data.lt
  have ht2 := hA2.there.lt
  have hN1 : w.heap.size + 1 < d2 ∧ w.heap.size + 1 < t2 ∧ d2 ≠ t2 := by
    have := HR1.out.lt
    omega
  obtain ⟨w3, hw3⟩ : ∃ w3, w3 = w2.alloc (.cells #[.string tag, .int .i64 len, .slice (some ⟨d2, 0, none⟩) (npc len) (npc len), .slice (some ⟨t2, 0, none⟩) (npc len) (npc len)] 29) := ⟨_, rfl⟩
  have hX3 : Ext w2 w3 := by rw [hw3]; exact (Ext.refl w2).alloc _
  have ho3 : RowB w3 w2.heap.size 29 [.string tag, .int .i64 len, .slice (some ⟨d2, 0, none⟩) (npc len) (npc len), .slice (some ⟨t2, 0, none⟩) (npc len) (npc len)] := by rw [hw3]; exact RowB.laid _ _ _
  rw [← hw3]
  clear hw3
  obtain ⟨u, hu⟩ : ∃ u, w2.heap.size = u := ⟨_, rfl⟩
  rw [hu] at ho3 hd2 ht2 ⊢
  have X3 : Ext w w3 := hX0.trans (hx2.trans hX3)
  have hb3 := HR0.out.ext (hx2.trans hX3)
  have hr3 := HR1.out.ext (hx2.trans hX3)
  have hA3 := hA2.ext hX3
  have hS3 := HA.out.ext X3
  have hdl := HA.out.data.lt
  have htl := HA.out.there.lt
  clear hA2 hx2 hX3 hN hu
  have hH := Lib.hid (show (w.heap.size ≠ d2 ∧ w.heap.size + 1 ≠ d2 ∧ u ≠ d2 ∧ t2 ≠ d2 ∧ d ≠ d2 ∧ t ≠ d2) ∧ (w.heap.size ≠ t2 ∧ w.heap.size + 1 ≠ t2 ∧ u ≠ t2 ∧ d2 ≠ t2 ∧ d ≠ t2 ∧ t ≠ t2) by omega)
  have hH2 := Lib.hid (show w.heap.size ≤ d2 ∧ w.heap.size ≤ t2 by omega)
  have b3 := hb3.cell (j := 3) rfl
  have HB3 := Lib.hid hb3
  have HRR := Lib.hid hr3
  have HO3 := Lib.hid ho3
  have HS3 := Lib.hid hS3
  clear hb3 hr3 ho3 hS3 hdl htl hd2 ht2 hN1
  go_wp2_with fail
  clear b3
  go_loopw [15] (fun v wr => ∃ k : Nat, k ≤ npc len ∧ v = .int .i64 k ∧ RefAt wr d2 t2 len (fun j => if j < k ∧ (j : Int) ≠ i then D j else none) ∧ Ext w wr ∧ ∀ q, q ≠ d2 → q ≠ t2 → wr.heap[q]? = w3.heap[q]?) (fun v _ => npc len - (intOf v).toNat)
  case atStart => exact ⟨0, by omega, rfl, hA3.congr fun j _ => by simp, X3, fun _ _ _ => rfl⟩
  case round =>
    obtain ⟨k, hk, rfl, hR, hX, hK⟩ := hrel
    have hb4 := HB3.out.kept (hK _ hH.out.1.1 hH.out.2.1)
    have ho4 := HO3.out.kept (hK _ hH.out.1.2.2.1 hH.out.2.2.2.1)
    have hr4 := HRR.out.kept (hK _ hH.out.1.2.1 hH.out.2.2.1)
    have hS4 := HS3.out.of_blocks (hK _ hH.out.1.2.2.2.2.1 hH.out.2.2.2.2.2.1) (hK _ hH.out.1.2.2.2.2.2 hH.out.2.2.2.2.2.2)
    by_cases hlt : k < npc len
    · have b3 := hb4.cell (j := 3) rfl
      have hki : (k : Int) < (npc len : Int) := by omega
      have b4 := hS4.there.cell hlt
      by_cases hik : (k : Int) = i
      · have q0 : ((k : Int) != i) = false := by simp [hik]
        have HNW : RefAt wr d2 t2 len (fun j => if j < k + 1 ∧ (j : Int) ≠ i then D j else none) := hR.congr fun j _ => by
          by_cases e : j = k
          · subst e; simp [hik]
          · simp [show j < k + 1 ↔ j < k by omega]
        have HN := Lib.hid HNW
        clear hik HNW
        go_wp2_with fail
        go_roundw
        case rel => exact ⟨k + 1, hlt, by go_num, HN.out, hX, hK⟩
        case measure => simp [intOf]; omega
      · have q0 : ((k : Int) != i) = true := by simp [hik]
        cases hD : D k with
        | none =>
          rw [hD] at b4
          simp only [Option.isSome_none] at b4
          have HNW : RefAt wr d2 t2 len (fun j => if j < k + 1 ∧ (j : Int) ≠ i then D j else none) := hR.congr fun j _ => by
            by_cases e : j = k
            · subst e; simp [hD]
            · simp [show j < k + 1 ↔ j < k by omega]
          have HN := Lib.hid HNW
          clear HNW
          go_wp2_with fail
          go_roundw
          case rel => exact ⟨k + 1, hlt, by go_num, HN.out, hX, hK⟩
          case measure => simp [intOf]; omega
        | some s =>
          rw [hD] at b4
          simp only [Option.isSome_some] at b4
          have b2 := hb4.cell (j := 2) rfl
          have b5 := hS4.data.cell hlt
          rw [hD] at b5
          simp only [Option.getD_some] at b5
          have o2 := ho4.cell (j := 2) rfl
          have o3 := ho4.cell (j := 3) rfl
          have z1 := hR.data.cell hlt
          have z2 := hR.there.cell hlt
          have y1 := hR.data.frozen k
          have y2 := hR.there.frozen k
          have hne1 : u ≠ d2 := hH.out.1.2.2.1
          have hne2 : u ≠ t2 := hH.out.2.2.2.1
          have hne3 : d2 ≠ t2 := hH.out.2.2.2.2.1
          have hne4 : t2 ≠ d2 := hH.out.1.2.2.2.1
          have q1 : decide ((k : Int) < 0) = false := by simp
          have q2 : decide (npc len ≤ k) = false := by simp; omega
          have HR4 := Lib.hid hR
          have HX4 := Lib.hid hX
          have HK4 := Lib.hid hK
          have HNW : RefAt ((wr.setCell ⟨d2, k, none⟩ (.string s)).setCell ⟨t2, k, none⟩ (.bool true)).drew d2 t2 len (fun j => if j < k + 1 ∧ (j : Int) ≠ i then D j else none) := by
            refine ⟨World.rowIs.drew (World.rowIs.setOther ((hR.data.set k _).congr fun j hj => ?_) hne3 _), World.rowIs.drew (((hR.there.setOther hne4 _).set k _).congr fun j hj => ?_)⟩
            · by_cases e : j = k
              · subst e; simp [hik, hD]
              · simp [e, show j < k + 1 ↔ j < k by omega]
            · by_cases e : j = k
              · subst e; simp [hik, hD]
              · simp [e, show j < k + 1 ↔ j < k by omega]
          have HNX : Ext w ((wr.setCell ⟨d2, k, none⟩ (.string s)).setCell ⟨t2, k, none⟩ (.bool true)).drew := ((hX.setCell (by exact hH2.out.1) _).setCell (by exact hH2.out.2) _).drew
          have HNK : ∀ q, q ≠ d2 → q ≠ t2 → ((wr.setCell ⟨d2, k, none⟩ (.string s)).setCell ⟨t2, k, none⟩ (.bool true)).drew.heap[q]? = w3.heap[q]? := fun q h1 h2 => ((blk_setCell_other _ ⟨t2, k, none⟩ _ _ h2).trans (blk_setCell_other wr ⟨d2, k, none⟩ _ _ h1)).trans (hK q h1 h2)
          have HN := Lib.hid (And.intro HNW (And.intro HNX HNK))
          clear HNW HNX HNK
          clear hR hX hK hb4 ho4 hr4 hS4 hl
          go_upto_region 6 with fail
          go_region_with fail
          all_goals go_wp2_with fail
          all_goals go_roundw
          all_goals first | exact ⟨k + 1, hlt, by go_num, HN.out⟩ | (simp [intOf]; omega)
    · obtain rfl : k = npc len := by omega
      have o0 := ho4.cell (j := 0) rfl
      have o1 := ho4.cell (j := 1) rfl
      have o2 := ho4.cell (j := 2) rfl
      have o3 := ho4.cell (j := 3) rfl
      have f0 := hr4.frozen (j := 0) (by simp)
      have f1 := hr4.frozen (j := 1) (by simp)
      have f2 := hr4.frozen (j := 2) (by simp)
      have f3 := hr4.frozen (j := 3) (by simp)
      have r0 := hr4.cell (j := 0) rfl
      have r1 := hr4.cell (j := 1) rfl
      have r2 := hr4.cell (j := 2) rfl
      have r3 := hr4.cell (j := 3) rfl
      have m1 : d2 ≠ w.heap.size + 1 := fun e => hH.out.1.2.1 e.symm
      have m2 : t2 ≠ w.heap.size + 1 := fun e => hH.out.2.2.1 e.symm
      have HRC := Lib.hid hr4
      have hRF : RefAt wr d2 t2 len (fun j => if (j : Int) = i then none else D j) := hR.congr fun j hj => by
        by_cases e : (j : Int) = i
        · simp [e]
        · simp [e, hj]
      have HRF := Lib.hid hRF
      clear hR hRF hlt
      go_wp2_with fail
      have hz := (((HRC.out.set 0 (.string tag) (by simp)).set 1 (.int .i64 len) (by simp)).set 2 (.slice (some ⟨d2, 0, none⟩) (npc len) (npc len)) (by simp)).set 3 (.slice (some ⟨t2, 0, none⟩) (npc len) (npc len)) (by simp)
      have z0 := hz.cell (j := 0) rfl
      have z1 := hz.cell (j := 1) rfl
      have z2 := hz.cell (j := 2) rfl
      have z3 := hz.cell (j := 3) rfl
      refine bodyPost_ret (by simp [results, Try.results28, go_sem, z0, z1, z2, z3]; try rfl) rfl ?_
      refine ⟨d2, t2, rfl, (((hX.setCell (Nat.le_succ _) _).setCell (Nat.le_succ _) _).setCell (Nat.le_succ _) _).setCell (Nat.le_succ _) _, hH2.out, ?_, ?_⟩
      · exact (((HRF.out.data.setOther m1 _).setOther m1 _).setOther m1 _).setOther m1 _
      · exact (((HRF.out.there.setOther m2 _).setOther m2 _).setOther m2 _).setOther m2 _
end Go.Proofs.Ytfjpaacanoocmaa
