/- Chapter 20: Put of the same bytes once more. -/
import Derived.Test.YtfjpaacanoocmaaPcS
import Derived.Deep.RegionHeld3
import Derived.Deep.RegionLaw
import Derived.Deep.DrawnRows
import Derived.Deep.DeepCutAuto
namespace Go.Proofs.Ytfjpaacanoocmaa
open Go.RowKit Go.Deep Go.Sort
attribute [local go_sem ↓] Go.wp_at_zero Go.wp_at_succ

set_option maxRecDepth 100000 in
/-- a Put of a piece that is there with the same bytes -/
theorem put_same {w : World} {B b l len : Nat} {A : Nat → Prop} {tag : ByteArray} {D : Nat → Option ByteArray} (h : BodyAt w B A b l tag len D) (hl : len ≤ 65536) (i : Nat) (hi : i < npc len) (g cap : Nat) (s : ByteArray)
    (hs : BytesAt w g s) (hz : s.size = pto i len - i * 256) (hD : D i = some s) (hA : ∀ k, A k → k < w.heap.size) :
    Calls Try.prog 16 #[.pointer (some ⟨b, 0, none⟩), .int .i64 i, .slice (some ⟨g, 0, none⟩) s.size cap] w fun e w' => e = .returned .nilIface ∧ Below B w w' ∧ Kept l w w' ∧ BodyAt w' B A b l tag len (upd D i (some s)) := by
  have hn : npc len ≤ 256 := by unfold npc; omega
  have hi2 : i * 256 < len := by unfold npc at hi; omega
  have c1 := h.c1
  have c2 := h.c2
  obtain ⟨f, hf, hp⟩ := h.row
  have hc := hf.cell hi
  have hfz := hf.frozen i
  have hpi := hp i hi
  rw [hD] at hpi
  obtain ⟨g0, cap0, ef, -, -, -, -, hs0'⟩ := hpi
  rw [ef] at hc
  have HEQ := Lib.hid (fun W (hW : Ext w W) => equal_same W g0 g cap0 cap s (fun j hj => hW.cell (hs0' j hj)) (fun j hj => hW.cell (hs j hj)))
  have hs6 : s.size ≤ 256 := by rw [hz]; unfold pto; omega
  have hs0 : 1 ≤ s.size := by rw [hz]; unfold pto; omega
  have hgs : g < w.heap.size := World.block_lt_of_cell? w _ (hs 0 hs0)
  obtain ⟨i0, hi0, hz0, hz1, hz2⟩ := info_parts (show (Try.prog.info? 5).map (fun i => (i.zero, i.size, i.bytes)) = some (some (.int .u8 0), 1, 1) by kernel_rfl)
  have hrd : Reads w w.heap.size 1 (some ⟨g, 0, none⟩) s.size ((byteIs s).map (Value.int .u8)) := by
    refine ⟨by simp [byteIs_length], fun _ => ⟨_, rfl, hgs, fun j u hu => ?_⟩⟩
    have hj : j < s.size := by
      have := (List.getElem?_eq_some_iff.1 hu).1
      simpa [byteIs_length] using this
    rw [Addr.add_lit, Nat.zero_add, hs j hj, ← hu, List.getElem?_map, List.getElem?_eq_getElem (by rw [byteIs_length]; exact hj)]
    simp [List.getD, byteIs_length, hj]
  have hrd6 : Reads (w.alloc (.cells #[] 5)).drew w.heap.size 1 (some ⟨g, 0, none⟩) s.size ((byteIs s).map (Value.int .u8)) := (hrd.alloc (Nat.le_refl _) _).drew
  have hown : (w.alloc (.cells #[] 5)).drew.ownsRow w.heap.size 5 1 (.slice (some ⟨w.heap.size, 0, none⟩) 0 0) 0 [] := by
    refine ⟨rfl, .inr ⟨w.heap.size, 0, #[], rfl, Nat.le_refl _, heap_alloc_new w _, Nat.le_refl _, by simp only [maxLen]; omega, rfl, rfl⟩⟩
  have hone : ∀ v ∈ (byteIs s).map (Value.int .u8), v.oneCell' = true := by
    intro v hv
    obtain ⟨n, -, rfl⟩ := List.mem_map.1 hv
    rfl
  have HZ := Lib.hid hz
  have key : ((len : Int) - (i : Int) * 256 < 256 ∧ (len : Int) - (i : Int) * 256 = (s.size : Int)) ∨ (¬ (len : Int) - (i : Int) * 256 < 256 ∧ (s.size : Int) = 256) := by
    rw [hz]; unfold pto; omega
  clear hz
  have hbz : b < w.heap.size := World.block_lt_of_cell? w _ c2
  have hlz : l < w.heap.size := hf.lt
  have hc6 : (w.alloc (.cells #[] 5)).drew.cell? ⟨l, i, none⟩ = some (.slice (some ⟨g0, 0, none⟩) s.size cap0) := Ext.cell (((Ext.refl w).alloc _).drew) hc
  have hf6 : (w.alloc (.cells #[] 5)).drew.frozen? ⟨l, i, none⟩ = false := (Ext.frozen (((Ext.refl w).alloc _).drew) hc).trans hfz
  have hd6 : (w.alloc (.cells #[] 5)).drew.cell? ⟨b, 2, none⟩ = some (.slice (some ⟨l, 0, none⟩) (npc len) (npc len)) := Ext.cell (((Ext.refl w).alloc _).drew) c2
  have HB := Lib.hid h
  have HAV := Lib.hid hA
  have hBl := h.hl
  have q1 : decide ((i : Int) < 0) = false := by simp
  have q2 : decide (npc len ≤ i) = false := by simp; omega
  clear h hp hA ef hs0'
  go_enter Try.func16, Try.ntmps16
  rcases key with ⟨e1, e2⟩ | ⟨e1, e2⟩
  all_goals go_upto_region 9 with (go_at_call 38; refine (HEQ.out _ (by first | exact Ext.refl _ | exact (Ext.refl w).drew | exact (Ext.refl w).drewN _)).mono ?_; rintro e w' ⟨rfl, rfl⟩)
  all_goals go_cut [] (fun wx => Below B w wx ∧ Kept l w wx ∧ BodyAt wx B A b l tag len (upd D i (some s)))
  case first =>
    go_region_law (first
      | (refine step_append_any _ (by rfl) _ _ _ (by rfl) w.heap.size 5 i0 _ 1 1 Try.underlying38 hi0 hz0 hz1 hz2 rfl (by omega) (.slice (some ⟨w.heap.size, 0, none⟩) 0 0) 0 [] (by rfl) hown w.heap.size (some ⟨g, 0, none⟩) s.size cap ((byteIs s).map (Value.int .u8)) (by rfl) hrd6 hone (by simp only [maxLen]; omega) (by omega) (by simp) ?_
         intro v7 w7 hown7 hg7 hat7
         rw [Nat.zero_add, List.nil_append] at hown7
         obtain ⟨g7, cap7, rfl, hb7, hl7, hm7, hz7⟩ := own_some hown7 (by rcases hat7 with e | e <;> rw [e] <;> simp [Value.ownBlock])
         have bl7 := hg7.block l (by simp; omega) (by simp [Value.ownBlock]; omega)
         have bb7 := hg7.block b (by simp; omega) (by simp [Value.ownBlock]; omega)
         have c7 : w7.cell? ⟨l, i, none⟩ = some (.slice (some ⟨g0, 0, none⟩) s.size cap0) := (World.cell?_of_block bl7).trans hc6
         have f7 : w7.frozen? ⟨l, i, none⟩ = false := (World.frozen?_of_block bl7).trans hf6
         have d7 : w7.cell? ⟨b, 2, none⟩ = some (.slice (some ⟨l, 0, none⟩) (npc len) (npc len)) := (World.cell?_of_block bb7).trans hd6
         have X7 : Ext w w7 := Below.grown (((Ext.refl w).alloc _).drew) hg7 (Ext.size (((Ext.refl w).alloc _).drew)) (own_ge (Nat.le_refl _))
         have Y7 := (HB.out.ext X7).set i (.slice (some ⟨g7, 0, none⟩) s.size cap7) (some s) ⟨g7, cap7, rfl, hl7, ⟨by omega, fun e => by have := HAV.out _ e; omega⟩, by omega, hz7, own_bytes hown7⟩
         have Z7 : Below B w (w7.setCell ⟨l, i, none⟩ (.slice (some ⟨g7, 0, none⟩) s.size cap7)) := (Below.mono X7 (by omega)).setCell hBl _
         have K7 : Kept l w (w7.setCell ⟨l, i, none⟩ (.slice (some ⟨g7, 0, none⟩) s.size cap7)) := (Kept.of_ext l X7).set _ _))
    all_goals go_wp2_with fail
    all_goals go_meet
    all_goals exact ⟨Z7, K7, Y7⟩
  case rest =>
    go_wp2_with fail
    go_ret
    exact ⟨rfl, hcut⟩
  case first =>
    go_region_law (first
      | (refine step_append_any _ (by rfl) _ _ _ (by rfl) w.heap.size 5 i0 _ 1 1 Try.underlying38 hi0 hz0 hz1 hz2 rfl (by omega) (.slice (some ⟨w.heap.size, 0, none⟩) 0 0) 0 [] (by rfl) hown w.heap.size (some ⟨g, 0, none⟩) s.size cap ((byteIs s).map (Value.int .u8)) (by rfl) hrd6 hone (by simp only [maxLen]; omega) (by omega) (by simp) ?_
         intro v7 w7 hown7 hg7 hat7
         rw [Nat.zero_add, List.nil_append] at hown7
         obtain ⟨g7, cap7, rfl, hb7, hl7, hm7, hz7⟩ := own_some hown7 (by rcases hat7 with e | e <;> rw [e] <;> simp [Value.ownBlock])
         have bl7 := hg7.block l (by simp; omega) (by simp [Value.ownBlock]; omega)
         have bb7 := hg7.block b (by simp; omega) (by simp [Value.ownBlock]; omega)
         have c7 : w7.cell? ⟨l, i, none⟩ = some (.slice (some ⟨g0, 0, none⟩) s.size cap0) := (World.cell?_of_block bl7).trans hc6
         have f7 : w7.frozen? ⟨l, i, none⟩ = false := (World.frozen?_of_block bl7).trans hf6
         have d7 : w7.cell? ⟨b, 2, none⟩ = some (.slice (some ⟨l, 0, none⟩) (npc len) (npc len)) := (World.cell?_of_block bb7).trans hd6
         have X7 : Ext w w7 := Below.grown (((Ext.refl w).alloc _).drew) hg7 (Ext.size (((Ext.refl w).alloc _).drew)) (own_ge (Nat.le_refl _))
         have Y7 := (HB.out.ext X7).set i (.slice (some ⟨g7, 0, none⟩) s.size cap7) (some s) ⟨g7, cap7, rfl, hl7, ⟨by omega, fun e => by have := HAV.out _ e; omega⟩, by omega, hz7, own_bytes hown7⟩
         have Z7 : Below B w (w7.setCell ⟨l, i, none⟩ (.slice (some ⟨g7, 0, none⟩) s.size cap7)) := (Below.mono X7 (by omega)).setCell hBl _
         have K7 : Kept l w (w7.setCell ⟨l, i, none⟩ (.slice (some ⟨g7, 0, none⟩) s.size cap7)) := (Kept.of_ext l X7).set _ _))
    all_goals go_wp2_with fail
    all_goals go_meet
    all_goals exact ⟨Z7, K7, Y7⟩
  case rest =>
    go_wp2_with fail
    go_ret
    exact ⟨rfl, hcut⟩
end Go.Proofs.Ytfjpaacanoocmaa
