/- Chapter 20: bytes.Equal; Put. -/
import Derived.Test.YtfgjbbpkkbohhaaGreatPcB
import Derived.Test.YtfgjbbpkkbohhaaGreatApp
import Derived.Deep.RegionHeld3
import Derived.Deep.RegionLaw
import Derived.Deep.DrawnRows
import Derived.Deep.DeepCutAuto
namespace Go.Proofs.YtfgjbbpkkbohhaaGreat
open Go.RowKit Go.Deep
attribute [local go_sem ↓] Go.wp_at_zero Go.wp_at_succ

theorem own_some {w : World} {base : Nat} {e : TypeId} {size : Nat} {v : Value} {n : Nat} {xs : List Value} (h : w.ownsRow base e size v n xs) (hn : v.ownBlock ≠ none) : ∃ g cap, v = .slice (some ⟨g, 0, none⟩) n cap ∧ base ≤ g ∧ n ≤ cap ∧ cap ≤ maxLen ∧ g < w.heap.size := by
  rcases h.2 with ⟨rfl, _⟩ | ⟨g, cap, cur, rfl, hb, hh, hl, hm, _⟩
  · exact absurd rfl hn
  · exact ⟨g, cap, rfl, hb, hl, hm, (Array.getElem?_eq_some_iff.1 hh).1⟩
theorem own_ge {g B n cap : Nat} (h : B ≤ g) : ∀ k, (Value.slice (some ⟨g, 0, none⟩) n cap).ownBlock = some k → B ≤ k := fun k hk => by
  have e : g = k := by simpa [Value.ownBlock] using hk
  omega
theorem own_bytes {w : World} {base : Nat} {s : ByteArray} {g cap : Nat} (h : w.ownsRow base 5 1 (.slice (some ⟨g, 0, none⟩) s.size cap) s.size ((byteIs s).map (Value.int .u8))) : BytesAt w g s := by
  intro i hi
  rcases h.2 with ⟨e, _⟩ | ⟨g', cap', cur, e, hb, hh, hl, hm, hc, ht⟩
  · cases e
  · simp only [Value.slice.injEq, Option.some.injEq, Addr.mk.injEq, and_true, true_and] at e
    obtain ⟨rfl, rfl⟩ := e
    rw [cell_of_row w g i cur _ _ hh]
    have h1 : (cur.toList.take (s.size * 1))[i]? = some (Value.int .u8 ((byteIs s).getD i 0)) := by
      rw [ht, List.getElem?_map, List.getElem?_eq_getElem (by rw [byteIs_length]; exact hi)]
      simp [List.getD, byteIs_length, hi]
    rw [List.getElem?_take] at h1
    simpa [hi] using h1

theorem strOf_byteIs (s : ByteArray) : strOfNums (byteIs s) = s := by
  unfold byteIs strOfNums
  apply ByteArray.ext
  show (List.map _ (List.map _ s.data.toList)).toArray = s.data
  rw [List.map_map]
  have : (fun n : Int => UInt8.ofNat n.toNat) ∘ (fun b : UInt8 => (b.toNat : Int)) = id := by
    funext b
    simp
  rw [this, List.map_id]
theorem conv_bytes {w : World} {g cap : Nat} {s : ByteArray} (h : BytesAt w g s) :
    (convert 36 9 (.slice (some ⟨g, 0, none⟩) s.size cap)).run Tryz.prog w = .ok (.string s) w := by
  have := run_convert_bytes_arg (P := Tryz.prog) w 36 5 Tryz.underlying36 Tryz.underlying5 g 0 s.size cap (byteIs s) (byteIs_length s) (fun i hi => by rw [Nat.zero_add]; exact h i hi) 9 Tryz.underlying9
  rw [strOf_byteIs] at this
  exact this
set_option maxRecDepth 100000 in
theorem equal_any (w : World) (g g' c d : Nat) (s t : ByteArray) (hs : BytesAt w g s) (ht : BytesAt w g' t) :
    Calls Tryz.prog 100 #[.slice (some ⟨g, 0, none⟩) s.size c, .slice (some ⟨g', 0, none⟩) t.size d] w fun e w' => e = .returned (.bool (decide (s = t))) ∧ w = w' := by
  have h1 := conv_bytes (cap := c) hs
  have h2 := conv_bytes (cap := d) ht
  go_enter Tryz.func100, Tryz.ntmps100
  go_wp2_with fail
  go_ret
  refine ⟨ret_bool ?_, rfl⟩
  cases hq : s.toList == t.toList with
  | true => simp [ba_eq hq]
  | false => simp [ba_ne hq]

set_option maxRecDepth 100000 in
/-- a Put of a piece that is not there, or there with the same bytes -/
theorem put_ok {w : World} {B b l len : Nat} {A : Nat → Prop} {tag : ByteArray} {D : Nat → Option ByteArray} (h : BodyAt w B A b l tag len D) (hl : len ≤ 65536) (i : Nat) (hi : i < npc len) (g cap : Nat) (s : ByteArray)
    (hs : BytesAt w g s) (hz : s.size = pto i len - i * 256) (hD : D i = none) (hA : ∀ k, A k → k < w.heap.size) :
    Calls Tryz.prog 52 #[.pointer (some ⟨b, 0, none⟩), .int .i64 i, .slice (some ⟨g, 0, none⟩) s.size cap] w fun e w' => e = .returned .nilIface ∧ Below B w w' ∧ Kept l w w' ∧ BodyAt w' B A b l tag len (upd D i (some s)) := by
  have hn : npc len ≤ 256 := by unfold npc; omega
  have hi2 : i * 256 < len := by unfold npc at hi; omega
  have c1 := h.c1
  have c2 := h.c2
  obtain ⟨f, hf, hp⟩ := h.row
  have hc := hf.cell hi
  have hfz := hf.frozen i
  have hpi := hp i hi
  rw [hD] at hpi
  rw [show f i = .slice none 0 0 from hpi] at hc
  have hs6 : s.size ≤ 256 := by rw [hz]; unfold pto; omega
  have hs0 : 1 ≤ s.size := by rw [hz]; unfold pto; omega
  have hgs : g < w.heap.size := World.block_lt_of_cell? w _ (hs 0 hs0)
  obtain ⟨i0, hi0, hz0, hz1, hz2⟩ := info_parts (show (Tryz.prog.info? 5).map (fun i => (i.zero, i.size, i.bytes)) = some (some (.int .u8 0), 1, 1) by kernel_rfl)
  have hrd : Reads w w.heap.size 1 (some ⟨g, 0, none⟩) s.size ((byteIs s).map (Value.int .u8)) := by
    refine ⟨by simp [byteIs_length], fun _ => ⟨_, rfl, hgs, fun j u hu => ?_⟩⟩
    have hj : j < s.size := by
      have := (List.getElem?_eq_some_iff.1 hu).1
      simpa [byteIs_length] using this
    rw [Addr.add_lit, Nat.zero_add, hs j hj, ← hu, List.getElem?_map, List.getElem?_eq_getElem (by rw [byteIs_length]; exact hj)]
    simp [List.getD, byteIs_length, hj]
  have hrd6 : Reads (w.alloc (.cells #[] 5)).drew w.heap.size 1 (some ⟨g, 0, none⟩) s.size ((byteIs s).map (Value.int .u8)) := (hrd.alloc (Nat.le_refl _) _).drew
  have hown : (w.alloc (.cells #[] 5)).drew.ownsRow w.heap.size 5 1 (.slice (some ⟨w.heap.size, 0, none⟩) 0 0) 0 [] := by
    refine ⟨rfl, .inr ⟨w.heap.size, 0, #[], rfl, Nat.le_refl _, heap_alloc_new w _, Nat.le_refl _, by simp only [maxLen]; omega, rfl, rfl⟩⟩
  have hone : ∀ v ∈ (byteIs s).map (Value.int .u8), v.oneCell' = true := by
    intro v hv
    obtain ⟨n, -, rfl⟩ := List.mem_map.1 hv
    rfl
  have HZ := Lib.hid hz
  have key : ((len : Int) - (i : Int) * 256 < 256 ∧ (len : Int) - (i : Int) * 256 = (s.size : Int)) ∨ (¬ (len : Int) - (i : Int) * 256 < 256 ∧ (s.size : Int) = 256) := by
    rw [hz]; unfold pto; omega
  clear hz
  have hbz : b < w.heap.size := World.block_lt_of_cell? w _ c2
  have hlz : l < w.heap.size := hf.lt
  have hc6 : (w.alloc (.cells #[] 5)).drew.cell? ⟨l, i, none⟩ = some (.slice none 0 0) := Ext.cell (((Ext.refl w).alloc _).drew) hc
  have hf6 : (w.alloc (.cells #[] 5)).drew.frozen? ⟨l, i, none⟩ = false := (Ext.frozen (((Ext.refl w).alloc _).drew) hc).trans hfz
  have hd6 : (w.alloc (.cells #[] 5)).drew.cell? ⟨b, 2, none⟩ = some (.slice (some ⟨l, 0, none⟩) (npc len) (npc len)) := Ext.cell (((Ext.refl w).alloc _).drew) c2
  have HB := Lib.hid h
  have HAV := Lib.hid hA
  have hBl := h.hl
  have q1 : decide ((i : Int) < 0) = false := by simp
  have q2 : decide (npc len ≤ i) = false := by simp; omega
  clear h hp hpi hA
  go_enter Tryz.func52, Tryz.ntmps52
  rcases key with ⟨e1, e2⟩ | ⟨e1, e2⟩
  all_goals go_upto_region 9 with fail
  all_goals go_cut [] (fun wx => Below B w wx ∧ Kept l w wx ∧ BodyAt wx B A b l tag len (upd D i (some s)))
  case first =>
    go_region_law (first
      | (refine step_append_any _ (by rfl) _ _ _ (by rfl) w.heap.size 5 i0 _ 1 1 Tryz.underlying36 hi0 hz0 hz1 hz2 rfl (by omega) (.slice (some ⟨w.heap.size, 0, none⟩) 0 0) 0 [] (by rfl) hown w.heap.size (some ⟨g, 0, none⟩) s.size cap ((byteIs s).map (Value.int .u8)) (by rfl) hrd6 hone (by simp only [maxLen]; omega) (by omega) (by simp) ?_
         intro v7 w7 hown7 hg7 hat7
         rw [Nat.zero_add, List.nil_append] at hown7
         obtain ⟨g7, cap7, rfl, hb7, hl7, hm7, hz7⟩ := own_some hown7 (by rcases hat7 with e | e <;> rw [e] <;> simp [Value.ownBlock])
         have bl7 := hg7.block l (by simp; omega) (by simp [Value.ownBlock]; omega)
         have bb7 := hg7.block b (by simp; omega) (by simp [Value.ownBlock]; omega)
         have c7 : w7.cell? ⟨l, i, none⟩ = some (.slice none 0 0) := (World.cell?_of_block bl7).trans hc6
         have f7 : w7.frozen? ⟨l, i, none⟩ = false := (World.frozen?_of_block bl7).trans hf6
         have d7 : w7.cell? ⟨b, 2, none⟩ = some (.slice (some ⟨l, 0, none⟩) (npc len) (npc len)) := (World.cell?_of_block bb7).trans hd6
         have X7 : Ext w w7 := Below.grown (((Ext.refl w).alloc _).drew) hg7 (Ext.size (((Ext.refl w).alloc _).drew)) (own_ge (Nat.le_refl _))
         have Y7 := (HB.out.ext X7).set i (.slice (some ⟨g7, 0, none⟩) s.size cap7) (some s) ⟨g7, cap7, rfl, hl7, ⟨by omega, fun e => by have := HAV.out _ e; omega⟩, by omega, hz7, own_bytes hown7⟩
         have Z7 : Below B w (w7.setCell ⟨l, i, none⟩ (.slice (some ⟨g7, 0, none⟩) s.size cap7)) := (Below.mono X7 (by omega)).setCell hBl _
         have K7 : Kept l w (w7.setCell ⟨l, i, none⟩ (.slice (some ⟨g7, 0, none⟩) s.size cap7)) := (Kept.of_ext l X7).set _ _))
    all_goals go_wp2_with fail
    all_goals go_meet
    all_goals exact ⟨Z7, K7, Y7⟩
  case rest =>
    go_wp2_with fail
    go_ret
    exact ⟨rfl, hcut⟩
  case first =>
    go_region_law (first
      | (refine step_append_any _ (by rfl) _ _ _ (by rfl) w.heap.size 5 i0 _ 1 1 Tryz.underlying36 hi0 hz0 hz1 hz2 rfl (by omega) (.slice (some ⟨w.heap.size, 0, none⟩) 0 0) 0 [] (by rfl) hown w.heap.size (some ⟨g, 0, none⟩) s.size cap ((byteIs s).map (Value.int .u8)) (by rfl) hrd6 hone (by simp only [maxLen]; omega) (by omega) (by simp) ?_
         intro v7 w7 hown7 hg7 hat7
         rw [Nat.zero_add, List.nil_append] at hown7
         obtain ⟨g7, cap7, rfl, hb7, hl7, hm7, hz7⟩ := own_some hown7 (by rcases hat7 with e | e <;> rw [e] <;> simp [Value.ownBlock])
         have bl7 := hg7.block l (by simp; omega) (by simp [Value.ownBlock]; omega)
         have bb7 := hg7.block b (by simp; omega) (by simp [Value.ownBlock]; omega)
         have c7 : w7.cell? ⟨l, i, none⟩ = some (.slice none 0 0) := (World.cell?_of_block bl7).trans hc6
         have f7 : w7.frozen? ⟨l, i, none⟩ = false := (World.frozen?_of_block bl7).trans hf6
         have d7 : w7.cell? ⟨b, 2, none⟩ = some (.slice (some ⟨l, 0, none⟩) (npc len) (npc len)) := (World.cell?_of_block bb7).trans hd6
         have X7 : Ext w w7 := Below.grown (((Ext.refl w).alloc _).drew) hg7 (Ext.size (((Ext.refl w).alloc _).drew)) (own_ge (Nat.le_refl _))
         have Y7 := (HB.out.ext X7).set i (.slice (some ⟨g7, 0, none⟩) s.size cap7) (some s) ⟨g7, cap7, rfl, hl7, ⟨by omega, fun e => by have := HAV.out _ e; omega⟩, by omega, hz7, own_bytes hown7⟩
         have Z7 : Below B w (w7.setCell ⟨l, i, none⟩ (.slice (some ⟨g7, 0, none⟩) s.size cap7)) := (Below.mono X7 (by omega)).setCell hBl _
         have K7 : Kept l w (w7.setCell ⟨l, i, none⟩ (.slice (some ⟨g7, 0, none⟩) s.size cap7)) := (Kept.of_ext l X7).set _ _))
    all_goals go_wp2_with fail
    all_goals go_meet
    all_goals exact ⟨Z7, K7, Y7⟩
  case rest =>
    go_wp2_with fail
    go_ret
    exact ⟨rfl, hcut⟩
end Go.Proofs.YtfgjbbpkkbohhaaGreat
