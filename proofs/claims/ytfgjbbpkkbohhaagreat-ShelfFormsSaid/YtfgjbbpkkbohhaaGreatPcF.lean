/- Chapter 20: the reference's body in memory; ref20.New, ref20.Put. -/
import Derived.Test.YtfgjbbpkkbohhaaGreatPcE
namespace Go.Proofs.YtfgjbbpkkbohhaaGreat
open Go.RowKit Go.Deep Go.Sort

/-- the reference's body: its data at block d, its flags at block t -/
structure RefAt (w : World) (d t len : Nat) (D : Nat → Option ByteArray) : Prop where
  data : w.rowIs d 9 (npc len) (fun i => .string ((D i).getD ⟨#[]⟩))
  there : w.rowIs t 4 (npc len) (fun i => .bool (D i).isSome)
abbrev refV (tag : ByteArray) (len d t : Nat) : Value := .agg #[.string tag, .int .i64 len, .slice (some ⟨d, 0, none⟩) (npc len) (npc len), .slice (some ⟨t, 0, none⟩) (npc len) (npc len)]
theorem RefAt.ext {w w' : World} {d t len : Nat} {D : Nat → Option ByteArray} (h : RefAt w d t len D) (hx : Ext w w') : RefAt w' d t len D :=
  ⟨h.data.of_block (Below.block hx d h.data.lt), h.there.of_block (Below.block hx t h.there.lt)⟩
theorem RowB.laid (w : World) (e : TypeId) (xs : List Value) : RowB (w.alloc (.cells xs.toArray e)) w.heap.size e xs :=
  ⟨_, (0, 0), [], heap_alloc_new w _, fun j _ h => absurd h (by omega), by simp⟩
set_option maxRecDepth 100000 in
theorem rnew_any (tag : ByteArray) (len : Nat) (hl : len ≤ 65536) (w : World) :
    Calls Tryz.prog 76 #[.string tag, .int .i64 len] w fun e w' => ∃ d t, e = .returned (refV tag len d t) ∧ Ext w w' ∧ (w.heap.size ≤ d ∧ w.heap.size ≤ t ∧ d ≠ t) ∧ RefAt w' d t len fun _ => none := by
  have e1 : ((len : Int) + 256 - 1) / 256 = (npc len : Int) := by unfold npc; omega
  have hmk := fun W => run_make_row' (P := Tryz.prog) 31 9 (.string ⟨#[]⟩) 16 Tryz.underlying31 (by kernel_rfl) rfl .i64 .i64 (npc len) (by unfold npc; omega) (by unfold npc; omega) W
  have hmk2 := fun W => run_make_row' (P := Tryz.prog) 127 4 (.bool false) 1 Tryz.underlying127 (by kernel_rfl) rfl .i64 .i64 (npc len) (by unfold npc; omega) (by unfold npc; omega) W
  go_enter Tryz.func76, Tryz.ntmps76
  go_wp2_with fail
  simp only [e1]
  go_cut [] (fun wx => ∃ d t, RowB wx w.heap.size 129 [.string tag, .int .i64 len, .slice (some ⟨d, 0, none⟩) (npc len) (npc len), .slice (some ⟨t, 0, none⟩) (npc len) (npc len)] ∧ Ext w wx ∧ (w.heap.size ≤ d ∧ w.heap.size ≤ t ∧ d ≠ t) ∧ RefAt wx d t len fun _ => none)
  case first =>
    go_region_with fail
    all_goals go_wp2_with fail
    all_goals go_meet
    · refine ⟨w.heap.size + 1, w.heap.size + 1 + 1, ((((RowB.laid w _ _).ext ((Ext.refl _).alloc _)).ext ((Ext.refl _).alloc _)).ext ((Ext.refl _).drew)), ((((Ext.refl w).alloc _).alloc _).alloc _).drew, ⟨by omega, by omega, by omega⟩, ⟨?_, ?_⟩⟩
      · exact ((by simpa using World.rowIs_made (w.alloc _) (.string ⟨#[]⟩) (npc len) 9 : World.rowIs _ (w.heap.size + 1) _ _ _).alloc _).drew
      · exact (by simpa using World.rowIs_made ((w.alloc _).alloc _) (.bool false) (npc len) 4 : World.rowIs _ (w.heap.size + 1 + 1) _ _ _).drew
    · refine ⟨w.heap.size + 1 + 1, w.heap.size + 1, ((((RowB.laid w _ _).ext ((Ext.refl _).alloc _)).ext ((Ext.refl _).alloc _)).ext ((Ext.refl _).drew)), ((((Ext.refl w).alloc _).alloc _).alloc _).drew, ⟨by omega, by omega, by omega⟩, ⟨?_, ?_⟩⟩
      · exact (by simpa using World.rowIs_made ((w.alloc _).alloc _) (.string ⟨#[]⟩) (npc len) 9 : World.rowIs _ (w.heap.size + 1 + 1) _ _ _).drew
      · exact ((by simpa using World.rowIs_made (w.alloc _) (.bool false) (npc len) 4 : World.rowIs _ (w.heap.size + 1) _ _ _).alloc _).drew
  case rest =>
    obtain ⟨d, t, hR, hX, hN, hA⟩ := hcut
    have r0 := hR.cell (j := 0) rfl
    have r1 := hR.cell (j := 1) rfl
    have r2 := hR.cell (j := 2) rfl
    have r3 := hR.cell (j := 3) rfl
    go_wp2_with fail
    refine bodyPost_ret (by simp [results, Tryz.results76, go_sem, r0, r1, r2, r3]; try rfl) rfl ?_
    exact ⟨d, t, rfl, hX, hN, hA⟩
end Go.Proofs.YtfgjbbpkkbohhaaGreat
