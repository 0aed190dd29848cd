/- Chapter 20: a body in memory; New, Has. -/
import Derived.Test.YtfgjbbpkkbohhaaGreatPcA
import Derived.Deep.OwnRows
namespace Go.Proofs.YtfgjbbpkkbohhaaGreat
open Go.RowKit Go.Deep

def byteIs (s : ByteArray) : List Int := s.data.toList.map fun b => (b.toNat : Int)
theorem byteIs_length (s : ByteArray) : (byteIs s).length = s.size := by simp [byteIs]
/-- a block begins with the bytes of a string -/
def BytesAt (w : World) (g : Nat) (s : ByteArray) : Prop := ∀ i, i < s.size → w.cell? ⟨g, i, none⟩ = some (.int .u8 ((byteIs s).getD i 0))
/-- a piece's cell: nil, or a slice whose block holds the bytes -/
def PcV (w : World) (B : Nat) (A : Nat → Prop) (l : Nat) (v : Value) : Option ByteArray → Prop
  | none => v = .slice none 0 0
  | some s => ∃ g cap, v = .slice (some ⟨g, 0, none⟩) s.size cap ∧ s.size ≤ cap ∧ (B ≤ g ∧ ¬ A g) ∧ g ≠ l ∧ g < w.heap.size ∧ BytesAt w g s
/-- w' is w but for block l and new blocks -/
def Kept (l : Nat) (w w' : World) : Prop := w.heap.size ≤ w'.heap.size ∧ ∀ k, k < w.heap.size → k ≠ l → w'.heap[k]? = w.heap[k]?
theorem Kept.refl (l : Nat) (w : World) : Kept l w w := ⟨Nat.le_refl _, fun _ _ _ => rfl⟩
theorem Kept.trans {l : Nat} {a b c : World} (h : Kept l a b) (k : Kept l b c) : Kept l a c := ⟨Nat.le_trans h.1 k.1, fun i hi hn => (k.2 i (Nat.lt_of_lt_of_le hi h.1) hn).trans (h.2 i hi hn)⟩
theorem Kept.of_ext {w w' : World} (l : Nat) (h : Ext w w') : Kept l w w' := ⟨h.size, fun k hk _ => Below.block h k hk⟩
theorem Kept.set {w w' : World} {l : Nat} (h : Kept l w w') (i : Nat) (v : Value) : Kept l w (w'.setCell ⟨l, i, none⟩ v) := ⟨by simpa using h.1, fun k hk hn => (blk_setCell_other _ _ _ _ hn).trans (h.2 k hk hn)⟩
/-- a body lies at block b, its list at block l; all that is its lies at B or above, and none of it where A holds -/
structure BodyAt (w : World) (B : Nat) (A : Nat → Prop) (b l : Nat) (tag : ByteArray) (len : Nat) (D : Nat → Option ByteArray) : Prop where
  hb : B ≤ b
  hl : B ≤ l
  ne : b ≠ l
  av : ¬ A b ∧ ¬ A l
  c0 : w.cell? ⟨b, 0, none⟩ = some (.string tag)
  c1 : w.cell? ⟨b, 1, none⟩ = some (.int .i64 len)
  c2 : w.cell? ⟨b, 2, none⟩ = some (.slice (some ⟨l, 0, none⟩) (npc len) (npc len))
  row : ∃ f, w.rowIs l 36 (npc len) f ∧ ∀ i, i < npc len → PcV w B A l (f i) (D i)
theorem PcV.ext {w w' : World} {B l : Nat} {A : Nat → Prop} {v : Value} {o : Option ByteArray} (h : PcV w B A l v o) (hx : Ext w w') : PcV w' B A l v o := by
  cases o with
  | none => exact h
  | some s =>
    obtain ⟨g, cap, h1, h2, h3, h4, h5, h6⟩ := h
    exact ⟨g, cap, h1, h2, h3, h4, Nat.lt_of_lt_of_le h5 hx.size, fun i hi => hx.cell (h6 i hi)⟩
theorem BodyAt.ext {w w' : World} {B b l len : Nat} {A : Nat → Prop} {tag : ByteArray} {D : Nat → Option ByteArray} (h : BodyAt w B A b l tag len D) (hx : Ext w w') : BodyAt w' B A b l tag len D := by
  obtain ⟨f, hf, hp⟩ := h.row
  exact ⟨h.hb, h.hl, h.ne, h.av, hx.cell h.c0, hx.cell h.c1, hx.cell h.c2, f, hf.of_block (Below.block hx l hf.lt), fun i hi => (hp i hi).ext hx⟩

set_option maxRecDepth 100000 in
theorem new_ok (tag : ByteArray) (len : Nat) (hl : len ≤ 65536) (w : World) (A : Nat → Prop) (hA : ∀ k, A k → k < w.heap.size) :
    Calls Tryz.prog 48 #[.string tag, .int .i64 len] w fun e w' => ∃ b l, e = .returned (.tuple #[.pointer (some ⟨b, 0, none⟩), .nilIface]) ∧ Ext w w' ∧ BodyAt w' w.heap.size A b l tag len fun _ => none := by
  have a1 : ¬ ((len : Int) < 0) := by omega
  have a2 : ¬ ((65536 : Int) < len) := by omega
  have e1 : ((len : Int) + 256 - 1) / 256 = (npc len : Int) := by unfold npc; omega
  have hmk := fun W => run_make_row' (P := Tryz.prog) 157 36 (.slice none 0 0) 24 Tryz.underlying157 (by kernel_rfl) rfl .i64 .i64 (npc len) (by unfold npc; omega) (by unfold npc; omega) W
  go_enter Tryz.func48, Tryz.ntmps48
  go_wp2_with fail
  go_ret2
  refine ⟨w.heap.size + 1, rfl, ((Ext.refl w).alloc _).alloc _, w.heap.size, ?_⟩
  have hr := (World.rowIs_made w (.slice none 0 0) (npc len) 36).alloc (.cells #[.string tag, .int .i64 len, .slice (some ⟨w.heap.size, 0, none⟩) (npc len) (npc len)] 179)
  exact ⟨by omega, Nat.le_refl _, by omega, ⟨fun h => by have := hA _ h; omega, fun h => by have := hA _ h; omega⟩, by simp, by simp, by simp, _, hr, fun _ _ => rfl⟩

theorem has_in {w : World} {B b l len : Nat} {A : Nat → Prop} {tag : ByteArray} {D : Nat → Option ByteArray} (h : BodyAt w B A b l tag len D) (hl : len ≤ 65536) (i : Nat) (hi : i < npc len) :
    Calls Tryz.prog 107 #[.pointer (some ⟨b, 0, none⟩), .int .i64 i] w fun e w' => e = .returned (.bool (D i).isSome) ∧ w = w' := by
  have hn : npc len ≤ 256 := by unfold npc; omega
  have c2 := h.c2
  obtain ⟨f, hf, hp⟩ := h.row
  have hc := hf.cell hi
  have hpi := hp i hi
  cases hD : D i with
  | none =>
    rw [hD] at hpi
    rw [show f i = .slice none 0 0 from hpi] at hc
    clear hD hpi hp
    go_enter Tryz.func107, Tryz.ntmps107
    go_wp2_with fail
    go_ret
    exact ⟨rfl, rfl⟩
  | some s =>
    rw [hD] at hpi
    obtain ⟨g, cap, h1, _⟩ := hpi
    rw [h1] at hc
    clear hD hp h1
    go_enter Tryz.func107, Tryz.ntmps107
    go_wp2_with fail
    go_ret
    exact ⟨rfl, rfl⟩
theorem has_out {w : World} {B b l len : Nat} {A : Nat → Prop} {tag : ByteArray} {D : Nat → Option ByteArray} (h : BodyAt w B A b l tag len D) (i : Int) (hi : i < 0 ∨ (npc len : Int) ≤ i) :
    Calls Tryz.prog 107 #[.pointer (some ⟨b, 0, none⟩), .int .i64 i] w fun e w' => e = .returned (.bool false) ∧ w = w' := by
  have c2 := h.c2
  rcases Int.lt_or_le i 0 with h0 | h0
  · go_enter Tryz.func107, Tryz.ntmps107
    go_wp2_with fail
    go_ret
    exact ⟨rfl, rfl⟩
  · have h1 : (npc len : Int) ≤ i := by omega
    go_enter Tryz.func107, Tryz.ntmps107
    go_wp2_with fail
    go_ret
    exact ⟨rfl, rfl⟩

def upd (D : Nat → Option ByteArray) (i : Nat) (o : Option ByteArray) : Nat → Option ByteArray := fun j => if j = i then o else D j
theorem PcV.set {w : World} {B l : Nat} {A : Nat → Prop} {v : Value} {o : Option ByteArray} (h : PcV w B A l v o) (i : Nat) (u : Value) : PcV (w.setCell ⟨l, i, none⟩ u) B A l v o := by
  cases o with
  | none => exact h
  | some s =>
    obtain ⟨g, cap, h1, h2, h3, h4, h5, h6⟩ := h
    refine ⟨g, cap, h1, h2, h3, h4, by simpa using h5, fun i hi => ?_⟩
    rw [← h6 i hi]
    exact World.cell?_of_block (blk_setCell_other _ _ _ _ h4)
theorem BodyAt.set {w : World} {B b l len : Nat} {A : Nat → Prop} {tag : ByteArray} {D : Nat → Option ByteArray} (h : BodyAt w B A b l tag len D) (i : Nat) (v : Value) (o : Option ByteArray) (hv : PcV w B A l v o) :
    BodyAt (w.setCell ⟨l, i, none⟩ v) B A b l tag len (upd D i o) := by
  obtain ⟨f, hf, hp⟩ := h.row
  have hk : ∀ j, (w.setCell ⟨l, i, none⟩ v).cell? ⟨b, j, none⟩ = w.cell? ⟨b, j, none⟩ := fun j => World.cell?_of_block (blk_setCell_other _ _ _ _ h.ne)
  refine ⟨h.hb, h.hl, h.ne, h.av, (hk 0).trans h.c0, (hk 1).trans h.c1, (hk 2).trans h.c2, _, hf.set i v, fun j hj => ?_⟩
  unfold upd
  by_cases e : j = i
  · rw [if_pos e, if_pos e]
    exact hv.set i v
  · rw [if_neg e, if_neg e]
    exact (hp j hj).set i v
theorem BodyAt.congr {w : World} {B b l len : Nat} {A : Nat → Prop} {tag : ByteArray} {D E : Nat → Option ByteArray} (h : BodyAt w B A b l tag len D) (he : ∀ j, j < npc len → D j = E j) : BodyAt w B A b l tag len E := by
  obtain ⟨f, hf, hp⟩ := h.row
  exact ⟨h.hb, h.hl, h.ne, h.av, h.c0, h.c1, h.c2, f, hf, fun j hj => he j hj ▸ hp j hj⟩
/-- the body where another block has been written -/
theorem BodyAt.kept {w w' : World} {B b l len m : Nat} {A : Nat → Prop} {tag : ByteArray} {D : Nat → Option ByteArray} (h : BodyAt w B A b l tag len D) (hk : Kept m w w') (hm : A m) : BodyAt w' B A b l tag len D := by
  obtain ⟨f, hf, hp⟩ := h.row
  have hb := World.block_lt_of_cell? w _ h.c0
  have e1 : b ≠ m := fun e => h.av.1 (e ▸ hm)
  have e2 : l ≠ m := fun e => h.av.2 (e ▸ hm)
  have hkb := hk.2 b hb e1
  refine ⟨h.hb, h.hl, h.ne, h.av, (World.cell?_of_block hkb).trans h.c0, (World.cell?_of_block hkb).trans h.c1, (World.cell?_of_block hkb).trans h.c2, f, hf.of_block (hk.2 l hf.lt e2), fun i hi => ?_⟩
  have := hp i hi
  cases hD : D i with
  | none => rw [hD] at this; exact this
  | some s =>
    rw [hD] at this
    obtain ⟨g, cap, h1, h2, h3, h4, h5, h6⟩ := this
    have e3 : g ≠ m := fun e => h3.2 (e ▸ hm)
    exact ⟨g, cap, h1, h2, h3, h4, Nat.lt_of_lt_of_le h5 hk.1, fun j hj => (World.cell?_of_block (hk.2 g h5 e3)).trans (h6 j hj)⟩
/-- what is avoided from now on may be any blocks that are new -/
theorem BodyAt.avoid {w : World} {B b l len : Nat} {A : Nat → Prop} {tag : ByteArray} {D : Nat → Option ByteArray} (h : BodyAt w B A b l tag len D) (A' : Nat → Prop) (ha : ∀ k, A' k → w.heap.size ≤ k ∨ k < B ∨ A k) : BodyAt w B A' b l tag len D := by
  obtain ⟨f, hf, hp⟩ := h.row
  have hb := World.block_lt_of_cell? w _ h.c0
  have hl := hf.lt
  refine ⟨h.hb, h.hl, h.ne, ⟨fun e => ?_, fun e => ?_⟩, h.c0, h.c1, h.c2, f, hf, fun i hi => ?_⟩
  · rcases ha _ e with h1 | h1 | h1
    · simp at hb; omega
    · have := h.hb; omega
    · exact h.av.1 h1
  · rcases ha _ e with h1 | h1 | h1
    · omega
    · have := h.hl; omega
    · exact h.av.2 h1
  · have := hp i hi
    cases hD : D i with
    | none => rw [hD] at this; exact this
    | some s =>
      rw [hD] at this
      obtain ⟨g, cap, h1, h2, h3, h4, h5, h6⟩ := this
      refine ⟨g, cap, h1, h2, ⟨h3.1, fun e => ?_⟩, h4, h5, h6⟩
      rcases ha _ e with h7 | h7 | h7
      · omega
      · have := h3.1; omega
      · exact h3.2 h7
end Go.Proofs.YtfgjbbpkkbohhaaGreat
