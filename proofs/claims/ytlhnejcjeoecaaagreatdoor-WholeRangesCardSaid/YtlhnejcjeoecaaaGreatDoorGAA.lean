/- Small words that all my walks share: 'Ext w w'': w' is w with new blocks (nothing that was there has changed), and the class of such worlds as a type. Walks of package quaysidebase: Num, Is, Clip, Time. A row of cells at the head of a block: what is known of it, kept from world to world; '[]byte(s)' and 'string(b)' as laws of the walk. Chapter 20: the small functions: ref09.Piece, piece of a text, Text. Chapter 20: a body in memory; New, Has. Slices that read as a list of cells, nil let in; append onto a row of the call's own, whatever the source (lemmas of the guide's page extra-words, sections 1 and 3, laid for this seat). Chapter 20: bytes.Equal; Put. The program puts a stretch of bytes, wherever it lies, where no piece is. -/
import Derived.WalkKit
import Derived.WalkSpells
import Derived.WalkLawsBesides
import Derived.Lib.Hide
import Derived.Deep.QuietTactic
import Derived.BigQuiet
import Derived.Test.YtlhnejcjeoecaaaGreatDoorProg
import Derived.Handy
import Derived.Deep.OwnRows
import Derived.Laws.OwnMore
import Derived.Deep.AppendLies
import Derived.Deep.Draws
import Derived.Maps.AppendAt
import Derived.RegionTactic
import Derived.OwnWalk
import Derived.Deep.RegionHeld3
import Derived.Deep.RegionLaw
import Derived.Deep.DrawnRows
import Derived.Deep.DeepCutAuto
namespace Go.Proofs.YtlhnejcjeoecaaaGreatDoor
open Go.RowKit

def Ext (w w' : World) : Prop := Below w.heap.size w w'
theorem Ext.below {w w' : World} (h : Ext w w') : Below w.heap.size w w' := h
theorem Ext.refl (w : World) : Ext w w := Below.refl _ _
theorem Ext.size {w w' : World} (h : Ext w w') : w.heap.size ≤ w'.heap.size := Below.size h
theorem Ext.trans {a b c : World} (h : Ext a b) (k : Ext b c) : Ext a c := Below.trans h (Below.mono k (Below.size h))
theorem Ext.drew {a w : World} (h : Ext a w) : Ext a w.drew := Below.drew h
theorem Ext.drewN {a w : World} (h : Ext a w) (n : Nat) : Ext a (w.drewN n) := h.trans ⟨rfl, rfl, rfl, Nat.le_refl _, fun _ _ => rfl⟩
theorem Ext.alloc {a w : World} (h : Ext a w) (o : Obj) : Ext a (w.alloc o) := Below.alloc h (Below.size h) o
theorem Ext.setCell {a w : World} (h : Ext a w) {p : Addr} (hp : a.heap.size ≤ p.block) (v : Value) : Ext a (w.setCell p v) := Below.setCell h hp v
theorem Ext.cell {w w' : World} (h : Ext w w') {p : Addr} {v : Value} (hp : w.cell? p = some v) : w'.cell? p = some v :=
  (Below.cell h (World.block_lt_of_cell? w p hp)).trans hp
theorem Ext.frozen {w w' : World} (h : Ext w w') {p : Addr} {v : Value} (hp : w.cell? p = some v) : w'.frozen? p = w.frozen? p :=
  Below.frozen h (World.block_lt_of_cell? w p hp)

/-- the worlds that extend w -/
structure Wd (w : World) where
  val : World
  ext : Ext w val
instance (w : World) : Inhabited (Wd w) := ⟨⟨w, Ext.refl w⟩⟩

/-- A region that draws its order, whose operations only read, whose callees make memory but hand back values that do not hang on the world. -/
theorem wp_region_wd {P : Program} {id : Nat} {Q : Exit → Act → World → Prop} {a : Act} {w : World} {l : List Oper} (hm : P.follows .mixedOrders = true) (hB : Region.lexB .any l.toArray = true)
    (h : wpQuiet P l.toArray (fun w' => ∃ n : Wd w, w' = n.val) (fun a' => ∀ w', (∃ n : Wd w, w' = n.val) → Q .normal a' w') l a) : (Code.region id l.toArray true).wp P Q a w :=
  wp_region_quiet (C := fun w' => ∃ n : Wd w, w' = n.val) hm hB ⟨⟨w.drew, (Ext.refl w).drew⟩, rfl⟩ (by simpa using h)
/-- a callee's contract, met in such a world -/
theorem Calls.wd_of {P : Program} {f : FuncId} {args : Array Value} {w : World} {n : Wd w} {v : Value}
    (h : Calls P f args n.val fun e w' => e = .returned v ∧ Ext n.val w') : Calls P f args n.val fun e w'' => e = .returned v ∧ ∃ m : Wd w, w'' = m.val :=
  h.mono fun _ _ ⟨he, hm⟩ => ⟨he, ⟨_, n.ext.trans hm⟩, rfl⟩
theorem Calls.wd_of_same {P : Program} {f : FuncId} {args : Array Value} {w : World} {n : Wd w} {v : Value}
    (h : Calls P f args n.val fun e w' => e = .returned v ∧ n.val = w') : Calls P f args n.val fun e w'' => e = .returned v ∧ ∃ m : Wd w, w'' = m.val :=
  h.mono fun _ _ ⟨he, hm⟩ => ⟨he, n, hm.symm⟩

/-- 'string([]byte{a, b, ..})': the slice is a block that has just been laid. -/
theorem run_lit_bytes {P : Program} (src e dst : TypeId) (hs : P.underlying src = some (.slice e)) (he : P.underlying e = some (.int .u8)) (hd : P.underlying dst = some .string) (xs : List Int) (w : World) :
    (convert src dst (.slice (some ⟨w.heap.size, 0, none⟩) xs.length xs.length)).run P (w.alloc (.cells (xs.map (Value.int .u8)).toArray e)) = .ok (.string (strOfNums xs)) (w.alloc (.cells (xs.map (Value.int .u8)).toArray e)) := by
  refine run_convert_bytes_arg _ src e hs he w.heap.size 0 xs.length xs.length xs rfl (fun i hi => ?_) dst hd
  rw [Nat.zero_add, World.cell?_alloc_mark]
  simp [List.getD, hi]

/-- a whole array read out of a variable whose cells are known -/
theorem run_loadVar_cells {P : Program} (w : World) (g : Nat) (ty : TypeId) (cs : Array Value) (d : TypeDesc) (hc : ∀ j v, cs.toList[j]? = some v → w.cell? ⟨g, j, none⟩ = some v)
    (hu : P.underlying ty = some d) (hd : (match d with | .struct _ | .array _ _ => true | _ => false) = true) (hi : (P.info? ty).map (·.size) = some cs.size) :
    (loadVar ty ⟨g, 0, none⟩).run P w = .ok (.agg cs) w := by
  have hl : (loadCells ⟨g, 0, none⟩ cs.toList.length).run P w = .ok cs.toList.toArray w :=
    run_loadCells_list (P := P) w ⟨g, 0, none⟩ cs.toList (fun j v hv => by
      have hadd : (⟨g, 0, none⟩ : Addr).add j = ⟨g, j, none⟩ := by unfold Addr.add; split <;> simp_all
      rw [hadd]; exact hc j v hv)
  cases hq : P.info? ty with
  | none => simp [hq] at hi
  | some i =>
    have hs : i.size = cs.size := by simpa [hq] using hi
    have hagg : (isAgg ty).run P w = .ok true w := by
      unfold isAgg
      rw [Sem.run_bind, run_underlying hu w]
      cases d <;> simp_all
    simp only [Array.length_toList, Array.toArray_toList] at hl
    simp [loadVar, Sem.run_bind, hagg, sizeOf, typeInfo, hq, hs, hl]
theorem wpList_load_cells {P : Program} {ops : Array Oper} {rest : List Oper} {o : Oper} {a : Act} {w : World} {Q : Exit → Act → World → Prop} (hgd : o.guard = none) (ty : TypeId) (x : Operand) (ho : o.op = .load ty x)
    (g : Nat) (hx : a.eval x = .pointer (some ⟨g, 0, none⟩)) (cs : Array Value) (d : TypeDesc) (hc : ∀ j v, cs.toList[j]? = some v → w.cell? ⟨g, j, none⟩ = some v)
    (hu : P.underlying ty = some d) (hd : (match d with | .struct _ | .array _ _ => true | _ => false) = true) (hi : (P.info? ty).map (·.size) = some cs.size)
    (h : wpList P ops Q rest (a.put o.dst (.agg cs)) w) : wpList P ops Q (o :: rest) a w :=
  wpList_plain hgd fun K hK => by
    unfold Oper.wp execOp
    simp only [ho, hx, Instr.loadAt, Instr.sureAddr, Sem.run_bind, Sem.run_pure, Result.andThen_ok, run_loadVar_cells w g ty cs d hc hu hd hi]
    exact hK _ _ h

theorem ba_eq {a b : ByteArray} (h : (a.toList == b.toList) = true) : a = b := by
  have h' := eq_of_beq h
  rw [ByteArray.toList_eq, ByteArray.toList_eq] at h'
  exact ByteArray.ext (Array.toList_inj.1 h')
theorem ba_ne {a b : ByteArray} (h : (a.toList == b.toList) = false) : a ≠ b := by
  intro e; subst e; simp at h

theorem ret_int {k : IntKind} {a b : Int} (h : a = b) : Ending.returned (.int k a) = .returned (.int k b) := by rw [h]
theorem ret_bool {a b : Bool} (h : a = b) : Ending.returned (.bool a) = .returned (.bool b) := by rw [h]
theorem ret_str {a b : ByteArray} (h : a = b) : Ending.returned (.string a) = .returned (.string b) := by rw [h]
theorem ret_str2 {a b : ByteArray} {v : Value} (h : a = b) : Ending.returned (.tuple #[.string a, v]) = .returned (.tuple #[.string b, v]) := by rw [h]
theorem ret_int2 {k : IntKind} {a b : Int} {v : Value} (h : a = b) : Ending.returned (.tuple #[.int k a, v]) = .returned (.tuple #[.int k b, v]) := by rw [h]
end Go.Proofs.YtlhnejcjeoecaaaGreatDoor
namespace Go.Proofs.YtlhnejcjeoecaaaGreatDoor
open Go.RowKit
abbrev errV (n : Int) : Value := .iface 57 (.int .i64 n)


theorem clip_any (n a b : Int) (w : World) : Calls Tryz.prog 5 #[.int .i64 n, .int .i64 a, .int .i64 b] w fun e w' => e = .returned (.int .i64 (max a (min n b))) ∧ w = w' := by
  go_enter Tryz.func5, Tryz.ntmps5
  go_wp2
  all_goals go_ret
  all_goals exact ⟨ret_int (by omega), rfl⟩
end Go.Proofs.YtlhnejcjeoecaaaGreatDoor
namespace Go.Proofs.YtlhnejcjeoecaaaGreatDoor
open Go.RowKit

/-- block g is a row that begins with the cells xs; none of its cells is frozen -/
def RowB (w : World) (g : Nat) (e : TypeId) (xs : List Value) : Prop :=
  ∃ C fr rest, w.heap[g]? = some (.cells C e fr) ∧ (∀ j, fr.1 ≤ j → j < fr.2 → C.size ≤ j) ∧ C.toList = xs ++ rest

theorem RowB.lt {w : World} {g : Nat} {e : TypeId} {xs : List Value} (h : RowB w g e xs) : g < w.heap.size := by
  obtain ⟨C, fr, rest, hg, _, _⟩ := h
  exact (Array.getElem?_eq_some_iff.1 hg).1
theorem RowB.cell {w : World} {g : Nat} {e : TypeId} {xs : List Value} (h : RowB w g e xs) {j : Nat} {v : Value} (hj : xs[j]? = some v) : w.cell? ⟨g, j, none⟩ = some v := by
  obtain ⟨C, fr, rest, hg, _, hc⟩ := h
  rw [cell_of_row w g j C e fr hg]
  have hlt := (List.getElem?_eq_some_iff.1 hj).1
  have : C.toList[j]? = some v := by rw [hc, List.getElem?_append_left hlt]; exact hj
  simpa using this
theorem RowB.frozen {w : World} {g : Nat} {e : TypeId} {xs : List Value} (h : RowB w g e xs) {j : Nat} (hj : j < xs.length) : w.frozen? ⟨g, j, none⟩ = false := by
  obtain ⟨C, fr, rest, hg, hf, hc⟩ := h
  have hsz : xs.length ≤ C.size := by
    have := congrArg List.length hc
    simp at this
    omega
  unfold World.frozen?
  rw [show (⟨g, j, none⟩ : Addr).block = g from rfl, hg]
  simp only [Bool.and_eq_false_imp, decide_eq_true_eq, decide_eq_false_iff_not]
  intro h1 h2
  have := hf j h1 h2
  omega
theorem RowB.kept {w w' : World} {g : Nat} {e : TypeId} {xs : List Value} (h : RowB w g e xs) (hb : w'.heap[g]? = w.heap[g]?) : RowB w' g e xs := by
  obtain ⟨C, fr, rest, hg, hf, hc⟩ := h
  exact ⟨C, fr, rest, hb.trans hg, hf, hc⟩
theorem RowB.below {B : Nat} {w w' : World} {g : Nat} {e : TypeId} {xs : List Value} (h : RowB w g e xs) (hb : Below B w w') (hg : g < B) : RowB w' g e xs := h.kept (hb.block g hg)
theorem RowB.ext {w w' : World} {g : Nat} {e : TypeId} {xs : List Value} (h : RowB w g e xs) (hb : Ext w w') : RowB w' g e xs := h.below hb h.lt
theorem RowB.set {w : World} {g : Nat} {e : TypeId} {xs : List Value} (h : RowB w g e xs) (j : Nat) (v : Value) (hj : j < xs.length) : RowB (w.setCell ⟨g, j, none⟩ v) g e (xs.set j v) := by
  obtain ⟨C, fr, rest, hg, hf, hc⟩ := h
  have hlt := (Array.getElem?_eq_some_iff.1 hg).1
  refine ⟨C.setIfInBounds j v, fr, rest, ?_, ?_, ?_⟩
  · simp [World.setCell, Array.getElem?_modify, hg]
  · intro k h1 h2; simpa using hf k h1 h2
  · rw [Array.toList_setIfInBounds, hc, List.set_append_left _ _ hj]

/-- '[]byte(s)': a new row that begins with the string's bytes -/
theorem wpList_bytes_of_string {P : Program} (w : World) {ops : Array Oper} {rest : List Oper} {o : Oper} {a : Act} {Q : Exit → Act → World → Prop}
    (hgd : o.guard = none) (src dst e : TypeId) (x : Operand) (ho : o.op = Op.convert src dst x) (hs : P.underlying src = some .string) (hd : P.underlying dst = some (.slice e)) (he : P.underlying e = some (.int .u8))
    (s : ByteArray) (hx : a.eval x = .string s)
    (hK : ∀ w' cap, Ext w w' → RowB w' w.heap.size e (s.data.toList.map fun b => Value.int .u8 b.toNat) → s.size ≤ cap → wpList P ops Q rest (a.put o.dst (.slice (some ⟨w.heap.size, 0, none⟩) s.size cap)) w') :
    wpList P ops Q (o :: rest) a w := by
  refine wpList_plain hgd fun K hK' => ?_
  have hrun := run_bytes_of_string (P := P) w src dst e s hs hd he
  unfold Oper.wp
  simp only [execOp, ho, hx, Sem.run_bind, hrun, Result.andThen]
  refine hK' _ _ (hK _ _ ((Ext.refl w).drew.trans (Ext.alloc (Ext.refl _) _)) ?_ ?_)
  · refine ⟨bytesRow s (grownCap w s.size 0 e), ((bytesRow s (grownCap w s.size 0 e)).size, (bytesRow s (grownCap w s.size 0 e)).size + 1), List.replicate (grownCap w s.size 0 e - s.size) (.int .u8 0), ?_, ?_, ?_⟩
    · show (w.heap.push _)[w.heap.size]? = _
      simp
    · intro j h1 _; exact h1
    · unfold bytesRow
      simp
  · exact grownCap_ge w s.size 0 e

/-- 'string(b)' of such a row -/
theorem RowB.toString {P : Program} {w : World} {g : Nat} {e : TypeId} {xs : List Int} (h : RowB w g e (xs.map (Value.int .u8))) {src dst : TypeId} (hs : P.underlying src = some (.slice e)) (he : P.underlying e = some (.int .u8)) (hd : P.underlying dst = some .string) (cap : Nat) :
    (convert src dst (.slice (some ⟨g, 0, none⟩) xs.length cap)).run P w = .ok (.string (strOfNums xs)) w := by
  refine run_convert_bytes_arg w src e hs he g 0 xs.length cap xs rfl (fun i hi => ?_) dst hd
  rw [Nat.zero_add]
  exact h.cell (by simp [List.getD, hi])
end Go.Proofs.YtlhnejcjeoecaaaGreatDoor
namespace Go.Proofs.YtlhnejcjeoecaaaGreatDoor.P20
open Go.RowKit

/-- the number of pieces of a body of len bytes; where a piece ends -/
def npc (len : Nat) : Nat := (len + 255) / 256
def pto (i len : Nat) : Nat := min ((i + 1) * 256) len
abbrev rngV (a b : Int) : Value := .agg #[.int .i64 a, .int .i64 b]
theorem ret_rng {a b c d : Int} {v : Value} (h : a = c) (k : b = d) : Ending.returned (.tuple #[rngV a b, v]) = .returned (.tuple #[rngV c d, v]) := by rw [h, k]
/-- the bytes of piece i of a text -/
def pcS (t : ByteArray) (i : Nat) : ByteArray := t.extract (i * 256) (pto i t.size)
theorem pcS_size (t : ByteArray) (i : Nat) (hi : i * 256 < t.size) : (pcS t i).size = pto i t.size - i * 256 := by
  unfold pcS pto
  rw [ByteArray.size_extract]
  omega
end Go.Proofs.YtlhnejcjeoecaaaGreatDoor.P20
namespace Go.Proofs.YtlhnejcjeoecaaaGreatDoor.P20
open Go.RowKit Go.Deep

def byteIs (s : ByteArray) : List Int := s.data.toList.map fun b => (b.toNat : Int)
theorem byteIs_length (s : ByteArray) : (byteIs s).length = s.size := by simp [byteIs]
/-- a block begins with the bytes of a string -/
def BytesAt (w : World) (g : Nat) (s : ByteArray) : Prop := ∀ i, i < s.size → w.cell? ⟨g, i, none⟩ = some (.int .u8 ((byteIs s).getD i 0))
/-- a piece's cell: nil, or a slice whose block holds the bytes -/
def PcV (w : World) (B : Nat) (A : Nat → Prop) (l : Nat) (v : Value) : Option ByteArray → Prop
  | none => v = .slice none 0 0
  | some s => ∃ g cap, v = .slice (some ⟨g, 0, none⟩) s.size cap ∧ s.size ≤ cap ∧ (B ≤ g ∧ ¬ A g) ∧ g ≠ l ∧ g < w.heap.size ∧ BytesAt w g s
/-- w' is w but for block l and new blocks -/
def Kept (l : Nat) (w w' : World) : Prop := w.heap.size ≤ w'.heap.size ∧ ∀ k, k < w.heap.size → k ≠ l → w'.heap[k]? = w.heap[k]?
theorem Kept.refl (l : Nat) (w : World) : Kept l w w := ⟨Nat.le_refl _, fun _ _ _ => rfl⟩
theorem Kept.trans {l : Nat} {a b c : World} (h : Kept l a b) (k : Kept l b c) : Kept l a c := ⟨Nat.le_trans h.1 k.1, fun i hi hn => (k.2 i (Nat.lt_of_lt_of_le hi h.1) hn).trans (h.2 i hi hn)⟩
theorem Kept.of_ext {w w' : World} (l : Nat) (h : Ext w w') : Kept l w w' := ⟨h.size, fun k hk _ => Below.block h k hk⟩
theorem Kept.set {w w' : World} {l : Nat} (h : Kept l w w') (i : Nat) (v : Value) : Kept l w (w'.setCell ⟨l, i, none⟩ v) := ⟨by simpa using h.1, fun k hk hn => (blk_setCell_other _ _ _ _ hn).trans (h.2 k hk hn)⟩
/-- a body lies at block b, its list at block l; all that is its lies at B or above, and none of it where A holds -/
structure BodyAt (w : World) (B : Nat) (A : Nat → Prop) (b l : Nat) (tag : ByteArray) (len : Nat) (D : Nat → Option ByteArray) : Prop where
  hb : B ≤ b
  hl : B ≤ l
  ne : b ≠ l
  av : ¬ A b ∧ ¬ A l
  c0 : w.cell? ⟨b, 0, none⟩ = some (.string tag)
  c1 : w.cell? ⟨b, 1, none⟩ = some (.int .i64 len)
  c2 : w.cell? ⟨b, 2, none⟩ = some (.slice (some ⟨l, 0, none⟩) (npc len) (npc len))
  row : ∃ f, w.rowIs l 22 (npc len) f ∧ ∀ i, i < npc len → PcV w B A l (f i) (D i)
theorem PcV.ext {w w' : World} {B l : Nat} {A : Nat → Prop} {v : Value} {o : Option ByteArray} (h : PcV w B A l v o) (hx : Ext w w') : PcV w' B A l v o := by
  cases o with
  | none => exact h
  | some s =>
    obtain ⟨g, cap, h1, h2, h3, h4, h5, h6⟩ := h
    exact ⟨g, cap, h1, h2, h3, h4, Nat.lt_of_lt_of_le h5 hx.size, fun i hi => hx.cell (h6 i hi)⟩
theorem BodyAt.ext {w w' : World} {B b l len : Nat} {A : Nat → Prop} {tag : ByteArray} {D : Nat → Option ByteArray} (h : BodyAt w B A b l tag len D) (hx : Ext w w') : BodyAt w' B A b l tag len D := by
  obtain ⟨f, hf, hp⟩ := h.row
  exact ⟨h.hb, h.hl, h.ne, h.av, hx.cell h.c0, hx.cell h.c1, hx.cell h.c2, f, hf.of_block (Below.block hx l hf.lt), fun i hi => (hp i hi).ext hx⟩

set_option maxRecDepth 100000 in
theorem new_ok (tag : ByteArray) (len : Nat) (hl : len ≤ 65536) (w : World) (A : Nat → Prop) (hA : ∀ k, A k → k < w.heap.size) :
    Calls Tryz.prog 7 #[.string tag, .int .i64 len] w fun e w' => ∃ b l, e = .returned (.tuple #[.pointer (some ⟨b, 0, none⟩), .nilIface]) ∧ Ext w w' ∧ BodyAt w' w.heap.size A b l tag len fun _ => none := by
  have a1 : ¬ ((len : Int) < 0) := by omega
  have a2 : ¬ ((65536 : Int) < len) := by omega
  have e1 : ((len : Int) + 256 - 1) / 256 = (npc len : Int) := by unfold npc; omega
  have hmk := fun W => run_make_row' (P := Tryz.prog) 62 22 (.slice none 0 0) 24 Tryz.underlying62 (by kernel_rfl) rfl .i64 .i64 (npc len) (by unfold npc; omega) (by unfold npc; omega) W
  go_enter Tryz.func7, Tryz.ntmps7
  go_wp2_with fail
  go_ret2
  refine ⟨w.heap.size + 1, rfl, ((Ext.refl w).alloc _).alloc _, w.heap.size, ?_⟩
  have hr := (World.rowIs_made w (.slice none 0 0) (npc len) 22).alloc (.cells #[.string tag, .int .i64 len, .slice (some ⟨w.heap.size, 0, none⟩) (npc len) (npc len)] 64)
  exact ⟨by omega, Nat.le_refl _, by omega, ⟨fun h => by have := hA _ h; omega, fun h => by have := hA _ h; omega⟩, by simp, by simp, by simp, _, hr, fun _ _ => rfl⟩

theorem has_in {w : World} {B b l len : Nat} {A : Nat → Prop} {tag : ByteArray} {D : Nat → Option ByteArray} (h : BodyAt w B A b l tag len D) (hl : len ≤ 65536) (i : Nat) (hi : i < npc len) :
    Calls Tryz.prog 27 #[.pointer (some ⟨b, 0, none⟩), .int .i64 i] w fun e w' => e = .returned (.bool (D i).isSome) ∧ w = w' := by
  have hn : npc len ≤ 256 := by unfold npc; omega
  have c2 := h.c2
  obtain ⟨f, hf, hp⟩ := h.row
  have hc := hf.cell hi
  have hpi := hp i hi
  cases hD : D i with
  | none =>
    rw [hD] at hpi
    rw [show f i = .slice none 0 0 from hpi] at hc
    clear hD hpi hp
    go_enter Tryz.func27, Tryz.ntmps27
    go_wp2_with fail
    go_ret
    exact ⟨rfl, rfl⟩
  | some s =>
    rw [hD] at hpi
    obtain ⟨g, cap, h1, _⟩ := hpi
    rw [h1] at hc
    clear hD hp h1
    go_enter Tryz.func27, Tryz.ntmps27
    go_wp2_with fail
    go_ret
    exact ⟨rfl, rfl⟩
theorem has_out {w : World} {B b l len : Nat} {A : Nat → Prop} {tag : ByteArray} {D : Nat → Option ByteArray} (h : BodyAt w B A b l tag len D) (i : Int) (hi : i < 0 ∨ (npc len : Int) ≤ i) :
    Calls Tryz.prog 27 #[.pointer (some ⟨b, 0, none⟩), .int .i64 i] w fun e w' => e = .returned (.bool false) ∧ w = w' := by
  have c2 := h.c2
  rcases Int.lt_or_le i 0 with h0 | h0
  · go_enter Tryz.func27, Tryz.ntmps27
    go_wp2_with fail
    go_ret
    exact ⟨rfl, rfl⟩
  · have h1 : (npc len : Int) ≤ i := by omega
    go_enter Tryz.func27, Tryz.ntmps27
    go_wp2_with fail
    go_ret
    exact ⟨rfl, rfl⟩

def upd (D : Nat → Option ByteArray) (i : Nat) (o : Option ByteArray) : Nat → Option ByteArray := fun j => if j = i then o else D j
theorem PcV.set {w : World} {B l : Nat} {A : Nat → Prop} {v : Value} {o : Option ByteArray} (h : PcV w B A l v o) (i : Nat) (u : Value) : PcV (w.setCell ⟨l, i, none⟩ u) B A l v o := by
  cases o with
  | none => exact h
  | some s =>
    obtain ⟨g, cap, h1, h2, h3, h4, h5, h6⟩ := h
    refine ⟨g, cap, h1, h2, h3, h4, by simpa using h5, fun i hi => ?_⟩
    rw [← h6 i hi]
    exact World.cell?_of_block (blk_setCell_other _ _ _ _ h4)
theorem BodyAt.set {w : World} {B b l len : Nat} {A : Nat → Prop} {tag : ByteArray} {D : Nat → Option ByteArray} (h : BodyAt w B A b l tag len D) (i : Nat) (v : Value) (o : Option ByteArray) (hv : PcV w B A l v o) :
    BodyAt (w.setCell ⟨l, i, none⟩ v) B A b l tag len (upd D i o) := by
  obtain ⟨f, hf, hp⟩ := h.row
  have hk : ∀ j, (w.setCell ⟨l, i, none⟩ v).cell? ⟨b, j, none⟩ = w.cell? ⟨b, j, none⟩ := fun j => World.cell?_of_block (blk_setCell_other _ _ _ _ h.ne)
  refine ⟨h.hb, h.hl, h.ne, h.av, (hk 0).trans h.c0, (hk 1).trans h.c1, (hk 2).trans h.c2, _, hf.set i v, fun j hj => ?_⟩
  unfold upd
  by_cases e : j = i
  · rw [if_pos e, if_pos e]
    exact hv.set i v
  · rw [if_neg e, if_neg e]
    exact (hp j hj).set i v
theorem BodyAt.congr {w : World} {B b l len : Nat} {A : Nat → Prop} {tag : ByteArray} {D E : Nat → Option ByteArray} (h : BodyAt w B A b l tag len D) (he : ∀ j, j < npc len → D j = E j) : BodyAt w B A b l tag len E := by
  obtain ⟨f, hf, hp⟩ := h.row
  exact ⟨h.hb, h.hl, h.ne, h.av, h.c0, h.c1, h.c2, f, hf, fun j hj => he j hj ▸ hp j hj⟩
/-- the body where another block has been written -/
theorem BodyAt.kept {w w' : World} {B b l len m : Nat} {A : Nat → Prop} {tag : ByteArray} {D : Nat → Option ByteArray} (h : BodyAt w B A b l tag len D) (hk : Kept m w w') (hm : A m) : BodyAt w' B A b l tag len D := by
  obtain ⟨f, hf, hp⟩ := h.row
  have hb := World.block_lt_of_cell? w _ h.c0
  have e1 : b ≠ m := fun e => h.av.1 (e ▸ hm)
  have e2 : l ≠ m := fun e => h.av.2 (e ▸ hm)
  have hkb := hk.2 b hb e1
  refine ⟨h.hb, h.hl, h.ne, h.av, (World.cell?_of_block hkb).trans h.c0, (World.cell?_of_block hkb).trans h.c1, (World.cell?_of_block hkb).trans h.c2, f, hf.of_block (hk.2 l hf.lt e2), fun i hi => ?_⟩
  have := hp i hi
  cases hD : D i with
  | none => rw [hD] at this; exact this
  | some s =>
    rw [hD] at this
    obtain ⟨g, cap, h1, h2, h3, h4, h5, h6⟩ := this
    have e3 : g ≠ m := fun e => h3.2 (e ▸ hm)
    exact ⟨g, cap, h1, h2, h3, h4, Nat.lt_of_lt_of_le h5 hk.1, fun j hj => (World.cell?_of_block (hk.2 g h5 e3)).trans (h6 j hj)⟩
/-- what is avoided from now on may be any blocks that are new -/
theorem BodyAt.avoid {w : World} {B b l len : Nat} {A : Nat → Prop} {tag : ByteArray} {D : Nat → Option ByteArray} (h : BodyAt w B A b l tag len D) (A' : Nat → Prop) (ha : ∀ k, A' k → w.heap.size ≤ k ∨ k < B ∨ A k) : BodyAt w B A' b l tag len D := by
  obtain ⟨f, hf, hp⟩ := h.row
  have hb := World.block_lt_of_cell? w _ h.c0
  have hl := hf.lt
  refine ⟨h.hb, h.hl, h.ne, ⟨fun e => ?_, fun e => ?_⟩, h.c0, h.c1, h.c2, f, hf, fun i hi => ?_⟩
  · rcases ha _ e with h1 | h1 | h1
    · simp at hb; omega
    · have := h.hb; omega
    · exact h.av.1 h1
  · rcases ha _ e with h1 | h1 | h1
    · omega
    · have := h.hl; omega
    · exact h.av.2 h1
  · have := hp i hi
    cases hD : D i with
    | none => rw [hD] at this; exact this
    | some s =>
      rw [hD] at this
      obtain ⟨g, cap, h1, h2, h3, h4, h5, h6⟩ := this
      refine ⟨g, cap, h1, h2, ⟨h3.1, fun e => ?_⟩, h4, h5, h6⟩
      rcases ha _ e with h7 | h7 | h7
      · omega
      · have := h3.1; omega
      · exact h3.2 h7
end Go.Proofs.YtlhnejcjeoecaaaGreatDoor.P20
namespace Go.Proofs.YtlhnejcjeoecaaaGreatDoor
open Go.RowKit

theorem block_of_add (a : Addr) (n : Nat) : (a.add n).block = a.block := by unfold Addr.add; split <;> rfl
theorem add_of_add (a : Addr) (i j : Nat) : (a.add i).add j = a.add (i + j) := by
  unfold Addr.add
  by_cases hi : i = 0 <;> by_cases hj : j = 0 <;> simp [hi, hj, Nat.add_assoc]

def Reads (w : World) (B size : Nat) (A : Option Addr) (n : Nat) (xs : List Value) : Prop :=
  xs.length = n * size ∧ (0 < n → ∃ ad, A = some ad ∧ ad.block < B ∧ ∀ j u, xs[j]? = some u → w.cell? (ad.add j) = some u)

section
variable {w w' : World} {B B' size n : Nat} {A : Option Addr} {xs : List Value}
theorem Reads.none_ : Reads w B size A 0 [] := ⟨by simp, fun h => absurd h (by omega)⟩
theorem Reads.at_ {k : Nat} (h : Reads w B 1 A n xs) (hk : k < n) : ∃ ad u, A = some ad ∧ ad.block < B ∧ xs[k]? = some u ∧ w.cell? (ad.add k) = some u := by
  obtain ⟨ad, e, hb, hc⟩ := h.2 (by omega)
  have hl : k < xs.length := by have := h.1; omega
  exact ⟨ad, xs[k], e, hb, List.getElem?_eq_getElem hl, hc k _ (List.getElem?_eq_getElem hl)⟩
theorem Reads.keep (h : Reads w B size A n xs) (hk : ∀ p : Addr, p.block < B → w'.cell? p = w.cell? p) : Reads w' B size A n xs :=
  ⟨h.1, fun hn => by
    obtain ⟨ad, e, hb, hc⟩ := h.2 hn
    exact ⟨ad, e, hb, fun j u hu => (hk _ (by rw [block_of_add]; exact hb)).trans (hc j u hu)⟩⟩
theorem Reads.more (h : Reads w B size A n xs) (hB : B ≤ B') : Reads w B' size A n xs :=
  ⟨h.1, fun hn => by
    obtain ⟨ad, e, hb, hc⟩ := h.2 hn
    exact ⟨ad, e, by omega, hc⟩⟩
theorem Reads.below (h : Reads w B size A n xs) (hb : Below B w w') : Reads w' B size A n xs := h.keep fun _ hp => hb.cell hp
theorem Reads.drew (h : Reads w B size A n xs) : Reads w.drew B size A n xs := h
theorem Reads.drewN (h : Reads w B size A n xs) (k : Nat) : Reads (w.drewN k) B size A n xs := h
theorem Reads.alloc (h : Reads w B size A n xs) (hB : B ≤ w.heap.size) (o : Obj) : Reads (w.alloc o) B size A n xs := h.keep fun p hp => World.cell?_alloc_lt w o p (by omega)
theorem Reads.setCell (h : Reads w B size A n xs) {p : Addr} (hB : B ≤ p.block) (u : Value) : Reads (w.setCell p u) B size A n xs :=
  h.keep fun q hq => World.cell?_setCell_other w p q u (fun e => by subst e; omega)
theorem Reads.grown (h : Reads w B size A n xs) {row : Option Nat} (hg : w.grownBy w' row) (hB : B ≤ w.heap.size) (hr : ∀ g, row = some g → B ≤ g) : Reads w' B size A n xs :=
  h.keep fun p hp => World.cell?_of_block (hg.block p.block (by omega) (fun e => by have := hr _ e.symm; omega))
theorem Reads.cut (h : Reads w B size A n xs) {k cap : Nat} (hk : k ≤ n) (hc : n ≤ cap) :
    Reads w B size (if cap = k then A else A.map (·.add (k * size))) (n - k) (xs.drop (k * size)) := by
  refine ⟨by rw [List.length_drop, h.1, Nat.sub_mul], fun hn => ?_⟩
  obtain ⟨ad, rfl, hb, hcell⟩ := h.2 (by omega)
  rw [if_neg (by omega)]
  refine ⟨ad.add (k * size), rfl, by rw [block_of_add]; exact hb, fun j u hu => ?_⟩
  rw [add_of_add]
  exact hcell _ u (by rw [← hu, List.getElem?_drop])
theorem Reads.of_own {base : Nat} {e : TypeId} {c : Nat} (h : w.ownsRow base e size (.slice A n c) n xs) : Reads w w.heap.size size A n xs := by
  refine ⟨h.1, fun hn => ?_⟩
  obtain ⟨g, cap, hv, _, hlt⟩ := h.form hn
  have hA : A = some ⟨g, 0, none⟩ := by injection hv
  subst hA
  exact ⟨_, rfl, hlt, h.cells (g := g) rfl⟩
end
section
variable {P : Program} (w : World)

theorem run_append_of_nil (base : Nat) (t ty e : TypeId) (i : TypeInfo) (size : Nat) (ht : P.underlying t = some (.slice e)) (hi : P.info? e = some i)
    (v : Value) (n : Nat) (xs : List Value) (hown : w.ownsRow base e size v n xs) (c : Nat) : (Builtin.append_ #[t, t] ty #[v, .slice none 0 c]).run P w = .ok v w := by
  rcases hown.2 with ⟨rfl, rfl⟩ | ⟨g, cap, cur, rfl, _, _, hnc, _⟩
  · simp [Builtin.append_, run_underlying ht, sizeOf, typeInfo, hi, Builtin.lenOf, Builtin.firstCells]
  · simp [Builtin.append_, run_underlying ht, sizeOf, typeInfo, hi, Builtin.lenOf, Builtin.firstCells, hnc, storeCells]

theorem run_append_any (base : Nat) (t ty e : TypeId) (i : TypeInfo) (z : Value) (size bytes : Nat) (ht : P.underlying t = some (.slice e)) (hi : P.info? e = some i) (hz : i.zero = some z)
    (hsize : i.size = size) (hby : i.bytes = bytes) (hzs : z.cells.size = size) (hsz : 0 < size)
    (v : Value) (n : Nat) (xs : List Value) (hown : w.ownsRow base e size v n xs)
    (B : Nat) (A : Option Addr) (m c : Nat) (news : List Value) (hr : Reads w B size A m news) (h1 : ∀ u ∈ news, u.oneCell' = true)
    (h63 : n + m ≤ maxLen) (hbytes : (n + m) * bytes ≤ 140737488355328) (hbase : base ≤ w.heap.size) :
    ∃ v' w', (Builtin.append_ #[t, t] ty #[v, .slice A m c]).run P w = .ok v' w' ∧ w'.ownsRow base e size v' (n + m) (xs ++ news) ∧ w.grownBy w' v.ownBlock ∧
      (v'.ownBlock = v.ownBlock ∨ v'.ownBlock = some w.heap.size) := by
  rcases A with _ | ad
  · have hm : m = 0 := by
      rcases Nat.eq_zero_or_pos m with h0 | h0
      · exact h0
      · obtain ⟨ad, h, _⟩ := hr.2 h0
        cases h
    subst hm
    have hn : news = [] := List.eq_nil_of_length_eq_zero (by simpa using hr.1)
    subst hn
    exact ⟨v, w, run_append_of_nil w base t ty e i size ht hi v n xs hown c, by simpa using hown, World.grownBy.refl w _, .inl rfl⟩
  · have hcells : ∀ j u, news[j]? = some u → w.cell? (ad.add j) = some u := by
      intro j u hu
      rcases Nat.eq_zero_or_pos m with h0 | h0
      · subst h0
        have hn : news = [] := List.eq_nil_of_length_eq_zero (by simpa using hr.1)
        subst hn
        simp at hu
      · obtain ⟨ad', h, _, hc⟩ := hr.2 h0
        injection h with h
        subst h
        exact hc j u hu
    obtain ⟨v', w', hrun, h2, h3, _, h5⟩ := run_append_own_at (P := P) w base t ty e i z size bytes ht hi hz hsize hby hzs hsz v n xs hown ad m c news hr.1 hcells h1 h63 hbytes hbase
    exact ⟨v', w', hrun, h2, h3, h5⟩

theorem wp_append_any {o : Oper} {a : Act} {K : Act → World → Prop} {Q : Exit → Act → World → Prop} (s x : Operand) (t : TypeId)
    (ho : o.op = .call { callee := .builtin .append, args := #[s, x], argTypes := #[t, t] })
    (base : Nat) (e : TypeId) (i : TypeInfo) (z : Value) (size bytes : Nat) (ht : P.underlying t = some (.slice e)) (hi : P.info? e = some i) (hz : i.zero = some z)
    (hsize : i.size = size) (hby : i.bytes = bytes) (hzs : z.cells.size = size) (hsz : 0 < size)
    (v : Value) (n : Nat) (xs : List Value) (hs : a.eval s = v) (hown : w.ownsRow base e size v n xs)
    (B : Nat) (A : Option Addr) (m c : Nat) (news : List Value) (hx : a.eval x = .slice A m c) (hr : Reads w B size A m news) (h1 : ∀ u ∈ news, u.oneCell' = true)
    (h63 : n + m ≤ maxLen) (hbytes : (n + m) * bytes ≤ 140737488355328) (hbase : base ≤ w.heap.size)
    (h : ∀ v' w', w'.ownsRow base e size v' (n + m) (xs ++ news) → w.grownBy w' v.ownBlock → (v'.ownBlock = v.ownBlock ∨ v'.ownBlock = some w.heap.size) → K (a.put o.dst v') w') : o.wp P a w K Q := by
  obtain ⟨v', w', hrun, h2, h3, h4⟩ := run_append_any (P := P) w base t o.type e i z size bytes ht hi hz hsize hby hzs hsz v n xs hown B A m c news hr h1 h63 hbytes hbase
  unfold Oper.wp execOp
  simp only [ho, resolve, invoke, builtin, Sem.run_bind, Sem.run_pure, Result.andThen_ok, List.map_toArray, List.map_cons, List.map_nil, hs, hx, hrun]
  exact h v' w' h2 h3 h4

theorem wpList_append_any {ops : Array Oper} {rest : List Oper} {o : Oper} {a : Act} {Q : Exit → Act → World → Prop} (hgd : o.guard = none) (s x : Operand) (t : TypeId)
    (ho : o.op = .call { callee := .builtin .append, args := #[s, x], argTypes := #[t, t] })
    (base : Nat) (e : TypeId) (i : TypeInfo) (z : Value) (size bytes : Nat) (ht : P.underlying t = some (.slice e)) (hi : P.info? e = some i) (hz : i.zero = some z)
    (hsize : i.size = size) (hby : i.bytes = bytes) (hzs : z.cells.size = size) (hsz : 0 < size)
    (v : Value) (n : Nat) (xs : List Value) (hs : a.eval s = v) (hown : w.ownsRow base e size v n xs)
    (B : Nat) (A : Option Addr) (m c : Nat) (news : List Value) (hx : a.eval x = .slice A m c) (hr : Reads w B size A m news) (h1 : ∀ u ∈ news, u.oneCell' = true)
    (h63 : n + m ≤ maxLen) (hbytes : (n + m) * bytes ≤ 140737488355328) (hbase : base ≤ w.heap.size)
    (h : ∀ v' w', w'.ownsRow base e size v' (n + m) (xs ++ news) → w.grownBy w' v.ownBlock → (v'.ownBlock = v.ownBlock ∨ v'.ownBlock = some w.heap.size) → wpList P ops Q rest (a.put o.dst v') w') : wpList P ops Q (o :: rest) a w :=
  wpList_plain hgd fun _ hK => wp_append_any w s x t ho base e i z size bytes ht hi hz hsize hby hzs hsz v n xs hs hown B A m c news hx hr h1 h63 hbytes hbase fun v' w' h2 h3 h4 => hK _ _ (h v' w' h2 h3 h4)

theorem step_append_any {ops : Array Oper} {o : Oper} {a : Act} {K : Act → World → Prop} {Q : Exit → Act → World → Prop} {E : Prop} (hgd : o.guard = none) (s x : Operand) (t : TypeId)
    (ho : o.op = .call { callee := .builtin .append, args := #[s, x], argTypes := #[t, t] })
    (base : Nat) (e : TypeId) (i : TypeInfo) (z : Value) (size bytes : Nat) (ht : P.underlying t = some (.slice e)) (hi : P.info? e = some i) (hz : i.zero = some z)
    (hsize : i.size = size) (hby : i.bytes = bytes) (hzs : z.cells.size = size) (hsz : 0 < size)
    (v : Value) (n : Nat) (xs : List Value) (hs : a.eval s = v) (hown : w.ownsRow base e size v n xs)
    (B : Nat) (A : Option Addr) (m c : Nat) (news : List Value) (hx : a.eval x = .slice A m c) (hr : Reads w B size A m news) (h1 : ∀ u ∈ news, u.oneCell' = true)
    (h63 : n + m ≤ maxLen) (hbytes : (n + m) * bytes ≤ 140737488355328) (hbase : base ≤ w.heap.size)
    (h : ∀ v' w', w'.ownsRow base e size v' (n + m) (xs ++ news) → w.grownBy w' v.ownBlock → (v'.ownBlock = v.ownBlock ∨ v'.ownBlock = some w.heap.size) → K (a.put o.dst v') w') :
    if Region.wanted o (yielded ops a.tmps) = true then Oper.wp P o a w K Q else E := by
  have hw : Region.wanted o (yielded ops a.tmps) = true := by simp [Region.wanted, hgd]
  rw [if_pos hw]
  exact wp_append_any w s x t ho base e i z size bytes ht hi hz hsize hby hzs hsz v n xs hs hown B A m c news hx hr h1 h63 hbytes hbase h
end
end Go.Proofs.YtlhnejcjeoecaaaGreatDoor
namespace Go.Proofs.YtlhnejcjeoecaaaGreatDoor.P20
open Go.RowKit Go.Deep
attribute [local go_sem ↓] Go.wp_at_zero Go.wp_at_succ

theorem own_some {w : World} {base : Nat} {e : TypeId} {size : Nat} {v : Value} {n : Nat} {xs : List Value} (h : w.ownsRow base e size v n xs) (hn : v.ownBlock ≠ none) : ∃ g cap, v = .slice (some ⟨g, 0, none⟩) n cap ∧ base ≤ g ∧ n ≤ cap ∧ cap ≤ maxLen ∧ g < w.heap.size := by
  rcases h.2 with ⟨rfl, _⟩ | ⟨g, cap, cur, rfl, hb, hh, hl, hm, _⟩
  · exact absurd rfl hn
  · exact ⟨g, cap, rfl, hb, hl, hm, (Array.getElem?_eq_some_iff.1 hh).1⟩
theorem own_ge {g B n cap : Nat} (h : B ≤ g) : ∀ k, (Value.slice (some ⟨g, 0, none⟩) n cap).ownBlock = some k → B ≤ k := fun k hk => by
  have e : g = k := by simpa [Value.ownBlock] using hk
  omega
theorem own_bytes {w : World} {base : Nat} {s : ByteArray} {g cap : Nat} (h : w.ownsRow base 5 1 (.slice (some ⟨g, 0, none⟩) s.size cap) s.size ((byteIs s).map (Value.int .u8))) : BytesAt w g s := by
  intro i hi
  rcases h.2 with ⟨e, _⟩ | ⟨g', cap', cur, e, hb, hh, hl, hm, hc, ht⟩
  · cases e
  · simp only [Value.slice.injEq, Option.some.injEq, Addr.mk.injEq, and_true, true_and] at e
    obtain ⟨rfl, rfl⟩ := e
    rw [cell_of_row w g i cur _ _ hh]
    have h1 : (cur.toList.take (s.size * 1))[i]? = some (Value.int .u8 ((byteIs s).getD i 0)) := by
      rw [ht, List.getElem?_map, List.getElem?_eq_getElem (by rw [byteIs_length]; exact hi)]
      simp [List.getD, byteIs_length, hi]
    rw [List.getElem?_take] at h1
    simpa [hi] using h1

theorem strOf_byteIs (s : ByteArray) : strOfNums (byteIs s) = s := by
  unfold byteIs strOfNums
  apply ByteArray.ext
  show (List.map _ (List.map _ s.data.toList)).toArray = s.data
  rw [List.map_map]
  have : (fun n : Int => UInt8.ofNat n.toNat) ∘ (fun b : UInt8 => (b.toNat : Int)) = id := by
    funext b
    simp
  rw [this, List.map_id]
theorem conv_bytes {w : World} {g cap : Nat} {s : ByteArray} (h : BytesAt w g s) :
    (convert 22 9 (.slice (some ⟨g, 0, none⟩) s.size cap)).run Tryz.prog w = .ok (.string s) w := by
  have := run_convert_bytes_arg (P := Tryz.prog) w 22 5 Tryz.underlying22 Tryz.underlying5 g 0 s.size cap (byteIs s) (byteIs_length s) (fun i hi => by rw [Nat.zero_add]; exact h i hi) 9 Tryz.underlying9
  rw [strOf_byteIs] at this
  exact this
set_option maxRecDepth 100000 in
theorem equal_any (w : World) (g g' c d : Nat) (s t : ByteArray) (hs : BytesAt w g s) (ht : BytesAt w g' t) :
    Calls Tryz.prog 22 #[.slice (some ⟨g, 0, none⟩) s.size c, .slice (some ⟨g', 0, none⟩) t.size d] w fun e w' => e = .returned (.bool (decide (s = t))) ∧ w = w' := by
  have h1 := conv_bytes (cap := c) hs
  have h2 := conv_bytes (cap := d) ht
  go_enter Tryz.func22, Tryz.ntmps22
  go_wp2_with fail
  go_ret
  refine ⟨ret_bool ?_, rfl⟩
  cases hq : s.toList == t.toList with
  | true => simp [ba_eq hq]
  | false => simp [ba_ne hq]

set_option maxRecDepth 100000 in
/-- a Put of a piece that is not there, or there with the same bytes -/
theorem put_ok {w : World} {B b l len : Nat} {A : Nat → Prop} {tag : ByteArray} {D : Nat → Option ByteArray} (h : BodyAt w B A b l tag len D) (hl : len ≤ 65536) (i : Nat) (hi : i < npc len) (g cap : Nat) (s : ByteArray)
    (hs : BytesAt w g s) (hz : s.size = pto i len - i * 256) (hD : D i = none) (hA : ∀ k, A k → k < w.heap.size) :
    Calls Tryz.prog 8 #[.pointer (some ⟨b, 0, none⟩), .int .i64 i, .slice (some ⟨g, 0, none⟩) s.size cap] w fun e w' => e = .returned .nilIface ∧ Below B w w' ∧ Kept l w w' ∧ BodyAt w' B A b l tag len (upd D i (some s)) := by
  have hn : npc len ≤ 256 := by unfold npc; omega
  have hi2 : i * 256 < len := by unfold npc at hi; omega
  have c1 := h.c1
  have c2 := h.c2
  obtain ⟨f, hf, hp⟩ := h.row
  have hc := hf.cell hi
  have hfz := hf.frozen i
  have hpi := hp i hi
  rw [hD] at hpi
  rw [show f i = .slice none 0 0 from hpi] at hc
  have hs6 : s.size ≤ 256 := by rw [hz]; unfold pto; omega
  have hs0 : 1 ≤ s.size := by rw [hz]; unfold pto; omega
  have hgs : g < w.heap.size := World.block_lt_of_cell? w _ (hs 0 hs0)
  obtain ⟨i0, hi0, hz0, hz1, hz2⟩ := info_parts (show (Tryz.prog.info? 5).map (fun i => (i.zero, i.size, i.bytes)) = some (some (.int .u8 0), 1, 1) by kernel_rfl)
  have hrd : Reads w w.heap.size 1 (some ⟨g, 0, none⟩) s.size ((byteIs s).map (Value.int .u8)) := by
    refine ⟨by simp [byteIs_length], fun _ => ⟨_, rfl, hgs, fun j u hu => ?_⟩⟩
    have hj : j < s.size := by
      have := (List.getElem?_eq_some_iff.1 hu).1
      simpa [byteIs_length] using this
    rw [Addr.add_lit, Nat.zero_add, hs j hj, ← hu, List.getElem?_map, List.getElem?_eq_getElem (by rw [byteIs_length]; exact hj)]
    simp [List.getD, byteIs_length, hj]
  have hrd6 : Reads (w.alloc (.cells #[] 5)).drew w.heap.size 1 (some ⟨g, 0, none⟩) s.size ((byteIs s).map (Value.int .u8)) := (hrd.alloc (Nat.le_refl _) _).drew
  have hown : (w.alloc (.cells #[] 5)).drew.ownsRow w.heap.size 5 1 (.slice (some ⟨w.heap.size, 0, none⟩) 0 0) 0 [] := by
    refine ⟨rfl, .inr ⟨w.heap.size, 0, #[], rfl, Nat.le_refl _, heap_alloc_new w _, Nat.le_refl _, by simp only [maxLen]; omega, rfl, rfl⟩⟩
  have hone : ∀ v ∈ (byteIs s).map (Value.int .u8), v.oneCell' = true := by
    intro v hv
    obtain ⟨n, -, rfl⟩ := List.mem_map.1 hv
    rfl
  have HZ := Lib.hid hz
  have key : ((len : Int) - (i : Int) * 256 < 256 ∧ (len : Int) - (i : Int) * 256 = (s.size : Int)) ∨ (¬ (len : Int) - (i : Int) * 256 < 256 ∧ (s.size : Int) = 256) := by
    rw [hz]; unfold pto; omega
  clear hz
  have hbz : b < w.heap.size := World.block_lt_of_cell? w _ c2
  have hlz : l < w.heap.size := hf.lt
  have hc6 : (w.alloc (.cells #[] 5)).drew.cell? ⟨l, i, none⟩ = some (.slice none 0 0) := Ext.cell (((Ext.refl w).alloc _).drew) hc
  have hf6 : (w.alloc (.cells #[] 5)).drew.frozen? ⟨l, i, none⟩ = false := (Ext.frozen (((Ext.refl w).alloc _).drew) hc).trans hfz
  have hd6 : (w.alloc (.cells #[] 5)).drew.cell? ⟨b, 2, none⟩ = some (.slice (some ⟨l, 0, none⟩) (npc len) (npc len)) := Ext.cell (((Ext.refl w).alloc _).drew) c2
  have HB := Lib.hid h
  have HAV := Lib.hid hA
  have hBl := h.hl
  have q1 : decide ((i : Int) < 0) = false := by simp
  have q2 : decide (npc len ≤ i) = false := by simp; omega
  clear h hp hpi hA
  go_enter Tryz.func8, Tryz.ntmps8
  rcases key with ⟨e1, e2⟩ | ⟨e1, e2⟩
  all_goals go_upto_region 9 with fail
  all_goals go_cut [] (fun wx => Below B w wx ∧ Kept l w wx ∧ BodyAt wx B A b l tag len (upd D i (some s)))
  case first =>
    go_region_law (first
      | (refine step_append_any _ (by rfl) _ _ _ (by rfl) w.heap.size 5 i0 _ 1 1 Tryz.underlying22 hi0 hz0 hz1 hz2 rfl (by omega) (.slice (some ⟨w.heap.size, 0, none⟩) 0 0) 0 [] (by rfl) hown w.heap.size (some ⟨g, 0, none⟩) s.size cap ((byteIs s).map (Value.int .u8)) (by rfl) hrd6 hone (by simp only [maxLen]; omega) (by omega) (by simp) ?_
         intro v7 w7 hown7 hg7 hat7
         rw [Nat.zero_add, List.nil_append] at hown7
         obtain ⟨g7, cap7, rfl, hb7, hl7, hm7, hz7⟩ := own_some hown7 (by rcases hat7 with e | e <;> rw [e] <;> simp [Value.ownBlock])
         have bl7 := hg7.block l (by simp; omega) (by simp [Value.ownBlock]; omega)
         have bb7 := hg7.block b (by simp; omega) (by simp [Value.ownBlock]; omega)
         have c7 : w7.cell? ⟨l, i, none⟩ = some (.slice none 0 0) := (World.cell?_of_block bl7).trans hc6
         have f7 : w7.frozen? ⟨l, i, none⟩ = false := (World.frozen?_of_block bl7).trans hf6
         have d7 : w7.cell? ⟨b, 2, none⟩ = some (.slice (some ⟨l, 0, none⟩) (npc len) (npc len)) := (World.cell?_of_block bb7).trans hd6
         have X7 : Ext w w7 := Below.grown (((Ext.refl w).alloc _).drew) hg7 (Ext.size (((Ext.refl w).alloc _).drew)) (own_ge (Nat.le_refl _))
         have Y7 := (HB.out.ext X7).set i (.slice (some ⟨g7, 0, none⟩) s.size cap7) (some s) ⟨g7, cap7, rfl, hl7, ⟨by omega, fun e => by have := HAV.out _ e; omega⟩, by omega, hz7, own_bytes hown7⟩
         have Z7 : Below B w (w7.setCell ⟨l, i, none⟩ (.slice (some ⟨g7, 0, none⟩) s.size cap7)) := (Below.mono X7 (by omega)).setCell hBl _
         have K7 : Kept l w (w7.setCell ⟨l, i, none⟩ (.slice (some ⟨g7, 0, none⟩) s.size cap7)) := (Kept.of_ext l X7).set _ _))
    all_goals go_wp2_with fail
    all_goals go_meet
    all_goals exact ⟨Z7, K7, Y7⟩
  case rest =>
    go_wp2_with fail
    go_ret
    exact ⟨rfl, hcut⟩
  case first =>
    go_region_law (first
      | (refine step_append_any _ (by rfl) _ _ _ (by rfl) w.heap.size 5 i0 _ 1 1 Tryz.underlying22 hi0 hz0 hz1 hz2 rfl (by omega) (.slice (some ⟨w.heap.size, 0, none⟩) 0 0) 0 [] (by rfl) hown w.heap.size (some ⟨g, 0, none⟩) s.size cap ((byteIs s).map (Value.int .u8)) (by rfl) hrd6 hone (by simp only [maxLen]; omega) (by omega) (by simp) ?_
         intro v7 w7 hown7 hg7 hat7
         rw [Nat.zero_add, List.nil_append] at hown7
         obtain ⟨g7, cap7, rfl, hb7, hl7, hm7, hz7⟩ := own_some hown7 (by rcases hat7 with e | e <;> rw [e] <;> simp [Value.ownBlock])
         have bl7 := hg7.block l (by simp; omega) (by simp [Value.ownBlock]; omega)
         have bb7 := hg7.block b (by simp; omega) (by simp [Value.ownBlock]; omega)
         have c7 : w7.cell? ⟨l, i, none⟩ = some (.slice none 0 0) := (World.cell?_of_block bl7).trans hc6
         have f7 : w7.frozen? ⟨l, i, none⟩ = false := (World.frozen?_of_block bl7).trans hf6
         have d7 : w7.cell? ⟨b, 2, none⟩ = some (.slice (some ⟨l, 0, none⟩) (npc len) (npc len)) := (World.cell?_of_block bb7).trans hd6
         have X7 : Ext w w7 := Below.grown (((Ext.refl w).alloc _).drew) hg7 (Ext.size (((Ext.refl w).alloc _).drew)) (own_ge (Nat.le_refl _))
         have Y7 := (HB.out.ext X7).set i (.slice (some ⟨g7, 0, none⟩) s.size cap7) (some s) ⟨g7, cap7, rfl, hl7, ⟨by omega, fun e => by have := HAV.out _ e; omega⟩, by omega, hz7, own_bytes hown7⟩
         have Z7 : Below B w (w7.setCell ⟨l, i, none⟩ (.slice (some ⟨g7, 0, none⟩) s.size cap7)) := (Below.mono X7 (by omega)).setCell hBl _
         have K7 : Kept l w (w7.setCell ⟨l, i, none⟩ (.slice (some ⟨g7, 0, none⟩) s.size cap7)) := (Kept.of_ext l X7).set _ _))
    all_goals go_wp2_with fail
    all_goals go_meet
    all_goals exact ⟨Z7, K7, Y7⟩
  case rest =>
    go_wp2_with fail
    go_ret
    exact ⟨rfl, hcut⟩
end Go.Proofs.YtlhnejcjeoecaaaGreatDoor.P20
namespace Go.Proofs.YtlhnejcjeoecaaaGreatDoor.P20
open Go.RowKit Go.Deep
attribute [local go_sem ↓] Go.wp_at_zero Go.wp_at_succ
def BytesO (w : World) (g o : Nat) (s : ByteArray) : Prop := ∀ i, i < s.size → w.cell? ⟨g, o + i, none⟩ = some (.int .u8 ((byteIs s).getD i 0))
set_option maxRecDepth 100000 in
/-- a Put of a piece that is not there, or there with the same bytes -/
theorem put_okO {w : World} {B b l len : Nat} {A : Nat → Prop} {tag : ByteArray} {D : Nat → Option ByteArray} (h : BodyAt w B A b l tag len D) (hl : len ≤ 65536) (i : Nat) (hi : i < npc len) (g o cap : Nat) (s : ByteArray)
    (hs : BytesO w g o s) (hz : s.size = pto i len - i * 256) (hD : D i = none) (hA : ∀ k, A k → k < w.heap.size) :
    Calls Tryz.prog 8 #[.pointer (some ⟨b, 0, none⟩), .int .i64 i, .slice (some ⟨g, o, none⟩) s.size cap] w fun e w' => e = .returned .nilIface ∧ Below B w w' ∧ Kept l w w' ∧ BodyAt w' B A b l tag len (upd D i (some s)) := by
  have hn : npc len ≤ 256 := by unfold npc; omega
  have hi2 : i * 256 < len := by unfold npc at hi; omega
  have c1 := h.c1
  have c2 := h.c2
  obtain ⟨f, hf, hp⟩ := h.row
  have hc := hf.cell hi
  have hfz := hf.frozen i
  have hpi := hp i hi
  rw [hD] at hpi
  rw [show f i = .slice none 0 0 from hpi] at hc
  have hs6 : s.size ≤ 256 := by rw [hz]; unfold pto; omega
  have hs0 : 1 ≤ s.size := by rw [hz]; unfold pto; omega
  have hgs : g < w.heap.size := World.block_lt_of_cell? w _ (hs 0 hs0)
  obtain ⟨i0, hi0, hz0, hz1, hz2⟩ := info_parts (show (Tryz.prog.info? 5).map (fun i => (i.zero, i.size, i.bytes)) = some (some (.int .u8 0), 1, 1) by kernel_rfl)
  have hrd : Reads w w.heap.size 1 (some ⟨g, o, none⟩) s.size ((byteIs s).map (Value.int .u8)) := by
    refine ⟨by simp [byteIs_length], fun _ => ⟨_, rfl, hgs, fun j u hu => ?_⟩⟩
    have hj : j < s.size := by
      have := (List.getElem?_eq_some_iff.1 hu).1
      simpa [byteIs_length] using this
    rw [Addr.add_lit, hs j hj, ← hu, List.getElem?_map, List.getElem?_eq_getElem (by rw [byteIs_length]; exact hj)]
    simp [List.getD, byteIs_length, hj]
  have hrd6 : Reads (w.alloc (.cells #[] 5)).drew w.heap.size 1 (some ⟨g, o, none⟩) s.size ((byteIs s).map (Value.int .u8)) := (hrd.alloc (Nat.le_refl _) _).drew
  have hown : (w.alloc (.cells #[] 5)).drew.ownsRow w.heap.size 5 1 (.slice (some ⟨w.heap.size, 0, none⟩) 0 0) 0 [] := by
    refine ⟨rfl, .inr ⟨w.heap.size, 0, #[], rfl, Nat.le_refl _, heap_alloc_new w _, Nat.le_refl _, by simp only [maxLen]; omega, rfl, rfl⟩⟩
  have hone : ∀ v ∈ (byteIs s).map (Value.int .u8), v.oneCell' = true := by
    intro v hv
    obtain ⟨n, -, rfl⟩ := List.mem_map.1 hv
    rfl
  have HZ := Lib.hid hz
  have key : ((len : Int) - (i : Int) * 256 < 256 ∧ (len : Int) - (i : Int) * 256 = (s.size : Int)) ∨ (¬ (len : Int) - (i : Int) * 256 < 256 ∧ (s.size : Int) = 256) := by
    rw [hz]; unfold pto; omega
  clear hz
  have hbz : b < w.heap.size := World.block_lt_of_cell? w _ c2
  have hlz : l < w.heap.size := hf.lt
  have hc6 : (w.alloc (.cells #[] 5)).drew.cell? ⟨l, i, none⟩ = some (.slice none 0 0) := Ext.cell (((Ext.refl w).alloc _).drew) hc
  have hf6 : (w.alloc (.cells #[] 5)).drew.frozen? ⟨l, i, none⟩ = false := (Ext.frozen (((Ext.refl w).alloc _).drew) hc).trans hfz
  have hd6 : (w.alloc (.cells #[] 5)).drew.cell? ⟨b, 2, none⟩ = some (.slice (some ⟨l, 0, none⟩) (npc len) (npc len)) := Ext.cell (((Ext.refl w).alloc _).drew) c2
  have HB := Lib.hid h
  have HAV := Lib.hid hA
  have hBl := h.hl
  have q1 : decide ((i : Int) < 0) = false := by simp
  have q2 : decide (npc len ≤ i) = false := by simp; omega
  clear h hp hpi hA
  go_enter Tryz.func8, Tryz.ntmps8
  rcases key with ⟨e1, e2⟩ | ⟨e1, e2⟩
  all_goals go_upto_region 9 with fail
  all_goals go_cut [] (fun wx => Below B w wx ∧ Kept l w wx ∧ BodyAt wx B A b l tag len (upd D i (some s)))
  case first =>
    go_region_law (first
      | (refine step_append_any _ (by rfl) _ _ _ (by rfl) w.heap.size 5 i0 _ 1 1 Tryz.underlying22 hi0 hz0 hz1 hz2 rfl (by omega) (.slice (some ⟨w.heap.size, 0, none⟩) 0 0) 0 [] (by rfl) hown w.heap.size (some ⟨g, o, none⟩) s.size cap ((byteIs s).map (Value.int .u8)) (by rfl) hrd6 hone (by simp only [maxLen]; omega) (by omega) (by simp) ?_
         intro v7 w7 hown7 hg7 hat7
         rw [Nat.zero_add, List.nil_append] at hown7
         obtain ⟨g7, cap7, rfl, hb7, hl7, hm7, hz7⟩ := own_some hown7 (by rcases hat7 with e | e <;> rw [e] <;> simp [Value.ownBlock])
         have bl7 := hg7.block l (by simp; omega) (by simp [Value.ownBlock]; omega)
         have bb7 := hg7.block b (by simp; omega) (by simp [Value.ownBlock]; omega)
         have c7 : w7.cell? ⟨l, i, none⟩ = some (.slice none 0 0) := (World.cell?_of_block bl7).trans hc6
         have f7 : w7.frozen? ⟨l, i, none⟩ = false := (World.frozen?_of_block bl7).trans hf6
         have d7 : w7.cell? ⟨b, 2, none⟩ = some (.slice (some ⟨l, 0, none⟩) (npc len) (npc len)) := (World.cell?_of_block bb7).trans hd6
         have X7 : Ext w w7 := Below.grown (((Ext.refl w).alloc _).drew) hg7 (Ext.size (((Ext.refl w).alloc _).drew)) (own_ge (Nat.le_refl _))
         have Y7 := (HB.out.ext X7).set i (.slice (some ⟨g7, 0, none⟩) s.size cap7) (some s) ⟨g7, cap7, rfl, hl7, ⟨by omega, fun e => by have := HAV.out _ e; omega⟩, by omega, hz7, own_bytes hown7⟩
         have Z7 : Below B w (w7.setCell ⟨l, i, none⟩ (.slice (some ⟨g7, 0, none⟩) s.size cap7)) := (Below.mono X7 (by omega)).setCell hBl _
         have K7 : Kept l w (w7.setCell ⟨l, i, none⟩ (.slice (some ⟨g7, 0, none⟩) s.size cap7)) := (Kept.of_ext l X7).set _ _))
    all_goals go_wp2_with fail
    all_goals go_meet
    all_goals exact ⟨Z7, K7, Y7⟩
  case rest =>
    go_wp2_with fail
    go_ret
    exact ⟨rfl, hcut⟩
  case first =>
    go_region_law (first
      | (refine step_append_any _ (by rfl) _ _ _ (by rfl) w.heap.size 5 i0 _ 1 1 Tryz.underlying22 hi0 hz0 hz1 hz2 rfl (by omega) (.slice (some ⟨w.heap.size, 0, none⟩) 0 0) 0 [] (by rfl) hown w.heap.size (some ⟨g, o, none⟩) s.size cap ((byteIs s).map (Value.int .u8)) (by rfl) hrd6 hone (by simp only [maxLen]; omega) (by omega) (by simp) ?_
         intro v7 w7 hown7 hg7 hat7
         rw [Nat.zero_add, List.nil_append] at hown7
         obtain ⟨g7, cap7, rfl, hb7, hl7, hm7, hz7⟩ := own_some hown7 (by rcases hat7 with e | e <;> rw [e] <;> simp [Value.ownBlock])
         have bl7 := hg7.block l (by simp; omega) (by simp [Value.ownBlock]; omega)
         have bb7 := hg7.block b (by simp; omega) (by simp [Value.ownBlock]; omega)
         have c7 : w7.cell? ⟨l, i, none⟩ = some (.slice none 0 0) := (World.cell?_of_block bl7).trans hc6
         have f7 : w7.frozen? ⟨l, i, none⟩ = false := (World.frozen?_of_block bl7).trans hf6
         have d7 : w7.cell? ⟨b, 2, none⟩ = some (.slice (some ⟨l, 0, none⟩) (npc len) (npc len)) := (World.cell?_of_block bb7).trans hd6
         have X7 : Ext w w7 := Below.grown (((Ext.refl w).alloc _).drew) hg7 (Ext.size (((Ext.refl w).alloc _).drew)) (own_ge (Nat.le_refl _))
         have Y7 := (HB.out.ext X7).set i (.slice (some ⟨g7, 0, none⟩) s.size cap7) (some s) ⟨g7, cap7, rfl, hl7, ⟨by omega, fun e => by have := HAV.out _ e; omega⟩, by omega, hz7, own_bytes hown7⟩
         have Z7 : Below B w (w7.setCell ⟨l, i, none⟩ (.slice (some ⟨g7, 0, none⟩) s.size cap7)) := (Below.mono X7 (by omega)).setCell hBl _
         have K7 : Kept l w (w7.setCell ⟨l, i, none⟩ (.slice (some ⟨g7, 0, none⟩) s.size cap7)) := (Kept.of_ext l X7).set _ _))
    all_goals go_wp2_with fail
    all_goals go_meet
    all_goals exact ⟨Z7, K7, Y7⟩
  case rest =>
    go_wp2_with fail
    go_ret
    exact ⟨rfl, hcut⟩
end Go.Proofs.YtlhnejcjeoecaaaGreatDoor.P20
