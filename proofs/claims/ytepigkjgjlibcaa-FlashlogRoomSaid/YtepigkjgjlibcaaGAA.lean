/- Small words that all my walks share: 'Ext w w'': w' is w with new blocks (nothing that was there has changed), and the class of such worlds as a type. Walks of package quaysidebase: Num, Is, Clip, Time. A row of cells at the head of a block: what is known of it, kept from world to world; '[]byte(s)' and 'string(b)' as laws of the walk. Maps with string keys and one-cell elements: a map's block as a list of pairs; look-up, store, delete. And 'Mod F w w'': w' is w but for the blocks of F and new blocks. Slices that read as a list of cells, nil let in; append onto a row of the call's own, whatever the source (lemmas of the guide's page extra-words, sections 1 and 3, laid for this seat). Chapter 23: the log and the device as plain functions, after the program's text (no program in sight). Chapter 23: byte slices in memory; package record: number, joined, AppendUint, AppendText. -/
import Derived.WalkKit
import Derived.WalkSpells
import Derived.WalkLawsBesides
import Derived.Lib.Hide
import Derived.Deep.QuietTactic
import Derived.BigQuiet
import Derived.Test.YtepigkjgjlibcaaProg
import Derived.Maps.Keyed
import Derived.Maps.Own
import Derived.StringKeys
import Derived.Laws.OwnMore
import Derived.Deep.AppendLies
import Derived.Deep.Draws
import Derived.Maps.AppendAt
import Derived.RegionTactic
import Derived.OwnWalk
import Derived.Laws.IdiomStrings
import Derived.Deep.DeepCutAuto
import Derived.Laws.Bits128
import Derived.Lib.VarintBits
import Derived.Laws.Bits64b
import Derived.Deep.CutBlock
import Derived.Deep.SlicePairs
namespace Go.Proofs.Ytepigkjgjlibcaa
open Go.RowKit

def Ext (w w' : World) : Prop := Below w.heap.size w w'
theorem Ext.below {w w' : World} (h : Ext w w') : Below w.heap.size w w' := h
theorem Ext.refl (w : World) : Ext w w := Below.refl _ _
theorem Ext.size {w w' : World} (h : Ext w w') : w.heap.size ≤ w'.heap.size := Below.size h
theorem Ext.trans {a b c : World} (h : Ext a b) (k : Ext b c) : Ext a c := Below.trans h (Below.mono k (Below.size h))
theorem Ext.drew {a w : World} (h : Ext a w) : Ext a w.drew := Below.drew h
theorem Ext.drewN {a w : World} (h : Ext a w) (n : Nat) : Ext a (w.drewN n) := h.trans ⟨rfl, rfl, rfl, Nat.le_refl _, fun _ _ => rfl⟩
theorem Ext.alloc {a w : World} (h : Ext a w) (o : Obj) : Ext a (w.alloc o) := Below.alloc h (Below.size h) o
theorem Ext.setCell {a w : World} (h : Ext a w) {p : Addr} (hp : a.heap.size ≤ p.block) (v : Value) : Ext a (w.setCell p v) := Below.setCell h hp v
theorem Ext.cell {w w' : World} (h : Ext w w') {p : Addr} {v : Value} (hp : w.cell? p = some v) : w'.cell? p = some v :=
  (Below.cell h (World.block_lt_of_cell? w p hp)).trans hp
theorem Ext.frozen {w w' : World} (h : Ext w w') {p : Addr} {v : Value} (hp : w.cell? p = some v) : w'.frozen? p = w.frozen? p :=
  Below.frozen h (World.block_lt_of_cell? w p hp)

/-- the worlds that extend w -/
structure Wd (w : World) where
  val : World
  ext : Ext w val
instance (w : World) : Inhabited (Wd w) := ⟨⟨w, Ext.refl w⟩⟩

/-- A region that draws its order, whose operations only read, whose callees make memory but hand back values that do not hang on the world. -/
theorem wp_region_wd {P : Program} {id : Nat} {Q : Exit → Act → World → Prop} {a : Act} {w : World} {l : List Oper} (hm : P.follows .mixedOrders = true) (hB : Region.lexB .any l.toArray = true)
    (h : wpQuiet P l.toArray (fun w' => ∃ n : Wd w, w' = n.val) (fun a' => ∀ w', (∃ n : Wd w, w' = n.val) → Q .normal a' w') l a) : (Code.region id l.toArray true).wp P Q a w :=
  wp_region_quiet (C := fun w' => ∃ n : Wd w, w' = n.val) hm hB ⟨⟨w.drew, (Ext.refl w).drew⟩, rfl⟩ (by simpa using h)
/-- a callee's contract, met in such a world -/
theorem Calls.wd_of {P : Program} {f : FuncId} {args : Array Value} {w : World} {n : Wd w} {v : Value}
    (h : Calls P f args n.val fun e w' => e = .returned v ∧ Ext n.val w') : Calls P f args n.val fun e w'' => e = .returned v ∧ ∃ m : Wd w, w'' = m.val :=
  h.mono fun _ _ ⟨he, hm⟩ => ⟨he, ⟨_, n.ext.trans hm⟩, rfl⟩
theorem Calls.wd_of_same {P : Program} {f : FuncId} {args : Array Value} {w : World} {n : Wd w} {v : Value}
    (h : Calls P f args n.val fun e w' => e = .returned v ∧ n.val = w') : Calls P f args n.val fun e w'' => e = .returned v ∧ ∃ m : Wd w, w'' = m.val :=
  h.mono fun _ _ ⟨he, hm⟩ => ⟨he, n, hm.symm⟩

/-- 'string([]byte{a, b, ..})': the slice is a block that has just been laid. -/
theorem run_lit_bytes {P : Program} (src e dst : TypeId) (hs : P.underlying src = some (.slice e)) (he : P.underlying e = some (.int .u8)) (hd : P.underlying dst = some .string) (xs : List Int) (w : World) :
    (convert src dst (.slice (some ⟨w.heap.size, 0, none⟩) xs.length xs.length)).run P (w.alloc (.cells (xs.map (Value.int .u8)).toArray e)) = .ok (.string (strOfNums xs)) (w.alloc (.cells (xs.map (Value.int .u8)).toArray e)) := by
  refine run_convert_bytes_arg _ src e hs he w.heap.size 0 xs.length xs.length xs rfl (fun i hi => ?_) dst hd
  rw [Nat.zero_add, World.cell?_alloc_mark]
  simp [List.getD, hi]

/-- a whole array read out of a variable whose cells are known -/
theorem run_loadVar_cells {P : Program} (w : World) (g : Nat) (ty : TypeId) (cs : Array Value) (d : TypeDesc) (hc : ∀ j v, cs.toList[j]? = some v → w.cell? ⟨g, j, none⟩ = some v)
    (hu : P.underlying ty = some d) (hd : (match d with | .struct _ | .array _ _ => true | _ => false) = true) (hi : (P.info? ty).map (·.size) = some cs.size) :
    (loadVar ty ⟨g, 0, none⟩).run P w = .ok (.agg cs) w := by
  have hl : (loadCells ⟨g, 0, none⟩ cs.toList.length).run P w = .ok cs.toList.toArray w :=
    run_loadCells_list (P := P) w ⟨g, 0, none⟩ cs.toList (fun j v hv => by
      have hadd : (⟨g, 0, none⟩ : Addr).add j = ⟨g, j, none⟩ := by unfold Addr.add; split <;> simp_all
      rw [hadd]; exact hc j v hv)
  cases hq : P.info? ty with
  | none => simp [hq] at hi
  | some i =>
    have hs : i.size = cs.size := by simpa [hq] using hi
    have hagg : (isAgg ty).run P w = .ok true w := by
      unfold isAgg
      rw [Sem.run_bind, run_underlying hu w]
      cases d <;> simp_all
    simp only [Array.length_toList, Array.toArray_toList] at hl
    simp [loadVar, Sem.run_bind, hagg, sizeOf, typeInfo, hq, hs, hl]
theorem wpList_load_cells {P : Program} {ops : Array Oper} {rest : List Oper} {o : Oper} {a : Act} {w : World} {Q : Exit → Act → World → Prop} (hgd : o.guard = none) (ty : TypeId) (x : Operand) (ho : o.op = .load ty x)
    (g : Nat) (hx : a.eval x = .pointer (some ⟨g, 0, none⟩)) (cs : Array Value) (d : TypeDesc) (hc : ∀ j v, cs.toList[j]? = some v → w.cell? ⟨g, j, none⟩ = some v)
    (hu : P.underlying ty = some d) (hd : (match d with | .struct _ | .array _ _ => true | _ => false) = true) (hi : (P.info? ty).map (·.size) = some cs.size)
    (h : wpList P ops Q rest (a.put o.dst (.agg cs)) w) : wpList P ops Q (o :: rest) a w :=
  wpList_plain hgd fun K hK => by
    unfold Oper.wp execOp
    simp only [ho, hx, Instr.loadAt, Instr.sureAddr, Sem.run_bind, Sem.run_pure, Result.andThen_ok, run_loadVar_cells w g ty cs d hc hu hd hi]
    exact hK _ _ h

theorem ba_eq {a b : ByteArray} (h : (a.toList == b.toList) = true) : a = b := by
  have h' := eq_of_beq h
  rw [ByteArray.toList_eq, ByteArray.toList_eq] at h'
  exact ByteArray.ext (Array.toList_inj.1 h')
theorem ba_ne {a b : ByteArray} (h : (a.toList == b.toList) = false) : a ≠ b := by
  intro e; subst e; simp at h

theorem ret_int {k : IntKind} {a b : Int} (h : a = b) : Ending.returned (.int k a) = .returned (.int k b) := by rw [h]
theorem ret_bool {a b : Bool} (h : a = b) : Ending.returned (.bool a) = .returned (.bool b) := by rw [h]
theorem ret_str {a b : ByteArray} (h : a = b) : Ending.returned (.string a) = .returned (.string b) := by rw [h]
theorem ret_str2 {a b : ByteArray} {v : Value} (h : a = b) : Ending.returned (.tuple #[.string a, v]) = .returned (.tuple #[.string b, v]) := by rw [h]
theorem ret_int2 {k : IntKind} {a b : Int} {v : Value} (h : a = b) : Ending.returned (.tuple #[.int k a, v]) = .returned (.tuple #[.int k b, v]) := by rw [h]
end Go.Proofs.Ytepigkjgjlibcaa
namespace Go.Proofs.Ytepigkjgjlibcaa
open Go.RowKit
abbrev errV (n : Int) : Value := .iface 41 (.int .i64 n)

theorem num_nil (w : World) : Calls Try.prog 40 #[.nilIface] w fun e w' => e = .returned (.int .i64 0) ∧ w = w' := by
  go_enter Try.func40, Try.ntmps40
  go_wp2_with fail
  go_ret
  exact ⟨rfl, rfl⟩
theorem ta_err (k : Int) : ∀ w : World, (Instr.typeAssert (errV k) 30 41 true).run Try.prog w = .ok (.tuple #[.int .i64 k, .bool true]) w := fun _ => by kernel_rfl
theorem num_err (k : Int) (w : World) : Calls Try.prog 40 #[errV k] w fun e w' => e = .returned (.int .i64 k) ∧ w = w' := by
  have ht := ta_err k
  go_enter Try.func40, Try.ntmps40
  go_wp2_with fail
  go_ret
  exact ⟨rfl, rfl⟩
theorem is_err (k : Int) (w : World) (hk : k ≠ 0) : Calls Try.prog 13 #[errV k, .int .i64 k] w fun e w' => e = .returned (.bool true) ∧ w = w' := by
  have hk2 : (k != 0) = true := by rw [bne_iff_ne]; exact hk
  go_enter Try.func13, Try.ntmps13
  go_wp2_with (go_at_call 40; refine (num_err _ _).mono ?_; rintro e w' ⟨rfl, rfl⟩)
  go_ret
  exact ⟨rfl, rfl⟩
theorem is_nil (k : Int) (w : World) (hk : k ≠ 0) : Calls Try.prog 13 #[.nilIface, .int .i64 k] w fun e w' => e = .returned (.bool false) ∧ w = w' := by
  have hk2 : ((0 : Int) == k) = false := by rw [beq_eq_false_iff_ne]; exact fun h => hk h.symm
  go_enter Try.func13, Try.ntmps13
  go_wp2_with (go_at_call 40; refine (num_nil _).mono ?_; rintro e w' ⟨rfl, rfl⟩)
  go_ret
  exact ⟨rfl, rfl⟩

end Go.Proofs.Ytepigkjgjlibcaa
namespace Go.Proofs.Ytepigkjgjlibcaa
open Go.RowKit

/-- block g is a row that begins with the cells xs; none of its cells is frozen -/
def RowB (w : World) (g : Nat) (e : TypeId) (xs : List Value) : Prop :=
  ∃ C fr rest, w.heap[g]? = some (.cells C e fr) ∧ (∀ j, fr.1 ≤ j → j < fr.2 → C.size ≤ j) ∧ C.toList = xs ++ rest

theorem RowB.lt {w : World} {g : Nat} {e : TypeId} {xs : List Value} (h : RowB w g e xs) : g < w.heap.size := by
  obtain ⟨C, fr, rest, hg, _, _⟩ := h
  exact (Array.getElem?_eq_some_iff.1 hg).1
theorem RowB.cell {w : World} {g : Nat} {e : TypeId} {xs : List Value} (h : RowB w g e xs) {j : Nat} {v : Value} (hj : xs[j]? = some v) : w.cell? ⟨g, j, none⟩ = some v := by
  obtain ⟨C, fr, rest, hg, _, hc⟩ := h
  rw [cell_of_row w g j C e fr hg]
  have hlt := (List.getElem?_eq_some_iff.1 hj).1
  have : C.toList[j]? = some v := by rw [hc, List.getElem?_append_left hlt]; exact hj
  simpa using this
theorem RowB.frozen {w : World} {g : Nat} {e : TypeId} {xs : List Value} (h : RowB w g e xs) {j : Nat} (hj : j < xs.length) : w.frozen? ⟨g, j, none⟩ = false := by
  obtain ⟨C, fr, rest, hg, hf, hc⟩ := h
  have hsz : xs.length ≤ C.size := by
    have := congrArg List.length hc
    simp at this
    omega
  unfold World.frozen?
  rw [show (⟨g, j, none⟩ : Addr).block = g from rfl, hg]
  simp only [Bool.and_eq_false_imp, decide_eq_true_eq, decide_eq_false_iff_not]
  intro h1 h2
  have := hf j h1 h2
  omega
theorem RowB.kept {w w' : World} {g : Nat} {e : TypeId} {xs : List Value} (h : RowB w g e xs) (hb : w'.heap[g]? = w.heap[g]?) : RowB w' g e xs := by
  obtain ⟨C, fr, rest, hg, hf, hc⟩ := h
  exact ⟨C, fr, rest, hb.trans hg, hf, hc⟩
theorem RowB.below {B : Nat} {w w' : World} {g : Nat} {e : TypeId} {xs : List Value} (h : RowB w g e xs) (hb : Below B w w') (hg : g < B) : RowB w' g e xs := h.kept (hb.block g hg)
theorem RowB.ext {w w' : World} {g : Nat} {e : TypeId} {xs : List Value} (h : RowB w g e xs) (hb : Ext w w') : RowB w' g e xs := h.below hb h.lt
theorem RowB.set {w : World} {g : Nat} {e : TypeId} {xs : List Value} (h : RowB w g e xs) (j : Nat) (v : Value) (hj : j < xs.length) : RowB (w.setCell ⟨g, j, none⟩ v) g e (xs.set j v) := by
  obtain ⟨C, fr, rest, hg, hf, hc⟩ := h
  have hlt := (Array.getElem?_eq_some_iff.1 hg).1
  refine ⟨C.setIfInBounds j v, fr, rest, ?_, ?_, ?_⟩
  · simp [World.setCell, Array.getElem?_modify, hg]
  · intro k h1 h2; simpa using hf k h1 h2
  · rw [Array.toList_setIfInBounds, hc, List.set_append_left _ _ hj]

/-- '[]byte(s)': a new row that begins with the string's bytes -/
theorem wpList_bytes_of_string {P : Program} (w : World) {ops : Array Oper} {rest : List Oper} {o : Oper} {a : Act} {Q : Exit → Act → World → Prop}
    (hgd : o.guard = none) (src dst e : TypeId) (x : Operand) (ho : o.op = Op.convert src dst x) (hs : P.underlying src = some .string) (hd : P.underlying dst = some (.slice e)) (he : P.underlying e = some (.int .u8))
    (s : ByteArray) (hx : a.eval x = .string s)
    (hK : ∀ w' cap, Ext w w' → RowB w' w.heap.size e (s.data.toList.map fun b => Value.int .u8 b.toNat) → s.size ≤ cap → wpList P ops Q rest (a.put o.dst (.slice (some ⟨w.heap.size, 0, none⟩) s.size cap)) w') :
    wpList P ops Q (o :: rest) a w := by
  refine wpList_plain hgd fun K hK' => ?_
  have hrun := run_bytes_of_string (P := P) w src dst e s hs hd he
  unfold Oper.wp
  simp only [execOp, ho, hx, Sem.run_bind, hrun, Result.andThen]
  refine hK' _ _ (hK _ _ ((Ext.refl w).drew.trans (Ext.alloc (Ext.refl _) _)) ?_ ?_)
  · refine ⟨bytesRow s (grownCap w s.size 0 e), ((bytesRow s (grownCap w s.size 0 e)).size, (bytesRow s (grownCap w s.size 0 e)).size + 1), List.replicate (grownCap w s.size 0 e - s.size) (.int .u8 0), ?_, ?_, ?_⟩
    · show (w.heap.push _)[w.heap.size]? = _
      simp
    · intro j h1 _; exact h1
    · unfold bytesRow
      simp
  · exact grownCap_ge w s.size 0 e

/-- 'string(b)' of such a row -/
theorem RowB.toString {P : Program} {w : World} {g : Nat} {e : TypeId} {xs : List Int} (h : RowB w g e (xs.map (Value.int .u8))) {src dst : TypeId} (hs : P.underlying src = some (.slice e)) (he : P.underlying e = some (.int .u8)) (hd : P.underlying dst = some .string) (cap : Nat) :
    (convert src dst (.slice (some ⟨g, 0, none⟩) xs.length cap)).run P w = .ok (.string (strOfNums xs)) w := by
  refine run_convert_bytes_arg w src e hs he g 0 xs.length cap xs rfl (fun i hi => ?_) dst hd
  rw [Nat.zero_add]
  exact h.cell (by simp [List.getD, hi])
end Go.Proofs.Ytepigkjgjlibcaa
namespace Go.Proofs.Ytepigkjgjlibcaa
open Go.RowKit Go.Maps Go.WideMaps
open Go.ChangeMaps (setBlock)

/-- w' is w but for the blocks of F and new blocks -/
structure Mod (F : Nat → Prop) (w w' : World) : Prop where
  os : w'.os = w.os
  tape : w'.tape = w.tape
  output : w'.output = w.output
  size : w.heap.size ≤ w'.heap.size
  block : ∀ k, k < w.heap.size → ¬ F k → w'.heap[k]? = w.heap[k]?
theorem Mod.refl (F : Nat → Prop) (w : World) : Mod F w w := ⟨rfl, rfl, rfl, Nat.le_refl _, fun _ _ _ => rfl⟩
theorem Mod.trans {F : Nat → Prop} {a b c : World} (h : Mod F a b) (k : Mod F b c) : Mod F a c :=
  ⟨k.os.trans h.os, k.tape.trans h.tape, k.output.trans h.output, Nat.le_trans h.size k.size, fun i hi hn => (k.block i (Nat.lt_of_lt_of_le hi h.size) hn).trans (h.block i hi hn)⟩
theorem Mod.mono {F G : Nat → Prop} {a b : World} (h : Mod F a b) (hg : ∀ k, k < a.heap.size → F k → G k) : Mod G a b := ⟨h.os, h.tape, h.output, h.size, fun k hk hn => h.block k hk (fun hf => hn (hg k hk hf))⟩
/-- what the second step changes may be new -/
theorem Mod.then {F G : Nat → Prop} {a b c : World} (h : Mod F a b) (k : Mod G b c) (hg : ∀ i, G i → F i ∨ a.heap.size ≤ i) : Mod F a c :=
  ⟨k.os.trans h.os, k.tape.trans h.tape, k.output.trans h.output, Nat.le_trans h.size k.size, fun i hi hn => (k.block i (Nat.lt_of_lt_of_le hi h.size) (fun hgi => (hg i hgi).elim hn (fun hl => absurd hi (by omega)))).trans (h.block i hi hn)⟩
theorem Mod.of_ext {w w' : World} (F : Nat → Prop) (h : Ext w w') : Mod F w w' := ⟨Below.os h, Below.tape h, Below.output h, Below.size h, fun k hk _ => Below.block h k hk⟩
theorem Mod.ext {F : Nat → Prop} {w w' : World} (h : Mod F w w') (hf : ∀ k, F k → w.heap.size ≤ k) : Ext w w' := ⟨h.os, h.tape, h.output, h.size, fun k hk => h.block k hk (fun hfk => by have := hf k hfk; omega)⟩
theorem Mod.below {F : Nat → Prop} {w w' : World} {B : Nat} (h : Mod F w w') (hf : ∀ k, F k → B ≤ k) (hB : B ≤ w.heap.size) : Below B w w' := ⟨h.os, h.tape, h.output, h.size, fun k hk => h.block k (by omega) (fun hfk => by have := hf k hfk; omega)⟩
theorem Mod.alloc {F : Nat → Prop} {a w : World} (h : Mod F a w) (o : Obj) : Mod F a (w.alloc o) := h.trans (Mod.of_ext F ((Ext.refl w).alloc o))
theorem Mod.drew {F : Nat → Prop} {a w : World} (h : Mod F a w) : Mod F a w.drew := h.trans (Mod.of_ext F ((Ext.refl w).drew))
theorem Mod.drewN {F : Nat → Prop} {a w : World} (h : Mod F a w) (n : Nat) : Mod F a (w.drewN n) := h.trans (Mod.of_ext F ((Ext.refl w).drewN n))
theorem Mod.ext' {F : Nat → Prop} {a w w' : World} (h : Mod F a w) (k : Ext w w') : Mod F a w' := h.trans (Mod.of_ext F k)
theorem Mod.setCell {F : Nat → Prop} {a w : World} (h : Mod F a w) {p : Addr} (hp : F p.block ∨ a.heap.size ≤ p.block) (u : Value) : Mod F a (w.setCell p u) :=
  h.then (G := fun k => k = p.block) ⟨rfl, rfl, rfl, by simp [World.setCell], fun k _ hn => Below.heap_setCell _ _ _ _ hn⟩ (fun i hi => hi ▸ hp)
theorem Mod.grown {F : Nat → Prop} {a w w' : World} {row : Option Nat} (h : Mod F a w) (hg : w.grownBy w' row) (hr : ∀ k, row = some k → F k ∨ a.heap.size ≤ k) : Mod F a w' :=
  h.then (G := fun k => row = some k) ⟨hg.os, hg.tape, hg.output, hg.size, fun k hk hn => hg.block k hk (fun e => hn e.symm)⟩ hr
theorem Mod.rowB {F : Nat → Prop} {w w' : World} (h : Mod F w w') {g : Nat} {e : TypeId} {xs : List Value} (hr : RowB w g e xs) (hn : ¬ F g) : RowB w' g e xs := hr.kept (h.block g hr.lt hn)
theorem Mod.cell {F : Nat → Prop} {w w' : World} (h : Mod F w w') {p : Addr} {v : Value} (hp : w.cell? p = some v) (hn : ¬ F p.block) : w'.cell? p = some v :=
  (World.cell?_of_block (h.block p.block (World.block_lt_of_cell? w p hp) hn)).trans hp
theorem row_laid (w : World) (e : TypeId) (xs : List Value) : RowB (w.alloc (.cells xs.toArray e)) w.heap.size e xs :=
  ⟨xs.toArray, (0, 0), [], by show (w.heap.push _)[w.heap.size]? = _; simp, fun j h1 h2 => by simp at h2, by simp⟩
/-- rows of two types are two blocks -/
theorem RowB.apart {w : World} {g h : Nat} {e f : TypeId} {xs ys : List Value} (hg : RowB w g e xs) (hh : RowB w h f ys) (hn : e ≠ f) : g ≠ h := by
  rintro rfl
  obtain ⟨C, fr, rest, h1, -, -⟩ := hg
  obtain ⟨D, fr', rest', h2, -, -⟩ := hh
  rw [h1] at h2
  cases h2
  exact hn rfl

/-! a map's block -/
def MsAt (w : World) (b : Nat) (l : List (ByteArray × Value)) : Prop :=
  ∃ (es : Array MapEntry) (n : Nat), w.heap[b]? = some (.map es n) ∧ es.toList.map (fun e => (e.key, e.val)) = l.map (fun p => (Value.string p.1, p.2)) ∧ (∀ p ∈ l, p.1.size ≤ maxLen) ∧ l.Pairwise (fun a b => a.1 ≠ b.1)
def mget (l : List (ByteArray × Value)) (k : ByteArray) : Option Value := (l.find? fun p => decide (p.1 = k)).map (·.2)
def mput (l : List (ByteArray × Value)) (k : ByteArray) (v : Value) : List (ByteArray × Value) := if l.any (fun p => decide (p.1 = k)) then l.map (fun p => if p.1 = k then (k, v) else p) else l ++ [(k, v)]
def mdel (l : List (ByteArray × Value)) (k : ByteArray) : List (ByteArray × Value) := l.filter fun p => !decide (p.1 = k)
theorem MsAt.lt {w : World} {b : Nat} {l : List (ByteArray × Value)} (h : MsAt w b l) : b < w.heap.size := by
  obtain ⟨es, n, hb, -⟩ := h
  exact (Array.getElem?_eq_some_iff.1 hb).1
theorem MsAt.kept {w w' : World} {b : Nat} {l : List (ByteArray × Value)} (h : MsAt w b l) (hk : w'.heap[b]? = w.heap[b]?) : MsAt w' b l := by
  obtain ⟨es, n, hb, r⟩ := h
  exact ⟨es, n, hk.trans hb, r⟩
theorem MsAt.mod {F : Nat → Prop} {w w' : World} {b : Nat} {l : List (ByteArray × Value)} (h : MsAt w b l) (hm : Mod F w w') (hn : ¬ F b) : MsAt w' b l := h.kept (hm.block b h.lt hn)
theorem MsAt.ext {w w' : World} {b : Nat} {l : List (ByteArray × Value)} (h : MsAt w b l) (hm : Ext w w') : MsAt w' b l := h.kept (Below.block hm b h.lt)
theorem MsAt.apart {w : World} {b g : Nat} {l : List (ByteArray × Value)} {e : TypeId} {xs : List Value} (h : MsAt w b l) (hg : RowB w g e xs) : b ≠ g := by
  rintro rfl
  obtain ⟨es, n, hb, -⟩ := h
  obtain ⟨C, fr, rest, h1, -, -⟩ := hg
  rw [h1] at hb
  cases hb
theorem MsAt.made (w : World) : MsAt (w.alloc (.map #[] 0)) w.heap.size [] := ⟨#[], 0, (MapKept.heap_alloc w _).1, rfl, by simp, List.Pairwise.nil⟩
theorem pair_get {es : List MapEntry} {l : List (ByteArray × Value)} (h : es.map (fun e => (e.key, e.val)) = l.map (fun p => (Value.string p.1, p.2))) {j : Nat} {e : MapEntry} (he : es[j]? = some e) : ∃ p, l[j]? = some p ∧ e.key = .string p.1 ∧ e.val = p.2 := by
  have h1 := congrArg (fun z => z[j]?) h
  simp only [List.getElem?_map, he, Option.map_some] at h1
  cases hl : l[j]? with
  | none => rw [hl] at h1; cases h1
  | some p =>
    rw [hl] at h1
    simp only [Option.map_some, Option.some.injEq, Prod.mk.injEq] at h1
    exact ⟨p, rfl, h1⟩
theorem pair_get' {es : List MapEntry} {l : List (ByteArray × Value)} (h : es.map (fun e => (e.key, e.val)) = l.map (fun p => (Value.string p.1, p.2))) {j : Nat} {p : ByteArray × Value} (hp : l[j]? = some p) : ∃ e, es[j]? = some e ∧ e.key = .string p.1 ∧ e.val = p.2 := by
  have h1 := congrArg (fun z => z[j]?) h
  simp only [List.getElem?_map, hp, Option.map_some] at h1
  cases hl : es[j]? with
  | none => rw [hl] at h1; cases h1
  | some e =>
    rw [hl] at h1
    simp only [Option.map_some, Option.some.injEq, Prod.mk.injEq] at h1
    exact ⟨e, rfl, h1⟩
theorem mget_none {l : List (ByteArray × Value)} {k : ByteArray} (h : ∀ p ∈ l, p.1 ≠ k) : mget l k = none := by
  unfold mget
  rw [List.find?_eq_none.2 (fun p hp => by simpa using h p hp)]
  rfl
theorem mget_at {l : List (ByteArray × Value)} (hd : l.Pairwise (fun a b => a.1 ≠ b.1)) {j : Nat} {p : ByteArray × Value} (hp : l[j]? = some p) : mget l p.1 = some p.2 := by
  induction l generalizing j with
  | nil => simp at hp
  | cons x r ih =>
    obtain ⟨h1, h2⟩ := List.pairwise_cons.1 hd
    cases j with
    | zero =>
      simp at hp
      subst hp
      simp [mget]
    | succ j =>
      have hp' : r[j]? = some p := by simpa using hp
      have hne := h1 p (List.mem_of_getElem? hp')
      have := ih h2 hp'
      unfold mget at this ⊢
      rw [List.find?_cons_of_neg (by simpa using hne)]
      exact this
section
variable {P : Program} {T K E : TypeId} (hT : P.underlying T = some (.map K E)) (hK : P.underlying K = some .string)
include hT hK
omit hT in
theorem MsAt.keys {w : World} {b : Nat} {l : List (ByteArray × Value)} (h : MsAt w b l) : ∃ es n, w.heap[b]? = some (.map es n) ∧ es.toList.map (fun e => (e.key, e.val)) = l.map (fun p => (Value.string p.1, p.2)) ∧ ∀ e ∈ es.toList, ∃ q, keyOf P K e.key = some q := by
  obtain ⟨es, n, hb, he, hs, hd⟩ := h
  refine ⟨es, n, hb, he, fun e hm => ?_⟩
  obtain ⟨j, hj⟩ := List.getElem?_of_mem hm
  obtain ⟨p, hp, e1, -⟩ := pair_get he hj
  rw [e1]
  exact ⟨_, keyOf_string_mk hK (hs p (List.mem_of_getElem? hp))⟩
theorem MsAt.look {w : World} {b : Nat} {l : List (ByteArray × Value)} (h : MsAt w b l) (k : ByteArray) (hk : k.size ≤ maxLen) {Z : Value} (hz : (zeroValue E).run P w = .ok Z w) (c : Bool) :
    (Instr.lookup T (.map (some b)) (.string k) c).run P w = .ok (match mget l k with | none => if c then .tuple #[Z, .bool false] else Z | some v => if c then .tuple #[v, .bool true] else v) w := by

  obtain ⟨es, n, hb, he, hks⟩ := h.keys hK
  obtain ⟨es', n', hb', he', hs, hd⟩ := h
  rw [hb] at hb'
  cases hb'
  have KK := string_keyed hK
  have hkey := keyOf_string_mk hK hk
  rcases KK.find w hkey es.toList hks with ⟨h1, h2⟩ | ⟨j, e0, h1, h2, h3⟩
  · have hno : mget l k = none := mget_none (fun p hp e => by
      obtain ⟨j, hj⟩ := List.getElem?_of_mem hp
      obtain ⟨x, hx, e1, -⟩ := pair_get' he hj
      exact h2 x (List.mem_of_getElem? hx) (by rw [e1, e]))
    rw [hno]
    simp [Instr.lookup, run_underlying hT, MapKept.run_getObj_map hb, KK.check w _ hkey, h1, hz, Result.andThen]
  · obtain ⟨p, hp, e1, e2⟩ := pair_get he h2
    have hpk : p.1 = k := by rw [e1] at h3; injection h3
    have hyes := mget_at hd hp
    rw [hpk] at hyes
    rw [hyes, ← e2]
    simp [Instr.lookup, run_underlying hT, MapKept.run_getObj_map hb, KK.check w _ hkey, h1, Result.andThen]
theorem MsAt.store {w : World} {b : Nat} {l : List (ByteArray × Value)} (h : MsAt w b l) (k : ByteArray) (hk : k.size ≤ maxLen) (v : Value) :
    ∃ w', (Instr.mapUpdate T (.map (some b)) (.string k) v).run P w = .ok () w' ∧ MsAt w' b (mput l k v) ∧ w'.heap.size = w.heap.size ∧ w.grownBy w' (some b) := by
  obtain ⟨es, n, hb, he, hks⟩ := h.keys hK
  obtain ⟨es', n', hb', he', hs, hd⟩ := h
  rw [hb] at hb'
  cases hb'
  have KK := string_keyed hK
  have hkey := keyOf_string_mk hK hk
  have hlt := (Array.getElem?_eq_some_iff.1 hb).1
  have key : ∀ o, (setBlock w b o).heap[b]? = some o ∧ (setBlock w b o).heap.size = w.heap.size ∧ w.grownBy (setBlock w b o) (some b) := fun o => by
    have := MapKept.heap_set (o' := o) hb
    exact ⟨this.1, by simp [setBlock], ⟨rfl, rfl, rfl, by simp [setBlock], fun j _ hj => this.2 j (fun e => hj (by rw [e]))⟩⟩
  rcases KK.find w hkey es.toList hks with ⟨h1, h2⟩ | ⟨j, e0, h1, h2, h3⟩
  · have hno : ∀ p ∈ l, p.1 ≠ k := fun p hp e => by
      obtain ⟨j, hj⟩ := List.getElem?_of_mem hp
      obtain ⟨x, hx, e1, -⟩ := pair_get' he hj
      exact h2 x (List.mem_of_getElem? hx) (by rw [e1, e])
    have hput : mput l k v = l ++ [(k, v)] := by
      unfold mput
      rw [if_neg (fun h => by
        obtain ⟨p, hp, e⟩ := List.any_eq_true.1 h
        exact hno p hp (by simpa using e))]
    refine ⟨setBlock w b (.map (es.push ⟨.string k, v, n⟩) (n + 1)), ?_, ?_, (key _).2.1, (key _).2.2⟩
    · simp [Instr.mapUpdate, run_underlying hT, MapKept.run_getObj_map hb, KK.check w false hkey, h1, MapKept.run_setObj_map _ hb, Result.andThen, setBlock]
    · rw [hput]
      refine ⟨_, _, (key _).1, by simp [he], ?_, ?_⟩
      · intro p hp
        rcases List.mem_append.1 hp with hp | hp
        · exact hs p hp
        · simp at hp
          subst hp
          exact hk
      · rw [List.pairwise_append]
        exact ⟨hd, List.pairwise_singleton _ _, fun a ha c hc => by simp at hc; subst hc; exact hno a ha⟩
  · obtain ⟨p, hp, e1, e2⟩ := pair_get he h2
    have hpk : p.1 = k := by rw [e1] at h3; injection h3
    have hj : es[j]? = some e0 := by simpa using h2
    have hany : l.any (fun p => decide (p.1 = k)) = true := List.any_eq_true.2 ⟨p, List.mem_of_getElem? hp, by simpa using hpk⟩
    have hput : mput l k v = l.map (fun p => if p.1 = k then (k, v) else p) := by
      unfold mput
      rw [if_pos hany]
    have hlist : (es.modify j (fun e' => { e' with key := .string k, val := v })).toList = es.toList.set j { e0 with key := .string k, val := v } := by rw [Array.toList_modify, ChangeMaps.modify_eq_set _ _ _ _ h2]
    refine ⟨setBlock w b (.map (es.modify j (fun e' => { e' with key := .string k, val := v })) n), ?_, ?_, (key _).2.1, (key _).2.2⟩
    · simp [Instr.mapUpdate, run_underlying hT, MapKept.run_getObj_map hb, KK.check w false hkey, h1, hj, h3, KK.stays w hkey, MapKept.run_setObj_map _ hb, Result.andThen, setBlock]
    · rw [hput]
      refine ⟨_, _, (key _).1, ?_, ?_, ?_⟩
      · rw [hlist]
        apply List.ext_getElem?
        intro i
        rw [List.getElem?_map, List.getElem?_set, List.getElem?_map, List.getElem?_map]
        by_cases hij : j = i
        · subst hij
          rw [if_pos rfl, if_pos (List.getElem?_eq_some_iff.1 h2).1, hp]
          simp [hpk]
        · rw [if_neg hij]
          cases hi : l[i]? with
          | none =>
            have : es.toList[i]? = none := by
              cases hx : es.toList[i]? with
              | none => rfl
              | some x =>
                obtain ⟨q, hq, -⟩ := pair_get he hx
                rw [hi] at hq
                cases hq
            rw [this]
            rfl
          | some q =>
            obtain ⟨x, hx, f1, f2⟩ := pair_get' he hi
            have hne : q.1 ≠ k := by
              intro e
              have h4 := List.pairwise_iff_getElem.1 hd
              obtain ⟨a1, a2⟩ := List.getElem?_eq_some_iff.1 hp
              obtain ⟨b1, b2⟩ := List.getElem?_eq_some_iff.1 hi
              rcases Nat.lt_or_gt_of_ne hij with h | h
              · exact h4 j i a1 b1 h (by rw [a2, b2, hpk, e])
              · exact h4 i j b1 a1 h (by rw [a2, b2, hpk, e])
            rw [hx]
            simp [f1, f2, hne]
      · intro q hq
        obtain ⟨r, hr, rfl⟩ := List.mem_map.1 hq
        split
        · exact hk
        · exact hs r hr
      · rw [List.pairwise_map]
        refine hd.imp ?_
        intro a c hac
        by_cases ha : a.1 = k
        · rw [if_pos ha]
          by_cases hc : c.1 = k
          · exact absurd (ha.trans hc.symm) hac
          · rw [if_neg hc]
            exact fun e => hc e.symm
        · rw [if_neg ha]
          by_cases hc : c.1 = k
          · rw [if_pos hc]
            exact ha
          · rw [if_neg hc]
            exact hac
theorem MsAt.drop {w : World} {b : Nat} {l : List (ByteArray × Value)} (h : MsAt w b l) (k : ByteArray) (hk : k.size ≤ maxLen) (ty : TypeId) :
    ∃ w', (Builtin.delete_ #[T, K] ty #[.map (some b), .string k]).run P w = .ok (.tuple #[]) w' ∧ MsAt w' b (mdel l k) ∧ w'.heap.size = w.heap.size ∧ w.grownBy w' (some b) := by
  obtain ⟨es, n, hb, he, hks⟩ := h.keys hK
  obtain ⟨es', n', hb', he', hs, hd⟩ := h
  rw [hb] at hb'
  cases hb'
  have KK := string_keyed hK
  have hkey := keyOf_string_mk hK hk
  have key : ∀ o, (setBlock w b o).heap[b]? = some o ∧ (setBlock w b o).heap.size = w.heap.size ∧ w.grownBy (setBlock w b o) (some b) := fun o => by
    have := MapKept.heap_set (o' := o) hb
    exact ⟨this.1, by simp [setBlock], ⟨rfl, rfl, rfl, by simp [setBlock], fun j _ hj => this.2 j (fun e => hj (by rw [e]))⟩⟩
  have hsub2 : ∀ l, mdel l k = l.filter fun p => !decide (p.1 = k) := fun _ => rfl
  rcases KK.find w hkey es.toList hks with ⟨h1, h2⟩ | ⟨j, e0, h1, h2, h3⟩
  · have hno : ∀ p ∈ l, p.1 ≠ k := fun p hp e => by
      obtain ⟨j, hj⟩ := List.getElem?_of_mem hp
      obtain ⟨x, hx, e1, -⟩ := pair_get' he hj
      exact h2 x (List.mem_of_getElem? hx) (by rw [e1, e])
    refine ⟨setBlock w b (.map es n), ?_, ?_, (key _).2.1, (key _).2.2⟩
    · simp [Builtin.delete_, run_underlying hT, MapKept.run_getObj_map hb, KK.check w _ hkey, h1, MapKept.run_setObj_map _ hb, Result.andThen, setBlock]
    · rw [hsub2, List.filter_eq_self.2 (fun p hp => by simpa using hno p hp)]
      exact ⟨_, _, (key _).1, he, hs, hd⟩
  · obtain ⟨p, hp, e1, e2⟩ := pair_get he h2
    have hpk : p.1 = k := by rw [e1] at h3; injection h3
    have hjs : j < es.size := by simpa using (List.getElem?_eq_some_iff.1 h2).1
    have hsub : (es.eraseIdxIfInBounds j).toList = es.toList.eraseIdx j := by
      unfold Array.eraseIdxIfInBounds
      rw [dif_pos hjs]
      simp
    have hfil : l.filter (fun p => !decide (p.1 = k)) = l.eraseIdx j := by
      clear h1 h2 h3 he he' hb hks e1 e2 hsub hjs hsub2
      induction l generalizing j with
      | nil => simp at hp
      | cons x r ih =>
        obtain ⟨h4, h5⟩ := List.pairwise_cons.1 hd
        cases j with
        | zero =>
          simp at hp
          subst hp
          rw [List.filter_cons_of_neg (by simpa using hpk), List.eraseIdx_cons_zero]
          exact List.filter_eq_self.2 (fun q hq => by simpa [hpk] using fun e => h4 q hq (hpk.trans e.symm))
        | succ j =>
          have hp' : r[j]? = some p := by simpa using hp
          have hne : x.1 ≠ k := fun e => h4 p (List.mem_of_getElem? hp') (e.trans hpk.symm)
          rw [List.filter_cons_of_pos (by simpa using hne), List.eraseIdx_cons_succ, ih (fun q hq => hs q (List.mem_cons_of_mem _ hq)) h5 j hp']
    refine ⟨setBlock w b (.map (es.eraseIdxIfInBounds j) n), ?_, ?_, (key _).2.1, (key _).2.2⟩
    · simp [Builtin.delete_, run_underlying hT, MapKept.run_getObj_map hb, KK.check w _ hkey, h1, MapKept.run_setObj_map _ hb, Result.andThen, setBlock]
    · rw [hsub2]
      refine ⟨_, _, (key _).1, ?_, fun q hq => hs q (List.mem_filter.1 hq).1, hd.filter _⟩
      rw [hsub, hfil, ChangeMaps.map_eraseIdx, he, ChangeMaps.map_eraseIdx]
end
end Go.Proofs.Ytepigkjgjlibcaa
namespace Go.Proofs.Ytepigkjgjlibcaa
open Go.RowKit

theorem block_of_add (a : Addr) (n : Nat) : (a.add n).block = a.block := by unfold Addr.add; split <;> rfl
theorem add_of_add (a : Addr) (i j : Nat) : (a.add i).add j = a.add (i + j) := by
  unfold Addr.add
  by_cases hi : i = 0 <;> by_cases hj : j = 0 <;> simp [hi, hj, Nat.add_assoc]

def Reads (w : World) (B size : Nat) (A : Option Addr) (n : Nat) (xs : List Value) : Prop :=
  xs.length = n * size ∧ (0 < n → ∃ ad, A = some ad ∧ ad.block < B ∧ ∀ j u, xs[j]? = some u → w.cell? (ad.add j) = some u)

section
variable {w w' : World} {B B' size n : Nat} {A : Option Addr} {xs : List Value}
theorem Reads.none_ : Reads w B size A 0 [] := ⟨by simp, fun h => absurd h (by omega)⟩
theorem Reads.at_ {k : Nat} (h : Reads w B 1 A n xs) (hk : k < n) : ∃ ad u, A = some ad ∧ ad.block < B ∧ xs[k]? = some u ∧ w.cell? (ad.add k) = some u := by
  obtain ⟨ad, e, hb, hc⟩ := h.2 (by omega)
  have hl : k < xs.length := by have := h.1; omega
  exact ⟨ad, xs[k], e, hb, List.getElem?_eq_getElem hl, hc k _ (List.getElem?_eq_getElem hl)⟩
theorem Reads.keep (h : Reads w B size A n xs) (hk : ∀ p : Addr, p.block < B → w'.cell? p = w.cell? p) : Reads w' B size A n xs :=
  ⟨h.1, fun hn => by
    obtain ⟨ad, e, hb, hc⟩ := h.2 hn
    exact ⟨ad, e, hb, fun j u hu => (hk _ (by rw [block_of_add]; exact hb)).trans (hc j u hu)⟩⟩
theorem Reads.more (h : Reads w B size A n xs) (hB : B ≤ B') : Reads w B' size A n xs :=
  ⟨h.1, fun hn => by
    obtain ⟨ad, e, hb, hc⟩ := h.2 hn
    exact ⟨ad, e, by omega, hc⟩⟩
theorem Reads.below (h : Reads w B size A n xs) (hb : Below B w w') : Reads w' B size A n xs := h.keep fun _ hp => hb.cell hp
theorem Reads.drew (h : Reads w B size A n xs) : Reads w.drew B size A n xs := h
theorem Reads.drewN (h : Reads w B size A n xs) (k : Nat) : Reads (w.drewN k) B size A n xs := h
theorem Reads.alloc (h : Reads w B size A n xs) (hB : B ≤ w.heap.size) (o : Obj) : Reads (w.alloc o) B size A n xs := h.keep fun p hp => World.cell?_alloc_lt w o p (by omega)
theorem Reads.setCell (h : Reads w B size A n xs) {p : Addr} (hB : B ≤ p.block) (u : Value) : Reads (w.setCell p u) B size A n xs :=
  h.keep fun q hq => World.cell?_setCell_other w p q u (fun e => by subst e; omega)
theorem Reads.grown (h : Reads w B size A n xs) {row : Option Nat} (hg : w.grownBy w' row) (hB : B ≤ w.heap.size) (hr : ∀ g, row = some g → B ≤ g) : Reads w' B size A n xs :=
  h.keep fun p hp => World.cell?_of_block (hg.block p.block (by omega) (fun e => by have := hr _ e.symm; omega))
theorem Reads.cut (h : Reads w B size A n xs) {k cap : Nat} (hk : k ≤ n) (hc : n ≤ cap) :
    Reads w B size (if cap = k then A else A.map (·.add (k * size))) (n - k) (xs.drop (k * size)) := by
  refine ⟨by rw [List.length_drop, h.1, Nat.sub_mul], fun hn => ?_⟩
  obtain ⟨ad, rfl, hb, hcell⟩ := h.2 (by omega)
  rw [if_neg (by omega)]
  refine ⟨ad.add (k * size), rfl, by rw [block_of_add]; exact hb, fun j u hu => ?_⟩
  rw [add_of_add]
  exact hcell _ u (by rw [← hu, List.getElem?_drop])
theorem Reads.of_own {base : Nat} {e : TypeId} {c : Nat} (h : w.ownsRow base e size (.slice A n c) n xs) : Reads w w.heap.size size A n xs := by
  refine ⟨h.1, fun hn => ?_⟩
  obtain ⟨g, cap, hv, _, hlt⟩ := h.form hn
  have hA : A = some ⟨g, 0, none⟩ := by injection hv
  subst hA
  exact ⟨_, rfl, hlt, h.cells (g := g) rfl⟩
end
section
variable {P : Program} (w : World)

theorem run_append_of_nil (base : Nat) (t ty e : TypeId) (i : TypeInfo) (size : Nat) (ht : P.underlying t = some (.slice e)) (hi : P.info? e = some i)
    (v : Value) (n : Nat) (xs : List Value) (hown : w.ownsRow base e size v n xs) (c : Nat) : (Builtin.append_ #[t, t] ty #[v, .slice none 0 c]).run P w = .ok v w := by
  rcases hown.2 with ⟨rfl, rfl⟩ | ⟨g, cap, cur, rfl, _, _, hnc, _⟩
  · simp [Builtin.append_, run_underlying ht, sizeOf, typeInfo, hi, Builtin.lenOf, Builtin.firstCells]
  · simp [Builtin.append_, run_underlying ht, sizeOf, typeInfo, hi, Builtin.lenOf, Builtin.firstCells, hnc, storeCells]

theorem run_append_any (base : Nat) (t ty e : TypeId) (i : TypeInfo) (z : Value) (size bytes : Nat) (ht : P.underlying t = some (.slice e)) (hi : P.info? e = some i) (hz : i.zero = some z)
    (hsize : i.size = size) (hby : i.bytes = bytes) (hzs : z.cells.size = size) (hsz : 0 < size)
    (v : Value) (n : Nat) (xs : List Value) (hown : w.ownsRow base e size v n xs)
    (B : Nat) (A : Option Addr) (m c : Nat) (news : List Value) (hr : Reads w B size A m news) (h1 : ∀ u ∈ news, u.oneCell' = true)
    (h63 : n + m ≤ maxLen) (hbytes : (n + m) * bytes ≤ 140737488355328) (hbase : base ≤ w.heap.size) :
    ∃ v' w', (Builtin.append_ #[t, t] ty #[v, .slice A m c]).run P w = .ok v' w' ∧ w'.ownsRow base e size v' (n + m) (xs ++ news) ∧ w.grownBy w' v.ownBlock ∧
      (v'.ownBlock = v.ownBlock ∨ v'.ownBlock = some w.heap.size) := by
  rcases A with _ | ad
  · have hm : m = 0 := by
      rcases Nat.eq_zero_or_pos m with h0 | h0
      · exact h0
      · obtain ⟨ad, h, _⟩ := hr.2 h0
        cases h
    subst hm
    have hn : news = [] := List.eq_nil_of_length_eq_zero (by simpa using hr.1)
    subst hn
    exact ⟨v, w, run_append_of_nil w base t ty e i size ht hi v n xs hown c, by simpa using hown, World.grownBy.refl w _, .inl rfl⟩
  · have hcells : ∀ j u, news[j]? = some u → w.cell? (ad.add j) = some u := by
      intro j u hu
      rcases Nat.eq_zero_or_pos m with h0 | h0
      · subst h0
        have hn : news = [] := List.eq_nil_of_length_eq_zero (by simpa using hr.1)
        subst hn
        simp at hu
      · obtain ⟨ad', h, _, hc⟩ := hr.2 h0
        injection h with h
        subst h
        exact hc j u hu
    obtain ⟨v', w', hrun, h2, h3, _, h5⟩ := run_append_own_at (P := P) w base t ty e i z size bytes ht hi hz hsize hby hzs hsz v n xs hown ad m c news hr.1 hcells h1 h63 hbytes hbase
    exact ⟨v', w', hrun, h2, h3, h5⟩

theorem wp_append_any {o : Oper} {a : Act} {K : Act → World → Prop} {Q : Exit → Act → World → Prop} (s x : Operand) (t : TypeId)
    (ho : o.op = .call { callee := .builtin .append, args := #[s, x], argTypes := #[t, t] })
    (base : Nat) (e : TypeId) (i : TypeInfo) (z : Value) (size bytes : Nat) (ht : P.underlying t = some (.slice e)) (hi : P.info? e = some i) (hz : i.zero = some z)
    (hsize : i.size = size) (hby : i.bytes = bytes) (hzs : z.cells.size = size) (hsz : 0 < size)
    (v : Value) (n : Nat) (xs : List Value) (hs : a.eval s = v) (hown : w.ownsRow base e size v n xs)
    (B : Nat) (A : Option Addr) (m c : Nat) (news : List Value) (hx : a.eval x = .slice A m c) (hr : Reads w B size A m news) (h1 : ∀ u ∈ news, u.oneCell' = true)
    (h63 : n + m ≤ maxLen) (hbytes : (n + m) * bytes ≤ 140737488355328) (hbase : base ≤ w.heap.size)
    (h : ∀ v' w', w'.ownsRow base e size v' (n + m) (xs ++ news) → w.grownBy w' v.ownBlock → (v'.ownBlock = v.ownBlock ∨ v'.ownBlock = some w.heap.size) → K (a.put o.dst v') w') : o.wp P a w K Q := by
  obtain ⟨v', w', hrun, h2, h3, h4⟩ := run_append_any (P := P) w base t o.type e i z size bytes ht hi hz hsize hby hzs hsz v n xs hown B A m c news hr h1 h63 hbytes hbase
  unfold Oper.wp execOp
  simp only [ho, resolve, invoke, builtin, Sem.run_bind, Sem.run_pure, Result.andThen_ok, List.map_toArray, List.map_cons, List.map_nil, hs, hx, hrun]
  exact h v' w' h2 h3 h4

theorem wpList_append_any {ops : Array Oper} {rest : List Oper} {o : Oper} {a : Act} {Q : Exit → Act → World → Prop} (hgd : o.guard = none) (s x : Operand) (t : TypeId)
    (ho : o.op = .call { callee := .builtin .append, args := #[s, x], argTypes := #[t, t] })
    (base : Nat) (e : TypeId) (i : TypeInfo) (z : Value) (size bytes : Nat) (ht : P.underlying t = some (.slice e)) (hi : P.info? e = some i) (hz : i.zero = some z)
    (hsize : i.size = size) (hby : i.bytes = bytes) (hzs : z.cells.size = size) (hsz : 0 < size)
    (v : Value) (n : Nat) (xs : List Value) (hs : a.eval s = v) (hown : w.ownsRow base e size v n xs)
    (B : Nat) (A : Option Addr) (m c : Nat) (news : List Value) (hx : a.eval x = .slice A m c) (hr : Reads w B size A m news) (h1 : ∀ u ∈ news, u.oneCell' = true)
    (h63 : n + m ≤ maxLen) (hbytes : (n + m) * bytes ≤ 140737488355328) (hbase : base ≤ w.heap.size)
    (h : ∀ v' w', w'.ownsRow base e size v' (n + m) (xs ++ news) → w.grownBy w' v.ownBlock → (v'.ownBlock = v.ownBlock ∨ v'.ownBlock = some w.heap.size) → wpList P ops Q rest (a.put o.dst v') w') : wpList P ops Q (o :: rest) a w :=
  wpList_plain hgd fun _ hK => wp_append_any w s x t ho base e i z size bytes ht hi hz hsize hby hzs hsz v n xs hs hown B A m c news hx hr h1 h63 hbytes hbase fun v' w' h2 h3 h4 => hK _ _ (h v' w' h2 h3 h4)

theorem step_append_any {ops : Array Oper} {o : Oper} {a : Act} {K : Act → World → Prop} {Q : Exit → Act → World → Prop} {E : Prop} (hgd : o.guard = none) (s x : Operand) (t : TypeId)
    (ho : o.op = .call { callee := .builtin .append, args := #[s, x], argTypes := #[t, t] })
    (base : Nat) (e : TypeId) (i : TypeInfo) (z : Value) (size bytes : Nat) (ht : P.underlying t = some (.slice e)) (hi : P.info? e = some i) (hz : i.zero = some z)
    (hsize : i.size = size) (hby : i.bytes = bytes) (hzs : z.cells.size = size) (hsz : 0 < size)
    (v : Value) (n : Nat) (xs : List Value) (hs : a.eval s = v) (hown : w.ownsRow base e size v n xs)
    (B : Nat) (A : Option Addr) (m c : Nat) (news : List Value) (hx : a.eval x = .slice A m c) (hr : Reads w B size A m news) (h1 : ∀ u ∈ news, u.oneCell' = true)
    (h63 : n + m ≤ maxLen) (hbytes : (n + m) * bytes ≤ 140737488355328) (hbase : base ≤ w.heap.size)
    (h : ∀ v' w', w'.ownsRow base e size v' (n + m) (xs ++ news) → w.grownBy w' v.ownBlock → (v'.ownBlock = v.ownBlock ∨ v'.ownBlock = some w.heap.size) → K (a.put o.dst v') w') :
    if Region.wanted o (yielded ops a.tmps) = true then Oper.wp P o a w K Q else E := by
  have hw : Region.wanted o (yielded ops a.tmps) = true := by simp [Region.wanted, hgd]
  rw [if_pos hw]
  exact wp_append_any w s x t ho base e i z size bytes ht hi hz hsize hby hzs hsz v n xs hs hown B A m c news hx hr h1 h63 hbytes hbase h
end
end Go.Proofs.Ytepigkjgjlibcaa
namespace Go.Proofs.Ytepigkjgjlibcaa.FL
abbrev Bs := List UInt8
/-! package record -/
def numF (n : Nat) : Bs := if h : n < 128 then [UInt8.ofNat n] else UInt8.ofNat (n % 128 + 128) :: numF (n / 128)
termination_by n
decreasing_by omega
/-- take: the number and the count of its bytes; 0 if the bytes end, -1 for a fault -/
def takeF (B : Nat) : Bs → Nat → Nat → Nat × Int
  | [], _, _ => (0, 0)
  | x :: r, i, acc =>
    let n := acc + x.toNat % 128 * 2 ^ (7 * i)
    if x.toNat < 128 then (if x.toNat = 0 ∧ 0 < i then (0, -1) else (n, i + 1)) else if i + 1 = B then (0, -1) else takeF B r (i + 1) n
/-- a cursor: what is left; none after an error -/
abbrev Cur := Option Bs
def uintF : Cur → Nat × Cur
  | none => (0, none)
  | some b => let t := takeF 9 b 0 0; if t.2 < 1 ∨ 4611686018427387904 < t.1 then (0, none) else (t.1, some (b.drop t.2.toNat))
def textF : Cur → Bs × Cur
  | c => match uintF c with
    | (_, none) => ([], none)
    | (n, some b) => if b.length < n then ([], none) else (b.take n, some (b.drop n))
def sumStep (x : Nat) : Nat := if x % 2 = 1 then Nat.xor (x / 2) 2197175160 else x / 2
def sumN : Nat → Nat → Nat
  | 0, x => x
  | k + 1, x => sumN k (sumStep x)
def sumByte (x : Nat) (c : UInt8) : Nat := sumN 8 (Nat.xor x c.toNat)
def sumF (b : Bs) : Nat := 4294967295 - b.foldl sumByte 4294967295
def be4 (s : Nat) : Bs := [UInt8.ofNat (s / 16777216), UInt8.ofNat (s / 65536), UInt8.ofNat (s / 256), UInt8.ofNat s]
def encF (kind number : Nat) (payload : Bs) : Bs :=
  let out := UInt8.ofNat kind :: numF number ++ (numF payload.length ++ payload)
  out ++ be4 (sumF out)
structure Rec where
  kind : Nat
  number : Nat
  payload : Bs
  size : Nat
/-- Decode: the record, or the code of the error -/
def decF (b : Bs) : Rec ⊕ Nat :=
  match b with
  | [] => .inr 30
  | x :: r =>
    if x.toNat < 1 ∨ 127 < x.toNat then .inr 12 else
    let t := takeF 6 r 0 0
    if t.2 = 0 then .inr 30 else if t.2 < 0 ∨ 1099511627776 < t.1 then .inr 12 else
    let at1 := 1 + t.2.toNat
    let u := takeF 3 (b.drop at1) 0 0
    if u.2 = 0 then .inr 30 else if u.2 < 0 ∨ 131072 < u.1 then .inr 12 else
    let at2 := at1 + u.2.toNat
    let en := at2 + u.1
    if b.length < en + 4 then .inr 30 else
    if (b.drop en).take 4 = be4 (sumF (b.take en)) then .inl ⟨x.toNat, t.1, (b.take en).drop at2, en + 4⟩ else .inr 12
end Go.Proofs.Ytepigkjgjlibcaa.FL
namespace Go.Proofs.Ytepigkjgjlibcaa
open Go.RowKit Go.Deep Go.Proofs.Ytepigkjgjlibcaa.FL
def by8 (l : Bs) : List Value := l.map fun b => .int .u8 b.toNat
@[simp] theorem by8_length (l : Bs) : (by8 l).length = l.length := by unfold by8; rw [List.length_map]
theorem by8_append (l m : Bs) : by8 (l ++ m) = by8 l ++ by8 m := by unfold by8; rw [List.map_append]
theorem by8_one {l : Bs} : ∀ u ∈ by8 l, u.oneCell' = true := by
  intro u hu
  obtain ⟨b, -, rfl⟩ := List.mem_map.1 hu
  rfl
theorem by8_get {l : Bs} {i : Nat} {u : Value} (h : (by8 l)[i]? = some u) : ∃ b, l[i]? = some b ∧ u = .int .u8 b.toNat := by
  unfold by8 at h
  rw [List.getElem?_map] at h
  obtain ⟨b, h1, h2⟩ := Option.map_eq_some_iff.1 h
  exact ⟨b, h1, h2.symm⟩
theorem u8_info23 : (Try.prog.info? 5).map (fun i => (i.zero, i.size, i.bytes)) = some (some (.int .u8 0), 1, 1) := by kernel_rfl
/-- a byte slice that is owned: its block is at B or above, and nobody else writes there -/
def OB (w : World) (B : Nat) (v : Value) (l : Bs) : Prop := w.ownsRow B 5 1 v l.length (by8 l)
/-- a byte slice that can be read: its block holds bytes -/
def BS (w : World) (v : Value) (l : Bs) : Prop := (v = .slice none 0 0 ∧ l = []) ∨
  ∃ g o cap, v = .slice (some ⟨g, o, none⟩) l.length cap ∧ l.length ≤ cap ∧ (∃ C fr, w.heap[g]? = some (.cells C 5 fr)) ∧ ∀ i u, (by8 l)[i]? = some u → w.cell? ⟨g, o + i, none⟩ = some u
theorem BS.kept {w w' : World} {v : Value} {l : Bs} (h : BS w v l) (hk : ∀ (g : Nat) (C : Array Value) (fr : Nat × Nat), w.heap[g]? = some (.cells C 5 fr) → w'.heap[g]? = w.heap[g]?) : BS w' v l := by
  rcases h with h | ⟨g, o, cap, e, hc, ⟨C, fr, hg⟩, hr⟩
  · exact .inl h
  · exact .inr ⟨g, o, cap, e, hc, ⟨C, fr, (hk g C fr hg).trans hg⟩, fun i u hu => (World.cell?_of_block (hk g C fr hg)).trans (hr i u hu)⟩
theorem BS.ext {w w' : World} {v : Value} {l : Bs} (h : BS w v l) (hx : Ext w w') : BS w' v l := h.kept fun g _ _ hg => Below.block hx g (Array.getElem?_eq_some_iff.1 hg).1
/-- no block of bytes is among F -/
def No8 (w : World) (F : Nat → Prop) : Prop := ∀ (g : Nat) (C : Array Value) (fr : Nat × Nat), w.heap[g]? = some (.cells C 5 fr) → ¬ F g
theorem BS.mod {F : Nat → Prop} {w w' : World} {v : Value} {l : Bs} (h : BS w v l) (hm : Mod F w w') (hF : No8 w F) : BS w' v l := h.kept fun g C fr hg => hm.block g (Array.getElem?_eq_some_iff.1 hg).1 (hF g C fr hg)
theorem BS.nil (w : World) : BS w (.slice none 0 0) [] := .inl ⟨rfl, rfl⟩
theorem OB.nil (w : World) (B : Nat) : OB w B (.slice none 0 0) [] := World.ownsRow_nil _ _ _ _
theorem OB.ext {w w' : World} {B : Nat} {v : Value} {l : Bs} (h : OB w B v l) (hx : Ext w w') : OB w' B v l := by
  refine ⟨h.1, h.2.imp id ?_⟩
  rintro ⟨g, cap, cur, e, h1, h2, h3⟩
  exact ⟨g, cap, cur, e, h1, (Below.block hx g (Array.getElem?_eq_some_iff.1 h2).1).trans h2, h3⟩
theorem OB.bs {w : World} {B : Nat} {v : Value} {l : Bs} (h : OB w B v l) : BS w v l := by
  rcases h.2 with ⟨e, hn⟩ | ⟨g, cap, cur, e, -, hg, hn, -, -, ht⟩
  · exact .inl ⟨e, List.eq_nil_of_length_eq_zero hn⟩
  · refine .inr ⟨g, 0, cap, e, hn, ⟨cur, _, hg⟩, fun i u hu => ?_⟩
    rw [Nat.zero_add]
    have hr : RowB w g 5 (by8 l) := ⟨cur, (0, 0), cur.toList.drop l.length, hg, fun j h1 h2 => by simp at h2, by
      rw [Nat.mul_one] at ht
      rw [← ht, List.take_append_drop]⟩
    exact hr.cell hu
theorem BS.slice {w : World} {v : Value} {l : Bs} (h : BS w v l) : ∃ A cap, v = .slice A l.length cap ∧ l.length ≤ cap ∧ (l ≠ [] → ∃ g o, A = some ⟨g, o, none⟩) := by
  rcases h with ⟨rfl, rfl⟩ | ⟨g, o, cap, rfl, hc, -, -⟩
  · exact ⟨none, 0, rfl, Nat.le_refl _, fun h => absurd rfl h⟩
  · exact ⟨_, cap, rfl, hc, fun _ => ⟨g, o, rfl⟩⟩
theorem BS.reads {w : World} {A : Option Addr} {n cap : Nat} {l : Bs} (h : BS w (.slice A n cap) l) : n = l.length ∧ Reads w w.heap.size 1 A n (by8 l) := by
  rcases h with ⟨e, rfl⟩ | ⟨g, o, cap', e, hc, ⟨C, fr, hg⟩, hr⟩
  · cases e
    exact ⟨rfl, Reads.none_⟩
  · cases e
    refine ⟨rfl, by rw [by8_length, Nat.mul_one], fun hn => ⟨_, rfl, (Array.getElem?_eq_some_iff.1 hg).1, fun j u hj => ?_⟩⟩
    have := hr j u hj
    rwa [show (⟨g, o, none⟩ : Addr).add j = ⟨g, o + j, none⟩ by unfold Addr.add; split <;> simp_all]
/-- append of bytes to an owned slice -/
theorem wpList_append_ob (w : World) {ops : Array Go.Oper} {rest : List Go.Oper} {o : Go.Oper} {a : Act} {Q : Exit → Act → World → Prop} (hgd : o.guard = none) (s x : Operand) (t : TypeId) (ht : Try.prog.underlying t = some (.slice 5))
    (ho : o.op = .call { callee := .builtin .append, args := #[s, x], argTypes := #[t, t] }) (B : Nat) (v : Value) (l : Bs) (hs : a.eval s = v) (hown : OB w B v l) (hB : B ≤ w.heap.size)
    (A : Option Addr) (n c : Nat) (m : Bs) (hx : a.eval x = .slice A n c) (hr : BS w (.slice A n c) m) (hz : l.length + m.length ≤ 140737488355328)
    (h : ∀ v' w', OB w' B v' (l ++ m) → w.grownBy w' v.ownBlock → (v'.ownBlock = v.ownBlock ∨ v'.ownBlock = some w.heap.size) → wpList Try.prog ops Q rest (a.put o.dst v') w') : wpList Try.prog ops Q (o :: rest) a w := by
  obtain ⟨i0, hi0, hz0, hz1, hz2⟩ := info_parts u8_info23
  obtain ⟨rfl, hrd⟩ := hr.reads
  refine wpList_append_any w hgd s x t ho B 5 i0 _ 1 1 ht hi0 hz0 hz1 hz2 rfl (by omega) v l.length (by8 l) hs hown _ A m.length c _ hx hrd by8_one (by simp only [maxLen]; omega) (by omega) hB ?_
  intro v' w' h1 h2 h3
  refine h v' w' ?_ h2 h3
  unfold OB
  rw [List.length_append, by8_append]
  exact h1
theorem OB.own_ge {w : World} {B : Nat} {v : Value} {l : Bs} (h : OB w B v l) : ∀ g, v.ownBlock = some g → B ≤ g := fun g hg => (World.ownsRow.lt h g hg).1
/-- the same, above the world at which the function was entered -/
theorem wpList_append_obx {w0 : World} (w : World) {ops : Array Go.Oper} {rest : List Go.Oper} {o : Go.Oper} {a : Act} {Q : Exit → Act → World → Prop} (hgd : o.guard = none) (s x : Operand) (t : TypeId) (ht : Try.prog.underlying t = some (.slice 5))
    (ho : o.op = .call { callee := .builtin .append, args := #[s, x], argTypes := #[t, t] }) (v : Value) (l : Bs) (hs : a.eval s = v) (hX : Ext w0 w) (hown : OB w w0.heap.size v l)
    (A : Option Addr) (n c : Nat) (m : Bs) (hx : a.eval x = .slice A n c) (hr : BS w (.slice A n c) m) (hz : l.length + m.length ≤ 140737488355328)
    (h : ∀ v' w', Hid (OB w' w0.heap.size v' (l ++ m)) → Hid (Ext w0 w') → Hid (w.grownBy w' v.ownBlock) → wpList Try.prog ops Q rest (a.put o.dst v') w') : wpList Try.prog ops Q (o :: rest) a w :=
  wpList_append_ob w hgd s x t ht ho w0.heap.size v l hs hown hX.size A n c m hx hr hz fun v' w' h1 h2 _ =>
    h v' w' (Lib.hid h1) (Lib.hid (Below.grown hX h2 hX.size hown.own_ge)) (Lib.hid h2)
theorem bs_laid (w : World) (l : Bs) : BS (w.alloc (.cells (by8 l).toArray 5)) (.slice (some ⟨w.heap.size, 0, none⟩) l.length l.length) l := by
  refine .inr ⟨w.heap.size, 0, l.length, rfl, Nat.le_refl _, ⟨_, _, heap_alloc_new w _⟩, fun i u hu => ?_⟩
  rw [Nat.zero_add]
  exact (row_laid w 5 (by8 l)).cell hu
theorem i64_or128 (x : Int) (h0 : 0 ≤ x) (h1 : x < 128) : bits .or .i64 x 128 = x + 128 := by
  obtain ⟨a, rfl⟩ := Int.eq_ofNat_of_zero_le h0
  have h := (bits_nat .i64 8 (by decide) (fun n h2 h3 => by rw [IntKind.wrap_i64]; omega) a 128 (by omega) (by decide)).2
  have e : (a ||| 128 : Nat) = a + 128 := by
    rw [Nat.or_comm]
    have := Nat.two_pow_add_eq_or_of_lt (i := 7) (b := a) (by omega) 1
    simp at this
    omega
  rw [e] at h
  exact_mod_cast h
theorem numF_small {n : Nat} (h : n < 128) : numF n = [UInt8.ofNat n] := by rw [numF, dif_pos h]
theorem numF_big {n : Nat} (h : ¬ n < 128) : numF n = UInt8.ofNat (n % 128 + 128) :: numF (n / 128) := by rw [numF, dif_neg h]
theorem len_small {c k : Nat} (hc : 1 ≤ c) (h : c * 128 ^ k ≤ 4611686018427387904) : k ≤ 8 := by
  rcases Nat.lt_or_ge k 9 with h9 | h9
  · omega
  · have h1 : 128 ^ 9 ≤ 128 ^ k := Nat.pow_le_pow_right (by decide) h9
    have h2 : 1 * 128 ^ k ≤ c * 128 ^ k := Nat.mul_le_mul_right _ hc
    have h3 : (128 : Nat) ^ 9 = 9223372036854775808 := by decide
    omega
set_option maxRecDepth 100000 in
theorem number_any (n : Nat) (hn : n ≤ 4611686018427387904) (w : World) :
    Calls Try.prog 77 #[.int .i64 n] w fun e w' => ∃ v, e = .returned v ∧ Ext w w' ∧ OB w' w.heap.size v (numF n) := by
  have HN := Lib.hid hn
  obtain ⟨N, hN⟩ : ∃ N, N = numF n := ⟨_, rfl⟩
  have HNN := Lib.hid hN
  rw [← hN]
  clear hN
  rcases Nat.eq_zero_or_pos n with rfl | hp
  · have HBS := Lib.hid (bs_laid w [0])
    have HBV := Lib.hid (show by8 [0] = [.int .u8 0] from rfl)
    go_enter Try.func77, Try.ntmps77
    go_wp2_with fail
    refine wp_loop_rounds 1 ?_
    rw [rounds_succ]
    go_wp2_with (at_builtin; refine wpList_append_obx (w0 := w) _ rfl (.tmp 18) (.tmp 21) 42 Try.underlying42 rfl (.slice none 0 0) [] rfl ((Ext.refl w).alloc _) (OB.nil _ _) _ 1 1 [0] rfl (by have h1 := HBS.out; rw [HBV.out] at h1; exact h1) (by simp) ?_; intro v2 w2 HO2 HX2 _)
    go_ret
    refine ⟨_, rfl, HX2.out, ?_⟩
    have h1 := HO2.out
    rw [HNN.out, numF_small (by omega)]
    exact h1
  · have HP1 := Lib.hid hp
    have hpi : (0 : Int) < (n : Int) := by omega
    have hmi : (n : Int) ≤ 4611686018427387904 := by omega
    clear hp hn
    go_enter Try.func77, Try.ntmps77
    go_wp2_with fail
    clear hpi hmi
    go_loopw [0, 3] (fun x v wr => ∃ (c : Nat) (pre : Bs), x = .int .i64 c ∧ c ≤ 4611686018427387904 ∧ OB wr w.heap.size v pre ∧ Ext w wr ∧ Hid (pre ++ numF c = N ∧ 1 ≤ c ∧ c * 128 ^ pre.length ≤ 4611686018427387904)) (fun x _ _ => (intOf x).toNat)
    case atStart => exact ⟨n, [], rfl, HN.out, OB.nil _ _, Ext.refl _, Lib.hid ⟨by rw [List.nil_append]; exact HNN.out.symm, by have := HN.out; have := HP1.out; simp; omega⟩⟩
    case round =>
      obtain ⟨c, pre, rfl, hc, hO, hX, hP⟩ := hrel
      have HO := Lib.hid hO
      have HX := Lib.hid hX
      clear hO hX
      by_cases hlt : c < 128
      · have hci : (c : Int) < 128 := by omega
        have hnm : (c : Int) % 256 = (c : Int) := by omega
        have HBS := Lib.hid (bs_laid wr [UInt8.ofNat c])
        have hnc : (UInt8.ofNat c).toNat = c := by simp; omega
        have HBV := Lib.hid (show by8 [UInt8.ofNat c] = [.int .u8 (c : Int)] by unfold by8; rw [List.map_cons, List.map_nil, hnc])
        clear hnc
        go_wp2_with (at_builtin; refine wpList_append_obx (w0 := w) _ rfl (.tmp 18) (.tmp 21) 42 Try.underlying42 rfl u3 pre rfl (HX.out.alloc _) (HO.out.ext ((Ext.refl wr).alloc _)) _ 1 1 [UInt8.ofNat c] rfl (by have h1 := HBS.out; rw [HBV.out] at h1; exact h1) (by have := len_small hP.out.2.1 hP.out.2.2; simp; omega) ?_; intro v2 w2 HO2 HX2 _)
        go_ret
        refine ⟨_, rfl, HX2.out, ?_⟩
        have h1 := HO2.out
        rw [← numF_small hlt, hP.out.1] at h1
        exact h1
      · have hci : (128 : Int) ≤ (c : Int) := by omega
        have hb1 := i64_and127 (c : Int)
        have hb2 := i64_or128 ((c : Int) % 128) (by omega) (by omega)
        have hnm : ((c : Int) % 128 + 128) % 256 = (c : Int) % 128 + 128 := by omega
        have HBS := Lib.hid (bs_laid wr [UInt8.ofNat (c % 128 + 128)])
        have hnc : (UInt8.ofNat (c % 128 + 128)).toNat = c % 128 + 128 := by simp; omega
        have HBV := Lib.hid (show by8 [UInt8.ofNat (c % 128 + 128)] = [.int .u8 ((c : Int) % 128 + 128)] by unfold by8; rw [List.map_cons, List.map_nil, hnc]; simp)
        clear hnc
        go_upto_region 4 with fail
        go_wp2_with (at_builtin; refine wpList_append_obx (w0 := w) _ rfl (.tmp 9) (.tmp 14) 42 Try.underlying42 rfl u3 pre rfl (HX.out.alloc _) (HO.out.ext ((Ext.refl wr).alloc _)) _ 1 1 [UInt8.ofNat (c % 128 + 128)] rfl (by have h1 := HBS.out; rw [HBV.out] at h1; exact h1) (by have := len_small hP.out.2.1 hP.out.2.2; simp; omega) ?_; intro v2 w2 HO2 HX2 _)
        go_roundw
        case rel => exact ⟨c / 128, _, by go_num, by omega, HO2.out, HX2.out, Lib.hid ⟨by rw [List.append_assoc, ← hP.out.1, numF_big hlt]; rfl, by omega, by
          have h1 := hP.out.2.2
          rw [List.length_append, List.length_singleton, Nat.pow_succ, Nat.mul_comm (128 ^ pre.length) 128, ← Nat.mul_assoc]
          exact Nat.le_trans (Nat.mul_le_mul_right _ (Nat.div_mul_le_self c 128)) h1⟩⟩
        case measure => simp [intOf]; omega
theorem numF_len_aux : ∀ (k n : Nat), n < 128 ^ (k + 1) → (numF n).length ≤ k + 1
  | 0, n, h => by
    rw [numF_small (by simpa using h)]
    simp
  | k + 1, n, h => by
    by_cases h1 : n < 128
    · rw [numF_small h1]
      simp
    · rw [numF_big h1]
      have : n / 128 < 128 ^ (k + 1) := by
        rw [Nat.div_lt_iff_lt_mul (by decide), ← Nat.pow_succ]
        exact h
      have := numF_len_aux k _ this
      simp
      omega
theorem numF_len (n : Nat) (hn : n ≤ 4611686018427387904) : (numF n).length ≤ 9 := numF_len_aux 8 n (by
  have : (128 : Nat) ^ 9 = 9223372036854775808 := by decide
  omega)
theorem numF_pos (n : Nat) : 1 ≤ (numF n).length := by
  by_cases h1 : n < 128
  · rw [numF_small h1]; simp
  · rw [numF_big h1]; simp
end Go.Proofs.Ytepigkjgjlibcaa
