/- A row of cells at the head of a block: what is known of it, kept from world to world; '[]byte(s)' and 'string(b)' as laws of the walk. -/
import Derived.Test.YtfgjbbpkkbohhaaGreatKit
namespace Go.Proofs.YtfgjbbpkkbohhaaGreat
open Go.RowKit

/-- block g is a row that begins with the cells xs; none of its cells is frozen -/
def RowB (w : World) (g : Nat) (e : TypeId) (xs : List Value) : Prop :=
  ∃ C fr rest, w.heap[g]? = some (.cells C e fr) ∧ (∀ j, fr.1 ≤ j → j < fr.2 → C.size ≤ j) ∧ C.toList = xs ++ rest

theorem RowB.lt {w : World} {g : Nat} {e : TypeId} {xs : List Value} (h : RowB w g e xs) : g < w.heap.size := by
  obtain ⟨C, fr, rest, hg, _, _⟩ := h
  exact (Array.getElem?_eq_some_iff.1 hg).1
theorem RowB.cell {w : World} {g : Nat} {e : TypeId} {xs : List Value} (h : RowB w g e xs) {j : Nat} {v : Value} (hj : xs[j]? = some v) : w.cell? ⟨g, j, none⟩ = some v := by
  obtain ⟨C, fr, rest, hg, _, hc⟩ := h
  rw [cell_of_row w g j C e fr hg]
  have hlt := (List.getElem?_eq_some_iff.1 hj).1
  have : C.toList[j]? = some v := by rw [hc, List.getElem?_append_left hlt]; exact hj
  simpa using this
theorem RowB.frozen {w : World} {g : Nat} {e : TypeId} {xs : List Value} (h : RowB w g e xs) {j : Nat} (hj : j < xs.length) : w.frozen? ⟨g, j, none⟩ = false := by
  obtain ⟨C, fr, rest, hg, hf, hc⟩ := h
  have hsz : xs.length ≤ C.size := by
    have := congrArg List.length hc
    simp at this
    omega
  unfold World.frozen?
  rw [show (⟨g, j, none⟩ : Addr).block = g from rfl, hg]
  simp only [Bool.and_eq_false_imp, decide_eq_true_eq, decide_eq_false_iff_not]
  intro h1 h2
  have := hf j h1 h2
  omega
theorem RowB.kept {w w' : World} {g : Nat} {e : TypeId} {xs : List Value} (h : RowB w g e xs) (hb : w'.heap[g]? = w.heap[g]?) : RowB w' g e xs := by
  obtain ⟨C, fr, rest, hg, hf, hc⟩ := h
  exact ⟨C, fr, rest, hb.trans hg, hf, hc⟩
theorem RowB.below {B : Nat} {w w' : World} {g : Nat} {e : TypeId} {xs : List Value} (h : RowB w g e xs) (hb : Below B w w') (hg : g < B) : RowB w' g e xs := h.kept (hb.block g hg)
theorem RowB.ext {w w' : World} {g : Nat} {e : TypeId} {xs : List Value} (h : RowB w g e xs) (hb : Ext w w') : RowB w' g e xs := h.below hb h.lt
theorem RowB.set {w : World} {g : Nat} {e : TypeId} {xs : List Value} (h : RowB w g e xs) (j : Nat) (v : Value) (hj : j < xs.length) : RowB (w.setCell ⟨g, j, none⟩ v) g e (xs.set j v) := by
  obtain ⟨C, fr, rest, hg, hf, hc⟩ := h
  have hlt := (Array.getElem?_eq_some_iff.1 hg).1
  refine ⟨C.setIfInBounds j v, fr, rest, ?_, ?_, ?_⟩
  · simp [World.setCell, Array.getElem?_modify, hg]
  · intro k h1 h2; simpa using hf k h1 h2
  · rw [Array.toList_setIfInBounds, hc, List.set_append_left _ _ hj]

/-- '[]byte(s)': a new row that begins with the string's bytes -/
theorem wpList_bytes_of_string {P : Program} (w : World) {ops : Array Oper} {rest : List Oper} {o : Oper} {a : Act} {Q : Exit → Act → World → Prop}
    (hgd : o.guard = none) (src dst e : TypeId) (x : Operand) (ho : o.op = Op.convert src dst x) (hs : P.underlying src = some .string) (hd : P.underlying dst = some (.slice e)) (he : P.underlying e = some (.int .u8))
    (s : ByteArray) (hx : a.eval x = .string s)
    (hK : ∀ w' cap, Ext w w' → RowB w' w.heap.size e (s.data.toList.map fun b => Value.int .u8 b.toNat) → s.size ≤ cap → wpList P ops Q rest (a.put o.dst (.slice (some ⟨w.heap.size, 0, none⟩) s.size cap)) w') :
    wpList P ops Q (o :: rest) a w := by
  refine wpList_plain hgd fun K hK' => ?_
  have hrun := run_bytes_of_string (P := P) w src dst e s hs hd he
  unfold Oper.wp
  simp only [execOp, ho, hx, Sem.run_bind, hrun, Result.andThen]
  refine hK' _ _ (hK _ _ ((Ext.refl w).drew.trans (Ext.alloc (Ext.refl _) _)) ?_ ?_)
  · refine ⟨bytesRow s (grownCap w s.size 0 e), ((bytesRow s (grownCap w s.size 0 e)).size, (bytesRow s (grownCap w s.size 0 e)).size + 1), List.replicate (grownCap w s.size 0 e - s.size) (.int .u8 0), ?_, ?_, ?_⟩
    · show (w.heap.push _)[w.heap.size]? = _
      simp
    · intro j h1 _; exact h1
    · unfold bytesRow
      simp
  · exact grownCap_ge w s.size 0 e

/-- 'string(b)' of such a row -/
theorem RowB.toString {P : Program} {w : World} {g : Nat} {e : TypeId} {xs : List Int} (h : RowB w g e (xs.map (Value.int .u8))) {src dst : TypeId} (hs : P.underlying src = some (.slice e)) (he : P.underlying e = some (.int .u8)) (hd : P.underlying dst = some .string) (cap : Nat) :
    (convert src dst (.slice (some ⟨g, 0, none⟩) xs.length cap)).run P w = .ok (.string (strOfNums xs)) w := by
  refine run_convert_bytes_arg w src e hs he g 0 xs.length cap xs rfl (fun i hi => ?_) dst hd
  rw [Nat.zero_add]
  exact h.cell (by simp [List.getD, hi])
end Go.Proofs.YtfgjbbpkkbohhaaGreat
