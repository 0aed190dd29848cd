/- Worlds that grow, in which a new byte row may get the mark of a constant behind its last cell. And '[]byte(..)' in such a region. -/
import Derived.Test.YtfgjbbpkkbohhaaGreatWide
import Derived.Laws.IdiomStrings
namespace Go.Proofs.YtfgjbbpkkbohhaaGreat
open Go.RowKit
/-- w' is w with new blocks, and blocks from base on may have got a mark -/
structure Soft (base : Nat) (w w' : World) : Prop where
  mod : Mod (fun b => base ≤ b) w w'
  cells : ∀ (g : Nat) (C : Array Value) (e : TypeId) (fr : Nat × Nat), w.heap[g]? = some (.cells C e fr) → ∃ fr', w'.heap[g]? = some (.cells C e fr') ∧ (fr' = fr ∨ (fr.1 = fr.2 ∧ fr' = (C.size, C.size + 1)))
theorem soft_ext {base : Nat} {w w' : World} (h : Ext w w') : Soft base w w' :=
  ⟨Mod.of_ext _ h, fun g _ _ fr hg => ⟨fr, (Below.block h g (Array.getElem?_eq_some_iff.1 hg).1).trans hg, .inl rfl⟩⟩
theorem Soft.trans {base : Nat} {a b c : World} (h : Soft base a b) (k : Soft base b c) : Soft base a c := by
  refine ⟨h.mod.trans k.mod, fun g C e fr hg => ?_⟩
  obtain ⟨f1, h1, h2⟩ := h.cells g C e fr hg
  obtain ⟨f2, h3, h4⟩ := k.cells g C e f1 h1
  refine ⟨f2, h3, ?_⟩
  rcases h2 with rfl | ⟨h2, rfl⟩
  · exact h4
  · rcases h4 with rfl | ⟨h4, -⟩
    · exact .inr ⟨h2, rfl⟩
    · exact absurd h4 (by simp)
theorem grows_soft (base : Nat) : Grows (Soft base) := ⟨fun w => soft_ext (Ext.refl w), fun h k => h.trans k⟩
theorem Soft.ext {base : Nat} {w w' : World} (h : Soft base w w') (hb : base = w.heap.size) : Ext w w' := h.mod.ext fun _ hk => hb ▸ hk
theorem Soft.row {base : Nat} {w w' : World} (h : Soft base w w') {g : Nat} {e : TypeId} {xs : List Value} (hr : RowB w g e xs) : RowB w' g e xs := by
  obtain ⟨C, fr, rest, h1, h2, h3⟩ := hr
  obtain ⟨fr', k1, k2⟩ := h.cells g C e fr h1
  refine ⟨C, fr', rest, k1, ?_, h3⟩
  rcases k2 with rfl | ⟨-, rfl⟩
  · exact h2
  · intro j hj _
    exact hj
/-- a fresh byte row: no mark, or the mark behind its end -/
def Fresh8 (w : World) (g : Nat) (C : Array Value) (e : TypeId) : Prop := w.heap[g]? = some (.cells C e (0, 0)) ∨ w.heap[g]? = some (.cells C e (C.size, C.size + 1))
theorem Soft.fresh {base : Nat} {w w' : World} (h : Soft base w w') {g : Nat} {C : Array Value} {e : TypeId} (hf : Fresh8 w g C e) : Fresh8 w' g C e := by
  rcases hf with hf | hf
  · obtain ⟨fr', k1, k2⟩ := h.cells g C e _ hf
    rcases k2 with rfl | ⟨-, rfl⟩
    · exact .inl k1
    · exact .inr k1
  · obtain ⟨fr', k1, k2⟩ := h.cells g C e _ hf
    rcases k2 with rfl | ⟨k2, -⟩
    · exact .inr k1
    · exact absurd k2 (by simp)
theorem Fresh8.row {w : World} {g : Nat} {C : Array Value} {e : TypeId} (h : Fresh8 w g C e) : RowB w g e C.toList := by
  rcases h with h | h
  · exact ⟨C, _, [], h, fun j h1 h2 => by simp at h2, by simp⟩
  · exact ⟨C, _, [], h, fun j h1 h2 => h1, by simp⟩
theorem fresh_laid (w : World) (C : Array Value) (e : TypeId) : Fresh8 (w.alloc (.cells C e)) w.heap.size C e := .inl (by show (w.heap.push _)[w.heap.size]? = _; simp)
/-- '[]byte("abc")': the row of the constant gets its mark -/
theorem run_mark {P : Program} {base : Nat} {w : World} {g : Nat} {C : Array Value} {e : TypeId} (h : Fresh8 w g C e) (hb : base ≤ g) (t : TypeId) (n c : Nat) (ht : P.underlying t = some (.slice e)) (he : P.underlying e = some (.int .u8)) :
    ∃ w', (convert t t (.slice (some ⟨g, 0, none⟩) n c)).run P w = .ok (.slice (some ⟨g, 0, none⟩) n c) w' ∧ Soft base w w' ∧ Fresh8 w' g C e := by
  have hsh : w.shape? g = some (e, C.size) := by
    unfold World.shape?
    rcases h with h | h <;> rw [h]
  have hlt : g < w.heap.size := by rcases h with h | h <;> exact (Array.getElem?_eq_some_iff.1 h).1
  refine ⟨w.freeze ⟨g, C.size, none⟩ 1, ?_, ?_⟩
  · simp [convert, run_underlying ht, run_underlying he, markStringish, hsh]
    try rfl
  · have hg : (w.freeze ⟨g, C.size, none⟩ 1).heap[g]? = some (.cells C e (C.size, C.size + 1)) := by
      unfold World.freeze
      rw [if_neg (by decide)]
      simp only [Array.getElem?_modify]
      rcases h with h | h
      · rw [h]; simp
      · rw [h]; simp
    have ho : ∀ k, k ≠ g → (w.freeze ⟨g, C.size, none⟩ 1).heap[k]? = w.heap[k]? := by
      intro k hk
      unfold World.freeze
      rw [if_neg (by decide)]
      simp only [Array.getElem?_modify]
      rw [if_neg (fun e => hk e.symm)]
    have hz : (w.freeze ⟨g, C.size, none⟩ 1).heap.size = w.heap.size := by unfold World.freeze; rw [if_neg (by decide)]; simp
    refine ⟨⟨⟨?_, ?_, ?_, by rw [hz]; exact Nat.le_refl _, fun k hk hn => ho k (fun e => hn (e ▸ hb))⟩, fun k C' e' fr' hk => ?_⟩, .inr hg⟩
    · unfold World.freeze; rw [if_neg (by decide)]
    · unfold World.freeze; rw [if_neg (by decide)]
    · unfold World.freeze; rw [if_neg (by decide)]
    · rcases Nat.decEq k g with hkg | rfl
      · exact ⟨fr', (ho k hkg).trans hk, .inl rfl⟩
      · rcases h with h | h
        · rw [h] at hk; cases hk; exact ⟨_, hg, .inr ⟨rfl, rfl⟩⟩
        · rw [h] at hk; cases hk; exact ⟨_, hg, .inl rfl⟩
section
variable {P : Program} {ops : Array Oper} {md : Region.Mode} {R : World → World → Prop} {z : Nat} {Q : Exit → Act → World → Prop} {f : Nat} {seen : Array Bool} {a : Act} {w : World}
theorem wpX_bytes (hRE : ∀ a b, Ext a b → R a b) (i : Nat) {o : Oper} (hr : Region.ready md ops seen = [i]) (hiz : decide (i = z) = false) (hi : ops[i]? = some o) (hg : Region.wanted o (yielded ops a.tmps) = true)
    (src dst e : TypeId) (x : Operand) (ho : o.op = Op.convert src dst x) (hs : P.underlying src = some .string) (hd : P.underlying dst = some (.slice e)) (he : P.underlying e = some (.int .u8)) (s : ByteArray) (hx : a.eval x = .string s)
    (h : ∀ W, R w W → ∀ w' cap, Ext W w' → RowB w' W.heap.size e (s.data.toList.map fun b => Value.int .u8 b.toNat) → s.size ≤ cap → wpX P md ops R z Q f (seen.setIfInBounds i true) (a.put o.dst (.slice (some ⟨W.heap.size, 0, none⟩) s.size cap)) w') :
    wpX P md ops R z Q (f + 1) seen a w := by
  refine wpX_one i hr hiz hi hg fun W hW K hK => ?_
  have hrun := run_bytes_of_string (P := P) W src dst e s hs hd he
  unfold Oper.wp
  simp only [execOp, ho, hx, Sem.run_bind, hrun, Result.andThen]
  have hX : Ext W (W.drew.alloc (.cells (bytesRow s (grownCap W s.size 0 e)) e ((bytesRow s (grownCap W s.size 0 e)).size, (bytesRow s (grownCap W s.size 0 e)).size + 1))) := (Ext.refl W).drew.trans (Ext.alloc (Ext.refl _) _)
  refine hK _ _ (hRE _ _ hX) (h W hW _ _ hX ?_ (grownCap_ge W s.size 0 e))
  refine ⟨bytesRow s (grownCap W s.size 0 e), ((bytesRow s (grownCap W s.size 0 e)).size, (bytesRow s (grownCap W s.size 0 e)).size + 1), List.replicate (grownCap W s.size 0 e - s.size) (.int .u8 0), ?_, ?_, ?_⟩
  · show (W.heap.push _)[W.heap.size]? = _
    simp
  · intro j h1 _; exact h1
  · unfold bytesRow
    simp
end
end Go.Proofs.YtfgjbbpkkbohhaaGreat
