/- Regions that draw their order, whose head reads and calls functions that may make memory (but hand back plain values), and whose tail (a store, an append) comes last in one order alone: one walk in the order of the text serves all orders. A region that draws its order, whose first n operations all come before the others: they read and call functions that may make memory (but hand back plain values), in whatever order; then the others, of which nothing is asked. Regions that draw their order, in a class of worlds that no operation leaves: an operation that reads (the same value in every world of the class) may be taken first, whatever calls stand beside it. Two operations may come up in a region that draws its order. Chapter 20: Put of other bytes; Whole. Chapter 20: Text. Chapter 20: the reference's body in memory; ref20.New, ref20.Put. The built-ins max and min of two integers inside a region that draws its order. Chapter 20: ranges.Pieces. Chapter 20: Missing. Chapter 20: Read. -/
import Derived.Test.YtlhnejcjeoecaaaGreatDoorGAA
import Derived.StillTail
import Derived.LoopTactic
import Derived.Sort.WalkA
import Derived.Lib.MinMax
import Derived.Deep.RegionWith
namespace Go.Proofs.YtlhnejcjeoecaaaGreatDoor
open Go.RowKit

section
variable {P : Program} {ops : Array Oper} {md : Region.Mode} {C : World → Prop}

/-- f operations of the head come up, in whatever order; then L -/
def headQ (P : Program) (md : Region.Mode) (ops : Array Oper) (C : World → Prop) (n : Nat) (L : Array Bool → Act → Prop) : Nat → Array Bool → Act → Prop
  | 0, seen, a => L seen a
  | f + 1, seen, a => Region.ready md ops seen ≠ [] ∧ ∀ i ∈ Region.ready md ops seen, i < n ∧ qOp P ops C i (headQ P md ops C n L f (seen.setIfInBounds i true)) a

theorem any_of_headQ {n g : Nat} {L : Array Bool → Act → Prop} {Q : Exit → Act → World → Prop} (hL : ∀ seen a w, C w → L seen a → wpAny P md ops Q g seen a w) :
    ∀ (f : Nat) (seen : Array Bool) (a : Act) (w : World), C w → headQ P md ops C n L f seen a → wpAny P md ops Q (f + g) seen a w
  | 0, _, _, _, hw, h => by rw [Nat.zero_add]; exact hL _ _ _ hw h
  | f + 1, _, _, _, hw, h => by
    rw [Nat.add_right_comm]
    exact ⟨fun h0 => absurd h0 h.1, fun i hi => wpOp_of_qOp hw (fun a' w' hw' h' => any_of_headQ hL f _ a' w' hw' h') (h.2 i hi).2⟩

theorem headQ_first {n i : Nat} {oi : Oper} {v : Value} {L : Array Bool → Act → Prop} (hi : ops[i]? = some oi) (hsel : ∀ (j : Nat) (o : Oper) cs b, ops[j]? = some o → o.op ≠ .select cs b)
    (hs : Region.sinkB md ops n = true) (hc : Region.chainB md ops n = true) (hn : n < ops.size) (hin : i < n) (hdone : ∀ seen a, L seen a → ∀ j ∈ Region.ready md ops seen, n ≤ j) (f : Nat) :
    ∀ (seen : Array Bool) (a : Act), HeadInv md ops n seen →
      (∀ j oj, ops[j]? = some oj → j ≠ i → seen.getD j true = false → (∀ e ∈ oj.after, Region.binds md e = true → e.on ≠ i) → oi.apart ops oj = true) →
      i ∈ Region.ready md ops seen → YieldsIn P ops C oi v a →
      headQ P md ops C n L f (seen.setIfInBounds i true) (a.put oi.dst v) → headQ P md ops C n L (f + 1) seen a := by
  induction f with
  | zero =>
    intro seen a inv _ hr hy H
    refine ⟨fun h => by simp [h] at hr, fun j hj => ?_⟩
    have hjn : j < n := Nat.lt_of_not_le fun h => tail_waits hs hc hn inv _ i rfl hin (mem_ready.1 hr).1 j h hj
    refine ⟨hjn, ?_⟩
    rcases Nat.decEq j i with hji | rfl
    · exact absurd (hdone _ _ H j (ready_mono hj hji)) (by omega)
    · exact hy.qOp hi H
  | succ f ih =>
    intro seen a inv hfree hr hy H
    refine ⟨fun h => by simp [h] at hr, fun j hj => ?_⟩
    have hjn : j < n := Nat.lt_of_not_le fun h => tail_waits hs hc hn inv _ i rfl hin (mem_ready.1 hr).1 j h hj
    refine ⟨hjn, ?_⟩
    rcases Nat.decEq j i with hji | rfl
    · obtain ⟨hjun, oj, hoj, hall⟩ := mem_ready.1 hj
      have hno : ∀ e ∈ oj.after, Region.binds md e = true → e.on ≠ i := fun e he hb heq => by
        have h1 := hall e he hb
        rw [heq, getD_both (mem_ready.1 hr).1] at h1
        exact Bool.noConfusion h1
      have hq := qOp_put hoj (hfree j oj hoj hji hjun hno) (fun cs b => hsel i oi cs b hi) (fun cs b => hsel j oj cs b hoj) hy (H.2 j (ready_mono hj hji)).2
      refine qOp_mono (fun a' h3 => ih _ a' (inv.set hj hjn) (fun k ok hk hki hun hno' => hfree k ok hk hki ?_ hno') (ready_mono hr (Ne.symm hji)) h3.1 ?_) hq
      · rcases Nat.decEq j k with hjk | rfl
        · rwa [getD_set_ne true hjk] at hun
        · exact hjun
      · rw [Array.setIfInBounds_comm _ _ hji]
        exact h3.2
    · exact hy.qOp hi H

theorem headQ_lex {n g : Nat} {Lq : Act → Prop} (hsel : Region.noSelect ops = true) (hs : Region.sinkB md ops n = true) (hc : Region.chainB md ops n = true) (hn : n < ops.size) :
    ∀ (l : List Oper) (k : Nat) (seen : Array Bool) (a : Act), (∀ j, j < l.length → l[j]? = ops[k + j]?) → k + l.length = n → HeadInv md ops n seen →
    Region.lexHead md ops g l.length k seen = true → wpQuiet P ops C Lq l a →
    headQ P md ops C n (fun seen' a' => Region.seqB md ops g n seen' = true ∧ Lq a') l.length seen a
  | [], k, seen, a, _, hk, _, hB, h => by
    obtain rfl : k = n := hk
    exact ⟨hB, h⟩
  | o :: l, k, seen, a, hl, hk, inv, hB, h => by
    have h0 : ops[k]? = some o := by have := hl 0 (by simp); simpa using this.symm
    simp only [List.length_cons, Region.lexHead, Bool.and_eq_true] at hB
    obtain ⟨⟨hr, hf⟩, hB'⟩ := hB
    simp only [List.length_cons] at hk
    have hkn : k < n := by omega
    have hq : qOp P ops C k (wpQuiet P ops C Lq l) a := by unfold qOp; simp only [h0]; exact h
    obtain ⟨v, hy, hK⟩ := yieldsIn_of_qOp h0 hq
    have hr' : k ∈ Region.ready md ops seen := by simpa using hr
    refine headQ_first h0 (Region.noSelect_spec hsel) hs hc hn hkn (fun _ _ hL => seqB_ready hL.1) l.length seen a inv (Region.free_spec h0 hf) hr' hy ?_
    refine headQ_lex hsel hs hc hn l (k + 1) _ _ (fun j hj => ?_) (by omega) (inv.set hr' hkn) hB' hK
    have := hl (j + 1) (by simp; omega)
    simpa [Nat.add_assoc, Nat.add_comm 1 j] using this

theorem wp_region_tail {id : Nat} {Q : Exit → Act → World → Prop} {a : Act} {w : World} {l : List Oper} (n : Nat) (hm : P.follows .mixedOrders = true) (hB : Region.lexTailB .any l.toArray n = true) (hC : C w.drew)
    (h : wpQuiet P l.toArray C (fun a' => ∀ w', C w' → wpList P l.toArray Q (l.drop n) a' w') (l.take n) a) : (Code.region id l.toArray true).wp P Q a w := by
  simp only [Region.lexTailB, Bool.and_eq_true, decide_eq_true_eq] at hB
  obtain ⟨⟨⟨⟨hsel, hn⟩, hs⟩, hc⟩, hlex⟩ := hB
  have hn' : n < l.length := by simpa using hn
  have htl : (l.take n).length = n := by simp; omega
  have hdl : (l.drop n).length = l.toArray.size - n := by simp
  have inv0 : HeadInv .any l.toArray n (Array.replicate l.toArray.size false) :=
    ⟨by simp, fun j oj _ hl => by rw [getD_replicate_false] at hl; exact Bool.noConfusion hl, fun t _ ht => getD_in (by simpa using ht) (getD_replicate_false _ _)⟩
  have H := headQ_lex (md := .any) (g := l.toArray.size - n) hsel hs hc hn (l.take n) 0 _ a (fun j hj => by rw [htl] at hj; simp [hj]) (by simpa using htl) inv0 (by rw [htl]; exact hlex) h
  refine wp_region_any hm ?_
  have hr := any_of_headQ (Q := Q) (g := l.toArray.size - n) (fun seen a' w' hw' hL => by
    have := wpAny_of_seq (md := .any) (Q' := Q) (l.drop n) n seen a' w' (fun j => by simp [List.getElem?_drop]) (by rw [hdl]; exact hL.1) (hL.2 w' hw')
    rwa [hdl] at this) _ _ _ _ hC H
  rw [htl, show n + (l.toArray.size - n) = l.toArray.size by omega] at hr
  exact hr
end

/-- the same, in the class of the worlds that extend w -/
theorem wp_region_wd_tail {P : Program} {id : Nat} {Q : Exit → Act → World → Prop} {a : Act} {w : World} {l : List Oper} (n : Nat) (hm : P.follows .mixedOrders = true) (hB : Region.lexTailB .any l.toArray n = true)
    (h : wpQuiet P l.toArray (fun w' => ∃ m : Wd w, w' = m.val) (fun a' => ∀ w', (∃ m : Wd w, w' = m.val) → wpList P l.toArray Q (l.drop n) a' w') (l.take n) a) : (Code.region id l.toArray true).wp P Q a w :=
  wp_region_tail (C := fun w' => ∃ m : Wd w, w' = m.val) n hm hB ⟨⟨w.drew, (Ext.refl w).drew⟩, rfl⟩ h
end Go.Proofs.YtlhnejcjeoecaaaGreatDoor
namespace Go.Proofs.YtlhnejcjeoecaaaGreatDoor
open Go.RowKit

section
variable {P : Program} {ops : Array Oper} {md : Region.Mode} {C : World → Prop}

/-- operation n - 1 is behind all before it; each one from n on waits for it, or for one from n on that stands before it -/
def gateB (md : Region.Mode) (ops : Array Oper) (n : Nat) : Bool :=
  ((List.range (n - 1)).all fun i => (List.range n).any fun j => decide (i < j) && Region.waitsFor md ops j i) &&
  ((List.range ops.size).all fun t => decide (t < n) || Region.waitsFor md ops t (n - 1) || (List.range t).any fun j => decide (n ≤ j) && Region.waitsFor md ops t j)
def headB (md : Region.Mode) (ops : Array Oper) (S : Array Bool) : Nat → Nat → Array Bool → Bool
  | 0, _, seen => seen == S
  | f + 1, k, seen => (Region.ready md ops seen).contains k && Region.free md ops seen k && headB md ops S f (k + 1) (seen.setIfInBounds k true)
theorem gate_waits {n : Nat} {listed : Array Bool} (hg : gateB md ops n = true) (inv : HeadInv md ops n listed) :
    ∀ (d i : Nat), n - i = d → i < n → listed.getD i true = false → ∀ t, n ≤ t → t ∉ Region.ready md ops listed := by
  simp only [gateB, Bool.and_eq_true] at hg
  obtain ⟨hs, hc⟩ := hg
  intro d
  induction d using Nat.strongRecOn with
  | _ d ih =>
    intro i hd hi hun t ht hr
    by_cases hin : i = n - 1
    · obtain ⟨_, ot, hot, hall⟩ := mem_ready.1 hr
      have htlt : t < ops.size := (Array.getElem?_eq_some_iff.1 hot).1
      have h1 := List.all_eq_true.1 hc t (List.mem_range.2 htlt)
      simp only [Bool.or_eq_true, decide_eq_true_eq] at h1
      rcases h1 with (h1 | h1) | h1
      · omega
      · obtain ⟨o', ho', e, he, hb, hon⟩ := Region.waitsFor_spec h1
        have : o' = ot := Option.some.inj (ho'.symm.trans hot)
        subst this
        have h2 := hall e he hb
        rw [hon, ← hin, getD_both hun] at h2
        cases h2
      · obtain ⟨j, hj, h3⟩ := List.any_eq_true.1 h1
        simp only [Bool.and_eq_true, decide_eq_true_eq] at h3
        obtain ⟨o', ho', e, he, hb, hon⟩ := Region.waitsFor_spec h3.2
        have : o' = ot := Option.some.inj (ho'.symm.trans hot)
        subst this
        have h2 := hall e he hb
        rw [hon, getD_both (inv.tail j h3.1 (by have := List.mem_range.1 hj; omega))] at h2
        cases h2
    · have h1 := List.all_eq_true.1 hs i (List.mem_range.2 (by omega))
      obtain ⟨j, hj, h3⟩ := List.any_eq_true.1 h1
      simp only [Bool.and_eq_true, decide_eq_true_eq] at h3
      have hjn := List.mem_range.1 hj
      obtain ⟨o', ho', e, he, hb, hon⟩ := Region.waitsFor_spec h3.2
      have hjl : j < ops.size := (Array.getElem?_eq_some_iff.1 ho').1
      have hju : listed.getD j true = false := by
        cases hl : listed.getD j false with
        | false => exact getD_in (by rw [inv.size]; exact hjl) hl
        | true =>
          have h2 := inv.closed j o' ho' hl e he hb
          rw [hon, getD_both hun] at h2
          cases h2
      exact ih (n - j) (by omega) j rfl hjn hju t ht hr
theorem gateQ_first {n i : Nat} {oi : Oper} {v : Value} {L : Array Bool → Act → Prop} (hi : ops[i]? = some oi) (hsel : ∀ (j : Nat) (o : Oper) cs b, ops[j]? = some o → o.op ≠ .select cs b)
    (hg : gateB md ops n = true) (hin : i < n) (hdone : ∀ seen a, L seen a → ∀ j ∈ Region.ready md ops seen, n ≤ j) (f : Nat) :
    ∀ (seen : Array Bool) (a : Act), HeadInv md ops n seen →
      (∀ j oj, ops[j]? = some oj → j ≠ i → seen.getD j true = false → (∀ e ∈ oj.after, Region.binds md e = true → e.on ≠ i) → oi.apart ops oj = true) →
      i ∈ Region.ready md ops seen → YieldsIn P ops C oi v a →
      headQ P md ops C n L f (seen.setIfInBounds i true) (a.put oi.dst v) → headQ P md ops C n L (f + 1) seen a := by
  induction f with
  | zero =>
    intro seen a inv _ hr hy H
    refine ⟨fun h => by simp [h] at hr, fun j hj => ?_⟩
    have hjn : j < n := Nat.lt_of_not_le fun h => gate_waits hg inv _ i rfl hin (mem_ready.1 hr).1 j h hj
    refine ⟨hjn, ?_⟩
    rcases Nat.decEq j i with hji | rfl
    · exact absurd (hdone _ _ H j (ready_mono hj hji)) (by omega)
    · exact hy.qOp hi H
  | succ f ih =>
    intro seen a inv hfree hr hy H
    refine ⟨fun h => by simp [h] at hr, fun j hj => ?_⟩
    have hjn : j < n := Nat.lt_of_not_le fun h => gate_waits hg inv _ i rfl hin (mem_ready.1 hr).1 j h hj
    refine ⟨hjn, ?_⟩
    rcases Nat.decEq j i with hji | rfl
    · obtain ⟨hjun, oj, hoj, hall⟩ := mem_ready.1 hj
      have hno : ∀ e ∈ oj.after, Region.binds md e = true → e.on ≠ i := fun e he hb heq => by
        have h1 := hall e he hb
        rw [heq, getD_both (mem_ready.1 hr).1] at h1
        exact Bool.noConfusion h1
      have hq := qOp_put hoj (hfree j oj hoj hji hjun hno) (fun cs b => hsel i oi cs b hi) (fun cs b => hsel j oj cs b hoj) hy (H.2 j (ready_mono hj hji)).2
      refine qOp_mono (fun a' h3 => ih _ a' (inv.set hj hjn) (fun k ok hk hki hun hno' => hfree k ok hk hki ?_ hno') (ready_mono hr (Ne.symm hji)) h3.1 ?_) hq
      · rcases Nat.decEq j k with hjk | rfl
        · rwa [getD_set_ne true hjk] at hun
        · exact hjun
      · rw [Array.setIfInBounds_comm _ _ hji]
        exact h3.2
    · exact hy.qOp hi H
theorem gateQ_lex {n : Nat} {S : Array Bool} {Lq : Act → Prop} (hsel : Region.noSelect ops = true) (hg : gateB md ops n = true) (hS : (Region.ready md ops S).all (fun j => decide (n ≤ j)) = true) :
    ∀ (l : List Oper) (k : Nat) (seen : Array Bool) (a : Act), (∀ j, j < l.length → l[j]? = ops[k + j]?) → k + l.length = n → HeadInv md ops n seen →
    headB md ops S l.length k seen = true → wpQuiet P ops C Lq l a →
    headQ P md ops C n (fun seen' a' => seen' = S ∧ Lq a') l.length seen a
  | [], k, seen, a, _, _, _, hB, h => ⟨eq_of_beq hB, h⟩
  | o :: l, k, seen, a, hl, hk, inv, hB, h => by
    have h0 : ops[k]? = some o := by have := hl 0 (by simp); simpa using this.symm
    simp only [List.length_cons, headB, Bool.and_eq_true] at hB
    obtain ⟨⟨hr, hf⟩, hB'⟩ := hB
    simp only [List.length_cons] at hk
    have hkn : k < n := by omega
    have hq : qOp P ops C k (wpQuiet P ops C Lq l) a := by unfold qOp; simp only [h0]; exact h
    obtain ⟨v, hy, hK⟩ := yieldsIn_of_qOp h0 hq
    have hr' : k ∈ Region.ready md ops seen := by simpa using hr
    refine gateQ_first h0 (Region.noSelect_spec hsel) hg hkn (fun _ _ hL j hj => ?_) l.length seen a inv (Region.free_spec h0 hf) hr' hy ?_
    · rw [hL.1] at hj
      simpa using List.all_eq_true.1 hS j hj
    refine gateQ_lex hsel hg hS l (k + 1) _ _ (fun j hj => ?_) (by omega) (inv.set hr' hkn) hB' hK
    have := hl (j + 1) (by simp; omega)
    simpa [Nat.add_assoc, Nat.add_comm 1 j] using this
/-- the first n operations read; then what is left to draw -/
theorem wp_region_head {id : Nat} {Q : Exit → Act → World → Prop} {a : Act} {w : World} {l : List Oper} (n g : Nat) (S : Array Bool) (hm : P.follows .mixedOrders = true) (hlen : l.length = n + g) (hsel : Region.noSelect l.toArray = true)
    (hg : gateB .any l.toArray n = true) (hS : (Region.ready .any l.toArray S).all (fun j => decide (n ≤ j)) = true) (hB : headB .any l.toArray S n 0 (Array.replicate l.length false) = true) (hC : C w.drew)
    (h : wpQuiet P l.toArray C (fun a' => ∀ w', C w' → wpAny P .any l.toArray Q g S a' w') (l.take n) a) : (Code.region id l.toArray true).wp P Q a w := by
  have htl : (l.take n).length = n := by simp; omega
  have inv0 : HeadInv .any l.toArray n (Array.replicate l.toArray.size false) :=
    ⟨by simp, fun j oj _ hl => by rw [getD_replicate_false] at hl; exact Bool.noConfusion hl, fun t _ ht => getD_in (by simpa using ht) (getD_replicate_false _ _)⟩
  have H := gateQ_lex (md := .any) hsel hg hS (l.take n) 0 (Array.replicate l.toArray.size false) a (fun j hj => by rw [htl] at hj; simp [hj]) (by simpa using htl) inv0 (by rw [htl]; simpa using hB) h
  refine wp_region_any hm ?_
  have hr := any_of_headQ (Q := Q) (g := g) (fun seen a' w' hw' hL => by rw [hL.1]; exact hL.2 w' hw') _ _ _ _ hC H
  rw [htl, ← hlen] at hr
  simpa using hr
theorem wp_region_wd_head {P : Program} {id : Nat} {Q : Exit → Act → World → Prop} {a : Act} {w : World} {l : List Oper} (n g : Nat) (S : Array Bool) (hm : P.follows .mixedOrders = true) (hlen : l.length = n + g) (hsel : Region.noSelect l.toArray = true)
    (hg : gateB .any l.toArray n = true) (hS : (Region.ready .any l.toArray S).all (fun j => decide (n ≤ j)) = true) (hB : headB .any l.toArray S n 0 (Array.replicate l.length false) = true)
    (h : wpQuiet P l.toArray (fun w' => ∃ m : Wd w, w' = m.val) (fun a' => ∀ w', (∃ m : Wd w, w' = m.val) → wpAny P .any l.toArray Q g S a' w') (l.take n) a) : (Code.region id l.toArray true).wp P Q a w :=
  wp_region_head (C := fun w' => ∃ m : Wd w, w' = m.val) n g S hm hlen hsel hg hS hB ⟨⟨w.drew, (Ext.refl w).drew⟩, rfl⟩ h
/-- what is left only reads, and calls functions that may make memory -/
theorem wpAny_wd {fuel : Nat} {listed : Array Bool} {a : Act} {w : World} {Q' : Exit → Act → World → Prop} (h : wpAnyQ P md ops (fun w' => ∃ m : Wd w, w' = m.val) (fun a' => ∀ w', (∃ m : Wd w, w' = m.val) → Q' .normal a' w') fuel listed a) : wpAny P md ops Q' fuel listed a w :=
  wpAny_of_quiet (fun _ _ hw hq => hq _ hw) _ _ _ _ ⟨⟨w, Ext.refl _⟩, rfl⟩ h
end
end Go.Proofs.YtlhnejcjeoecaaaGreatDoor
namespace Go.Proofs.YtlhnejcjeoecaaaGreatDoor
open Go.RowKit

section
variable {P : Program} {ops : Array Oper} {md : Region.Mode} {C : World → Prop} {Q : Exit → Act → World → Prop}

/-- the operation reads v in every world of the class -/
def ReadsC (P : Program) (ops : Array Oper) (C : World → Prop) (o : Oper) (v : Value) (a : Act) : Prop :=
  (Region.wanted o (yielded ops a.tmps) = true ∧ ∀ w, C w → (execOp a.eval o).run P w = .ok (.value v) w) ∨
  (Region.wanted o (yielded ops a.tmps) = false ∧ v = undef)
theorem ReadsC.step {i : Nat} {o : Oper} {v : Value} {a : Act} (hi : ops[i]? = some o) (hy : ReadsC P ops C o v a) {K : Act → World → Prop} {w : World} (hw : C w) (h : K (a.put o.dst v) w) : wpOp P ops Q i K a w := by
  unfold wpOp
  rcases hy with ⟨h1, h2⟩ | ⟨h1, rfl⟩
  · simp only [hi, h1, if_true, Oper.wp, h2 w hw, Oper.upon]
    exact .inl h
  · simp only [hi, h1, Bool.false_eq_true, if_false]
    exact h
theorem ReadsC.same {o : Oper} {v : Value} {a a' : Act} (hy : ReadsC P ops C o v a) (he : execOp a'.eval o = execOp a.eval o) (hw : Region.wanted o (yielded ops a'.tmps) = Region.wanted o (yielded ops a.tmps)) : ReadsC P ops C o v a' := by
  unfold ReadsC
  rw [he, hw]
  exact hy
/-- the reading operation goes past another one -/
theorem ReadsC.past {j : Nat} {oi oj : Oper} {v : Value} (hj : ops[j]? = some oj) (hap : oi.apart ops oj = true) (hsi : ∀ cs b, oi.op ≠ .select cs b) (hsj : ∀ cs b, oj.op ≠ .select cs b)
    (hQ : ∀ c a w, Q (.panic c) (a.put oi.dst v) w → Q (.panic c) a w) {K : Act → World → Prop} {a : Act} {w : World} (hy : ReadsC P ops C oi v a) (h : wpOp P ops Q j K (a.put oi.dst v) w) :
    wpOp P ops Q j (fun a' w' => ReadsC P ops C oi v a' ∧ K (a'.put oi.dst v) w') a w := by
  obtain ⟨h1, h2, h3⟩ := Oper.apart_spec hap
  have stay : ∀ (b : Act), ReadsC P ops C oi v b → ∀ u, ReadsC P ops C oi v (b.put oj.dst u) := fun b hb u => hb.same (execOp_put oi hsi b oj.dst u h3) (wanted_put oi b oj.dst u h3)
  have swap : ∀ (b : Act) (u : Value) (w' : World), K ((b.put oi.dst v).put oj.dst u) w' → K ((b.put oj.dst u).put oi.dst v) w' := fun b u w' hk => by rw [← Act.put_comm b v u h2]; exact hk
  unfold wpOp at h ⊢
  simp only [hj] at h ⊢
  rw [wanted_put oj a oi.dst v h1] at h
  by_cases hw : Region.wanted oj (yielded ops a.tmps) = true
  · simp only [hw, if_true] at h ⊢
    rcases h with h | ⟨hasks, hlets⟩
    · refine .inl ?_
      unfold Oper.wp at h ⊢
      rw [execOp_put oj hsj a oi.dst v h1] at h
      generalize (execOp a.eval oj).run P w = r at h ⊢
      cases r with
      | ok n w' =>
        cases n <;> simp only [Oper.upon] at h ⊢
        case value u => exact ⟨stay a hy u, swap a u w' h⟩
        case skip => exact ⟨stay a hy _, swap a undef w' h⟩
        case defer d =>
          have hd : ReadsC P ops C oi v { a with defers := d :: a.defers } := hy.same rfl rfl
          exact ⟨stay _ hd _, by rw [← Act.put_comm _ v undef h2, ← Act.put_defers]; exact h⟩
        case enter f args =>
          refine Calls.mono h fun e w'' he => ?_
          cases e with
          | returned u => exact ⟨stay a hy u, swap a u w'' he⟩
          | panicked c => exact hQ _ _ _ he
          | outgrown => exact he
        case row row args => exact Rows.mono h fun u w'' he => ⟨stay a hy u, swap a u w'' he⟩
      | halt x w' =>
        cases x <;> simp only [Oper.upon] at h ⊢
        case panic u => exact hQ _ _ _ h
    · exact .inr ⟨by unfold Oper.asks at hasks ⊢; rw [execOp_put oj hsj a oi.dst v h1] at hasks; exact hasks, hlets⟩
  · simp only [hw] at h ⊢
    exact ⟨stay a hy _, swap a undef w h⟩

/-- what is left to draw, no operation leaving the class -/
def wpAnyC (P : Program) (md : Region.Mode) (ops : Array Oper) (C : World → Prop) (Q : Exit → Act → World → Prop) : Nat → Array Bool → Act → World → Prop
  | 0, seen, a, w => Region.ready md ops seen = [] ∧ Q .normal a w
  | f + 1, seen, a, w => (Region.ready md ops seen = [] → Q .normal a w) ∧ ∀ i ∈ Region.ready md ops seen, wpOp P ops Q i (fun a' w' => C w' ∧ wpAnyC P md ops C Q f (seen.setIfInBounds i true) a' w') a w
theorem wpAnyC.any : ∀ {f : Nat} {seen : Array Bool} {a : Act} {w : World}, wpAnyC P md ops C Q f seen a w → wpAny P md ops Q f seen a w
  | 0, _, _, _, h => h
  | _ + 1, _, _, _, h => ⟨h.1, fun i hi => wpOp_mono (fun _ _ h2 => wpAnyC.any h2.2) (h.2 i hi)⟩
theorem wpAnyC_first {i : Nat} {oi : Oper} {v : Value} (hi : ops[i]? = some oi) (hsel : ∀ (j : Nat) (o : Oper) cs b, ops[j]? = some o → o.op ≠ .select cs b) (hQ : ∀ c a w, Q (.panic c) (a.put oi.dst v) w → Q (.panic c) a w) (f : Nat) :
    ∀ (seen : Array Bool) (a : Act) (w : World), C w →
      (∀ j oj, ops[j]? = some oj → j ≠ i → seen.getD j true = false → (∀ e ∈ oj.after, Region.binds md e = true → e.on ≠ i) → oi.apart ops oj = true) →
      i ∈ Region.ready md ops seen → ReadsC P ops C oi v a →
      wpAnyC P md ops C Q f (seen.setIfInBounds i true) (a.put oi.dst v) w → wpAnyC P md ops C Q (f + 1) seen a w := by
  induction f with
  | zero =>
    intro seen a w hw _ hr hy H
    refine ⟨fun h => absurd hr (by rw [h]; simp), fun j hj => ?_⟩
    rcases Nat.decEq j i with hji | rfl
    · have := ready_mono hj hji
      rw [H.1] at this
      cases this
    · exact hy.step hi hw ⟨hw, H⟩
  | succ f ih =>
    intro seen a w hw hfree hr hy H
    refine ⟨fun h => absurd hr (by rw [h]; simp), fun j hj => ?_⟩
    rcases Nat.decEq j i with hji | rfl
    · obtain ⟨hjun, oj, hoj, hall⟩ := mem_ready.1 hj
      have hno : ∀ e ∈ oj.after, Region.binds md e = true → e.on ≠ i := fun e he hb heq => by
        have h1 := hall e he hb
        rw [heq, getD_both (mem_ready.1 hr).1] at h1
        exact Bool.noConfusion h1
      refine wpOp_mono (fun a' w' h3 => ⟨h3.2.1, ih _ a' w' h3.2.1 (fun k ok hk hki hun hno' => hfree k ok hk hki ?_ hno') (ready_mono hr (Ne.symm hji)) h3.1 ?_⟩) (hy.past hoj (hfree j oj hoj hji hjun hno) (fun cs b => hsel i oi cs b hi) (fun cs b => hsel j oj cs b hoj) hQ (H.2 j (ready_mono hj hji)))
      · rcases Nat.decEq j k with hjk | rfl
        · rwa [getD_set_ne true hjk] at hun
        · exact hjun
      · rw [Array.setIfInBounds_comm _ _ hji]
        exact h3.2.2
    · exact hy.step hi hw ⟨hw, H⟩
/-- take a reading operation first -/
theorem wpAnyC_take {i : Nat} {oi : Oper} {v : Value} {f : Nat} {seen : Array Bool} {a : Act} {w : World} (hi : ops[i]? = some oi) (hs : Region.noSelect ops = true) (hf : Region.free md ops seen i = true) (hr : (Region.ready md ops seen).contains i = true)
    (hQ : ∀ c a w, Q (.panic c) (a.put oi.dst v) w → Q (.panic c) a w) (hw : C w) (hg : Region.wanted oi (yielded ops a.tmps) = true) (hy : ∀ w, C w → (execOp a.eval oi).run P w = .ok (.value v) w)
    (h : wpAnyC P md ops C Q f (seen.setIfInBounds i true) (a.put oi.dst v) w) : wpAnyC P md ops C Q (f + 1) seen a w :=
  wpAnyC_first hi (Region.noSelect_spec hs) hQ f seen a w hw (Region.free_spec hi hf) (by simpa using hr) (.inl ⟨hg, hy⟩) h
/-- only one operation may come up -/
theorem wpAnyC_one (i : Nat) {o : Oper} {f : Nat} {seen : Array Bool} {a : Act} {w : World} (hr : Region.ready md ops seen = [i]) (hi : ops[i]? = some o) (hg : Region.wanted o (yielded ops a.tmps) = true)
    (h : ∀ K : Act → World → Prop, (∀ a w, C w → wpAnyC P md ops C Q f (seen.setIfInBounds i true) a w → K a w) → Oper.wp P o a w K Q) : wpAnyC P md ops C Q (f + 1) seen a w := by
  refine ⟨fun h0 => (by rw [hr] at h0; cases h0), fun j hj => ?_⟩
  rw [hr, List.mem_singleton] at hj
  subst hj
  unfold wpOp
  simp only [hi, hg, if_true]
  exact .inl (h _ fun a w h1 h2 => ⟨h1, h2⟩)
theorem wpAnyC_quiet {f : Nat} {seen : Array Bool} {a : Act} {w : World} (hC : C w) (h : wpAnyQ P md ops C (fun a' => ∀ w', C w' → Q .normal a' w') f seen a) : wpAnyC P md ops C Q f seen a w := by
  have go : ∀ (f : Nat) (seen : Array Bool) (a : Act) (w : World), C w → wpAnyQ P md ops C (fun a' => ∀ w', C w' → Q .normal a' w') f seen a → wpAnyC P md ops C Q f seen a w := by
    intro f
    induction f with
    | zero => intro seen a w hw h; exact ⟨h.1, h.2 w hw⟩
    | succ f ih => intro seen a w hw h; exact ⟨fun h0 => h.1 h0 w hw, fun i hi => wpOp_of_qOp hw (fun a' w' hw' h2 => ⟨hw', ih _ a' w' hw' h2⟩) (h.2 i hi)⟩
  exact go f seen a w hC h
end
end Go.Proofs.YtlhnejcjeoecaaaGreatDoor
namespace Go.Proofs.YtlhnejcjeoecaaaGreatDoor
open Go.RowKit
section
variable {P : Program} {ops : Array Oper} {md : Region.Mode} {C : World → Prop} {Q : Exit → Act → World → Prop}
theorem wpAnyC_two (i j : Nat) {f : Nat} {seen : Array Bool} {a : Act} {w : World} (hr : Region.ready md ops seen = [i, j])
    (h1 : wpOp P ops Q i (fun a' w' => C w' ∧ wpAnyC P md ops C Q f (seen.setIfInBounds i true) a' w') a w)
    (h2 : wpOp P ops Q j (fun a' w' => C w' ∧ wpAnyC P md ops C Q f (seen.setIfInBounds j true) a' w') a w) : wpAnyC P md ops C Q (f + 1) seen a w := by
  refine ⟨fun h0 => (by rw [hr] at h0; cases h0), fun k hk => ?_⟩
  rw [hr] at hk
  simp only [List.mem_cons, List.not_mem_nil, or_false] at hk
  rcases hk with rfl | rfl
  · exact h1
  · exact h2
theorem wpOpC_of {i : Nat} {o : Oper} {f : Nat} {seen : Array Bool} {a : Act} {w : World} (hi : ops[i]? = some o) (hg : Region.wanted o (yielded ops a.tmps) = true)
    (h : ∀ K : Act → World → Prop, (∀ a w, C w → wpAnyC P md ops C Q f (seen.setIfInBounds i true) a w → K a w) → Oper.wp P o a w K Q) : wpOp P ops Q i (fun a' w' => C w' ∧ wpAnyC P md ops C Q f (seen.setIfInBounds i true) a' w') a w := by
  unfold wpOp
  simp only [hi, hg, if_true]
  exact .inl (h _ fun a w h1 h2 => ⟨h1, h2⟩)
theorem wp_region_C {id : Nat} {a : Act} {w : World} {l : List Oper} (hm : P.follows .mixedOrders = true) (h : wpAnyC P .any l.toArray C Q l.length (Array.replicate l.length false) a w.drew) : (Code.region id l.toArray true).wp P Q a w := by
  refine wp_region_any hm ?_
  have := wpAnyC.any h
  simpa using this
end
end Go.Proofs.YtlhnejcjeoecaaaGreatDoor
namespace Go.Proofs.YtlhnejcjeoecaaaGreatDoor.P20
open Go.RowKit Go.Deep Go.Sort

set_option maxRecDepth 100000 in
/-- a Put of a piece that is there with other bytes -/
theorem put_mixed {w : World} {B b l len : Nat} {A : Nat → Prop} {tag : ByteArray} {D : Nat → Option ByteArray} (h : BodyAt w B A b l tag len D) (hl : len ≤ 65536) (i : Nat) (hi : i < npc len) (g cap : Nat) (s t : ByteArray)
    (hs : BytesAt w g s) (hz : s.size = pto i len - i * 256) (hD : D i = some t) (hne : ¬ t = s) :
    Calls Tryz.prog 8 #[.pointer (some ⟨b, 0, none⟩), .int .i64 i, .slice (some ⟨g, 0, none⟩) s.size cap] w fun e w' => e = .returned (errV 20) ∧ w = w' := by
  have hn : npc len ≤ 256 := by unfold npc; omega
  have hi2 : i * 256 < len := by unfold npc at hi; omega
  have c1 := h.c1
  have c2 := h.c2
  obtain ⟨f, hf, hp⟩ := h.row
  have hc := hf.cell hi
  have hpi := hp i hi
  rw [hD] at hpi
  obtain ⟨gt, capt, ht1, -, -, -, -, ht⟩ := hpi
  rw [ht1] at hc
  have hs6 : s.size ≤ 256 := by rw [hz]; unfold pto; omega
  have key : ((len : Int) - (i : Int) * 256 < 256 ∧ (len : Int) - (i : Int) * 256 = (s.size : Int)) ∨ (¬ (len : Int) - (i : Int) * 256 < 256 ∧ (s.size : Int) = 256) := by
    rw [hz]; unfold pto; omega
  clear hz hp ht1
  have q1 : decide ((i : Int) < 0) = false := by simp
  have q2 : decide (npc len ≤ i) = false := by simp; omega
  go_enter Tryz.func8, Tryz.ntmps8
  rcases key with ⟨e1, e2⟩ | ⟨e1, e2⟩
  all_goals go_wp2_with (go_at_call 22; refine (equal_any _ gt g capt cap t s ht hs).mono ?_; rintro e w' ⟨rfl, rfl⟩)
  all_goals go_ret
  all_goals exact ⟨rfl, rfl⟩
end Go.Proofs.YtlhnejcjeoecaaaGreatDoor.P20
namespace Go.Proofs.YtlhnejcjeoecaaaGreatDoor.P20
open Go.RowKit Go.Deep Go.Sort

/-- the byte of a text at an offset -/
def txB (salt i : Nat) : Int := bits .xor .u8 (((i : Int) * 7 + (i : Int) / 256) % 256) salt
def txS (n salt : Nat) : ByteArray := strOfNums ((List.range n).map (txB salt))
end Go.Proofs.YtlhnejcjeoecaaaGreatDoor.P20
namespace Go.Proofs.YtlhnejcjeoecaaaGreatDoor.P20
open Go.RowKit Go.Deep Go.Sort

/-- the reference's body: its data at block d, its flags at block t -/
structure RefAt (w : World) (d t len : Nat) (D : Nat → Option ByteArray) : Prop where
  data : w.rowIs d 9 (npc len) (fun i => .string ((D i).getD ⟨#[]⟩))
  there : w.rowIs t 4 (npc len) (fun i => .bool (D i).isSome)
abbrev refV (tag : ByteArray) (len d t : Nat) : Value := .agg #[.string tag, .int .i64 len, .slice (some ⟨d, 0, none⟩) (npc len) (npc len), .slice (some ⟨t, 0, none⟩) (npc len) (npc len)]
theorem RefAt.ext {w w' : World} {d t len : Nat} {D : Nat → Option ByteArray} (h : RefAt w d t len D) (hx : Ext w w') : RefAt w' d t len D :=
  ⟨h.data.of_block (Below.block hx d h.data.lt), h.there.of_block (Below.block hx t h.there.lt)⟩
theorem RowB.laid (w : World) (e : TypeId) (xs : List Value) : RowB (w.alloc (.cells xs.toArray e)) w.heap.size e xs :=
  ⟨_, (0, 0), [], heap_alloc_new w _, fun j _ h => absurd h (by omega), by simp⟩
end Go.Proofs.YtlhnejcjeoecaaaGreatDoor.P20
namespace Go.Proofs.YtlhnejcjeoecaaaGreatDoor
open Go.RowKit

section
variable {P : Program} {ops : Array Oper} {rest : List Oper} {o : Oper} {C : World → Prop} {Q : Act → Prop} {a : Act}
theorem wpQuiet_max (hg : o.guard = none) (x y : Operand) (ts : Array TypeId) (ho : o.op = .call { callee := .builtin .max, args := #[x, y], argTypes := ts }) (k l : IntKind) (X Y : Int)
    (hx : a.eval x = .int k X) (hy : a.eval y = .int l Y) (h : wpQuiet P ops C Q rest (a.put o.dst (.int k (max X Y)))) : wpQuiet P ops C Q (o :: rest) a := by
  have hw : Region.wanted o (yielded ops a.tmps) = true := by simp [Region.wanted, hg]
  refine wpQuiet_step fun K hK => ?_
  rw [if_pos hw]
  refine ⟨_, fun w _ => ?_, hK _ h⟩
  unfold Oper.quietAt execOp
  simp only [ho, resolve, invoke, builtin, Sem.run_bind, Sem.run_pure, Result.andThen_ok, List.map_toArray, List.map_cons, List.map_nil, hx, hy, Lib.run_max_ints]
  exact ⟨rfl, rfl⟩
theorem wpQuiet_min (hg : o.guard = none) (x y : Operand) (ts : Array TypeId) (ho : o.op = .call { callee := .builtin .min, args := #[x, y], argTypes := ts }) (k l : IntKind) (X Y : Int)
    (hx : a.eval x = .int k X) (hy : a.eval y = .int l Y) (h : wpQuiet P ops C Q rest (a.put o.dst (.int k (min X Y)))) : wpQuiet P ops C Q (o :: rest) a := by
  have hw : Region.wanted o (yielded ops a.tmps) = true := by simp [Region.wanted, hg]
  refine wpQuiet_step fun K hK => ?_
  rw [if_pos hw]
  refine ⟨_, fun w _ => ?_, hK _ h⟩
  unfold Oper.quietAt execOp
  simp only [ho, resolve, invoke, builtin, Sem.run_bind, Sem.run_pure, Result.andThen_ok, List.map_toArray, List.map_cons, List.map_nil, hx, hy, Lib.run_min_ints]
  exact ⟨rfl, rfl⟩
end
end Go.Proofs.YtlhnejcjeoecaaaGreatDoor
namespace Go.Proofs.YtlhnejcjeoecaaaGreatDoor.P20
open Go.RowKit Go.Deep Go.Sort

/-- a slice of ints that a call has made -/
def IntsOwn (w : World) (B : Nat) (v : Value) (xs : List Nat) : Prop := w.ownsRow B 3 1 v xs.length (xs.map fun n : Nat => .int .i64 (n : Int))
theorem int_info : (Tryz.prog.info? 3).map (fun i => (i.zero, i.size, i.bytes)) = some (some (.int .i64 0), 1, 8) := by kernel_rfl
/-- the pieces of a range -/
def pcs (f t : Nat) : List Nat := if f < t then List.range' (f / 256) ((t + 255) / 256 - f / 256) else []
theorem own_base {w : World} {base : Nat} {e : TypeId} {size : Nat} {v : Value} {n : Nat} {xs : List Value} (h : w.ownsRow base e size v n xs) : ∀ g, v.ownBlock = some g → base ≤ g := by
  intro g hg
  rcases h.2 with ⟨rfl, _⟩ | ⟨g', cap, cur, rfl, hb, _⟩
  · simp [Value.ownBlock] at hg
  · have e : g' = g := by simpa [Value.ownBlock] using hg
    omega
/-- 'append(out, m)' of one int onto a slice of the call's own -/
theorem wpList_append_int (w : World) {ops : Array Oper} {rest : List Oper} {o : Oper} {a : Act} {Q : Exit → Act → World → Prop} (hg : o.guard = none) (s x : Operand)
    (ho : o.op = .call { callee := .builtin .append, args := #[s, x], argTypes := #[42, 42] }) (B : Nat) {v : Value} {xs : List Nat} (m : Nat) (u : Int) (hown : IntsOwn w B v xs) (hu : u = (m : Int)) (hs : a.eval s = v)
    (hx : a.eval x = .slice (some ⟨w.heap.size, 0, none⟩) 1 1) (hlen : xs.length ≤ 1000000000) (hB : B ≤ w.heap.size)
    (h : ∀ v' w', IntsOwn w' B v' (xs ++ [m]) → Below B w w' → wpList Tryz.prog ops Q rest (a.put o.dst v') w') : wpList Tryz.prog ops Q (o :: rest) a (w.alloc (.cells #[.int .i64 u] 3)) := by
  subst hu
  obtain ⟨i0, hi0, hz0, hz1, hz2⟩ := info_parts int_info
  refine wpList_append_own _ hg s x 42 ho B 3 i0 (.int .i64 0) 1 8 Tryz.underlying42 hi0 hz0 hz1 hz2 rfl (by decide) v xs.length _ hs (hown.alloc _) ⟨w.heap.size, 0, none⟩ 1 1 [.int .i64 (m : Int)] hx rfl ?_ ?_ ?_ ?_ ?_ ?_
  · intro j y hj
    match j, hj with
    | 0, hj => simp at hj; subst hj; simp [Addr.add]
  · intro y hy; simp at hy; subst hy; rfl
  · simp only [maxLen]; omega
  · omega
  · simp; omega
  · intro v' w1 hown' hgrow _
    refine h v' w1 ?_ ?_
    · unfold IntsOwn
      rw [List.length_append, List.map_append]
      exact hown'
    · exact Below.grown (Below.alloc (Below.refl _ _) hB _) hgrow (by simp; omega) (own_base hown)
theorem rclip_any (n : Nat) (hn : n ≤ 65536) (w : World) : Calls Tryz.prog 26 #[.int .i64 n] w fun e w' => e = .returned (.int .i64 n) ∧ w = w' := by
  have a1 : ¬ ((65536 : Int) < n) := by omega
  have a5 : ¬ ((n : Int) < 0) := by omega
  go_enter Tryz.func26, Tryz.ntmps26
  go_wp2_with fail
  all_goals go_ret
  all_goals exact ⟨ret_int (by omega), rfl⟩
set_option maxRecDepth 100000 in
set_option maxHeartbeats 4000000 in
theorem pieces_any (F T : Int) (len f t : Nat) (hl : len ≤ 65536) (hf : (f : Int) = max 0 F) (hF : F ≤ 9223372036854775807) (ht : t = (min T len).toNat) (w : World) :
    Calls Tryz.prog 11 #[rngV F T, .int .i64 len] w fun e w' => ∃ v, e = .returned v ∧ Ext w w' ∧ IntsOwn w' w.heap.size v (pcs f t) := by
  obtain ⟨i0, hi0, hz0, hz1, hz2⟩ := info_parts int_info
  have hfm : (f : Int) ≤ 9223372036854775807 := by omega
  have hm1 : max 0 F = (f : Int) := hf.symm
  clear hf
  have hm2 : (min T len : Int) ≤ 65536 := by omega
  obtain ⟨u, hu⟩ : ∃ u : Int, min T len = u := ⟨_, rfl⟩
  rw [hu] at hm2 ht
  have HU := Lib.hid (show (f : Int) < u ↔ f < t by omega)
  have HT := Lib.hid ht
  clear ht
  go_enter Tryz.func11, Tryz.ntmps11
  go_upto_region 1 with fail
  have c0 : ∀ n : Wd (w.alloc (.cells #[.int .i64 F, .int .i64 T] 27)), n.val.cell? ⟨w.heap.size, 0, none⟩ = some (.int .i64 F) := fun n => n.ext.cell (by simp)
  have c1 : ∀ n : Wd (w.alloc (.cells #[.int .i64 F, .int .i64 T] 27)), n.val.cell? ⟨w.heap.size, 1, none⟩ = some (.int .i64 T) := fun n => n.ext.cell (by simp)
  refine wp_region_wd (by kernel_rfl) (by kernel_rfl) ?_
  repeat (first | go_big_quiet_step ((go_at_call 26; exact Calls.wd_of_same (rclip_any _ hl _))) | (refine wpQuiet_max rfl _ _ _ rfl .i64 .i64 0 F rfl rfl ?_; rw [hm1]; simp only [Act.put, List.setIfInBounds_toArray, List.set_cons_succ, List.set_cons_zero]) | (refine wpQuiet_min rfl _ _ _ rfl .i64 .i64 T len rfl rfl ?_; rw [hu]; simp only [Act.put, List.setIfInBounds_toArray, List.set_cons_succ, List.set_cons_zero]))
  refine wpQuiet_nil ?_
  rintro _ ⟨nq, rfl⟩
  have X := nq.ext
  obtain ⟨q, hq⟩ : ∃ q, q = f / 256 := ⟨_, rfl⟩
  have hq1 : (f : Int) / 256 = (q : Int) := by omega
  have hq2 : (q : Int) ≤ 36028797018963967 := by omega
  have HQ := Lib.hid hq
  clear hF hm1 hfm hq
  all_goals go_wp2_with fail
  go_loopw [7, 8] (fun v i wr => ∃ k : Nat, k ≤ (pcs f t).length ∧ i = .int .i64 (q + k : Nat) ∧ IntsOwn wr w.heap.size v (List.range' q k) ∧ Ext w wr) (fun _ i _ => (pcs f t).length - ((intOf i).toNat - q))
  case atStart => exact ⟨0, by omega, rfl, World.ownsRow_nil _ _ _ _, ((Ext.refl w).alloc _).trans X⟩
  case round =>
    obtain ⟨k, hk, rfl, hown, hX⟩ := hrel
    by_cases hft : f < t
    · have hc : (pcs f t).length = (t + 255) / 256 - q := by unfold pcs; rw [if_pos hft, HQ.out]; simp
      have g1 : (f : Int) < u := HU.out.2 hft
      have hsz := hX.size
      by_cases hlt : k < (pcs f t).length
      · have g2 : ((q + k : Nat) : Int) * 256 < u := by have := HQ.out; have := HT.out; omega
        have g3 : q + k ≤ 256 := by have := HQ.out; have := HT.out; omega
        have HK := Lib.hid hlt
        clear hlt
        have HC := Lib.hid hc
        clear hc
        go_wp2_with (at_builtin; refine wpList_append_int wr rfl _ _ rfl w.heap.size (q + k) _ hown (by simp) rfl rfl (by simp; omega) hsz ?_)
        intro v' w1 hown' hb
        rw [show List.range' q k ++ [q + k] = List.range' q (k + 1) by rw [List.range'_concat]; simp] at hown'
        go_wp2_with fail
        go_roundw
        case rel => exact ⟨k + 1, HK.out, by go_num, hown', Below.trans hX hb⟩
        case measure => have := HK.out; simp [intOf]; omega
      · obtain rfl : k = (pcs f t).length := by omega
        have g2 : ¬ ((q + (pcs f t).length : Nat) : Int) * 256 < u := by have := HQ.out; have := HT.out; omega
        have hp : List.range' q (pcs f t).length = pcs f t := by
          rw [hc]; unfold pcs; rw [if_pos hft, HQ.out]
        rw [hp] at hown
        have g3 : q + (pcs f t).length ≤ 512 := by have := HQ.out; have := HT.out; omega
        clear hlt hk hp
        generalize (pcs f t).length = c at hc g2 g3
        have HC := Lib.hid hc
        clear hc
        go_wp2_with fail
        go_ret
        exact ⟨_, rfl, hX, hown⟩
    · have hc : pcs f t = [] := by unfold pcs; rw [if_neg hft]
      have g1 : ¬ (f : Int) < u := fun h => hft (HU.out.1 h)
      rw [hc] at hk
      obtain rfl : k = 0 := by simpa using hk
      rw [show List.range' q 0 = pcs f t from hc.symm] at hown
      clear hc
      go_wp2_with fail
      go_ret
      exact ⟨_, rfl, hX, hown⟩
end Go.Proofs.YtlhnejcjeoecaaaGreatDoor.P20
namespace Go.Proofs.YtlhnejcjeoecaaaGreatDoor.P20
open Go.RowKit Go.Deep Go.Sort

/-- those of a list of pieces that are not there -/
def gaps (D : Nat → Option ByteArray) (l : List Nat) : List Nat := l.filter fun i => !(D i).isSome
theorem IntsOwn.cell {w : World} {B : Nat} {v : Value} {xs : List Nat} (h : IntsOwn w B v xs) (i : Nat) (hi : i < xs.length) :
    ∃ g cap, v = .slice (some ⟨g, 0, none⟩) xs.length cap ∧ xs.length ≤ cap ∧ B ≤ g ∧ g < w.heap.size ∧ w.cell? ⟨g, i, none⟩ = some (.int .i64 ((xs[i]? ).getD 0 : Nat)) := by
  rcases h.2 with ⟨_, e⟩ | ⟨g, cap, cur, rfl, hb, hh, hl, hm, hc, ht⟩
  · omega
  · refine ⟨g, cap, rfl, hl, hb, (Array.getElem?_eq_some_iff.1 hh).1, ?_⟩
    rw [cell_of_row w g i cur _ _ hh]
    have h1 : (cur.toList.take (xs.length * 1))[i]? = some (Value.int .i64 (((xs[i]?).getD 0 : Nat) : Int)) := by
      rw [ht, List.getElem?_map, List.getElem?_eq_getElem hi]
      rfl
    rw [List.getElem?_take] at h1
    simpa [hi] using h1
theorem IntsOwn.shape {w : World} {B : Nat} {v : Value} {xs : List Nat} (h : IntsOwn w B v xs) : ∃ A cap, v = .slice A xs.length cap ∧ xs.length ≤ cap ∧ (A = none → xs.length = 0) := by
  rcases h.2 with ⟨rfl, e⟩ | ⟨g, cap, cur, rfl, hb, hh, hl, hm, hc, ht⟩
  · exact ⟨none, 0, by rw [e], by omega, fun _ => e⟩
  · exact ⟨_, cap, rfl, hl, fun e => by cases e⟩
theorem IntsOwn.more {w : World} {B B' : Nat} {v : Value} {xs : List Nat} (h : IntsOwn w B v xs) (hb : B' ≤ B) : IntsOwn w B' v xs := by
  refine ⟨h.1, ?_⟩
  rcases h.2 with ⟨rfl, e⟩ | ⟨g, cap, cur, rfl, hg, r⟩
  · exact .inl ⟨rfl, e⟩
  · exact .inr ⟨g, cap, cur, rfl, by omega, r⟩
theorem pcs_mem {f t len i : Nat} (ht : t ≤ len) (hi : i ∈ pcs f t) : i < npc len := by
  unfold pcs at hi
  split at hi
  · have h := (List.mem_range'_1.1 hi).2
    unfold npc
    omega
  · cases hi
theorem gaps_take (D : Nat → Option ByteArray) (l : List Nat) (k : Nat) (hk : k < l.length) : gaps D (l.take (k + 1)) = gaps D (l.take k) ++ (if (D ((l[k]?).getD 0)).isSome then [] else [(l[k]?).getD 0]) := by
  unfold gaps
  rw [List.take_add_one, List.filter_append, List.getElem?_eq_getElem hk]
  simp only [Option.getD_some]
  cases h : D l[k] <;> simp [h]
theorem gaps_length (D : Nat → Option ByteArray) (l : List Nat) : (gaps D l).length ≤ l.length := List.length_filter_le _ _
theorem pcs_length (f t : Nat) (h : t ≤ 65536) : (pcs f t).length ≤ 256 := by
  unfold pcs
  split
  · simp; omega
  · simp
set_option maxRecDepth 100000 in
set_option maxHeartbeats 4000000 in
theorem missing_any {w : World} {B b l len : Nat} {A : Nat → Prop} {tag : ByteArray} {D : Nat → Option ByteArray} (h : BodyAt w B A b l tag len D) (F T : Int) (f t : Nat) (hl : len ≤ 65536) (hf : (f : Int) = max 0 F) (hF : F ≤ 9223372036854775807) (ht : t = (min T len).toNat) :
    Calls Tryz.prog 14 #[.pointer (some ⟨b, 0, none⟩), rngV F T] w fun e w' => ∃ v, e = .returned v ∧ Ext w w' ∧ IntsOwn w' w.heap.size v (gaps D (pcs f t)) := by
  have c1 := h.c1
  have hb1 : (w.alloc (.cells #[.int .i64 F, .int .i64 T] 27)).drew.cell? ⟨b, 1, none⟩ = some (.int .i64 len) := (((Ext.refl w).alloc _).drew).cell c1
  have hb2 : (w.alloc (.cells #[.int .i64 F, .int .i64 T] 27)).cell? ⟨b, 1, none⟩ = some (.int .i64 len) := ((Ext.refl w).alloc _).cell c1
  have HP := Lib.hid (fun W => pieces_any F T len f t hl hf hF ht W)
  have HT := Lib.hid (show t ≤ len by omega)
  clear hf ht
  go_enter Tryz.func14, Tryz.ntmps14
  go_upto_region 4 with fail
  go_cut [15, 16, 17] (fun v n i wx => ∃ A1 cap1, v = .slice A1 (pcs f t).length cap1 ∧ n = .int .i64 (pcs f t).length ∧ i = .int .i64 0 ∧ (pcs f t).length ≤ cap1 ∧ IntsOwn wx w.heap.size (.slice A1 (pcs f t).length cap1) (pcs f t) ∧ Ext w wx)
  case first =>
    go_region_with (go_at_call 11; refine (HP.out _).mono ?_; rintro e w1 ⟨v1, rfl, hx, ho⟩; obtain ⟨A1, cap1, rfl, hcap1, -⟩ := ho.shape)
    all_goals go_wp2_with fail
    all_goals go_meet
    all_goals exact ⟨A1, cap1, rfl, rfl, rfl, hcap1, ho.more (by simp), (((Ext.refl w).alloc _).drew).trans hx⟩
  case rest =>
  obtain ⟨A1, cap1, rfl, rfl, rfl, hcap1, ho, X1⟩ := hcut
  clear hb1 hb2 HP
  have hBl := X1.size
  go_wp2_with fail
  go_loopw [5, 17] (fun v i wr => ∃ k : Nat, k ≤ (pcs f t).length ∧ i = .int .i64 k ∧ IntsOwn wr wc.heap.size v (gaps D ((pcs f t).take k)) ∧ Ext wc wr) (fun _ i _ => (pcs f t).length - (intOf i).toNat)
  case atStart => exact ⟨0, by omega, rfl, World.ownsRow_nil _ _ _ _, Ext.refl _⟩
  case round =>
    obtain ⟨k, hk, rfl, hown, hX⟩ := hrel
    by_cases hlt : k < (pcs f t).length
    · obtain ⟨g1, cp1, e1, e2, e3, e4, e5⟩ := ho.cell k hlt
      simp only [Value.slice.injEq, true_and] at e1
      obtain ⟨rfl, rfl⟩ := e1
      obtain ⟨i, hi⟩ : ∃ i, (pcs f t)[k]? = some i := ⟨_, List.getElem?_eq_getElem hlt⟩
      rw [hi] at e5
      simp only [Option.getD_some] at e5
      have hil : i < npc len := pcs_mem (by have := HT.out; omega) (List.mem_of_getElem? hi)
      have e6 : wr.cell? ⟨g1, k, none⟩ = some (.int .i64 (i : Nat)) := hX.cell e5
      have hg := gaps_take D (pcs f t) k hlt
      rw [hi, Option.getD_some] at hg
      have HR := Lib.hid (h.ext (X1.trans hX))
      have hsz := hX.size
      have hki : (k : Int) < ((pcs f t).length : Int) := by omega
      have HL := pcs_length f t (by have := HT.out; omega)
      have hk6 : k ≤ 256 := by omega
      have hln := Lib.hid (show (gaps D ((pcs f t).take k)).length ≤ 256 from Nat.le_trans (gaps_length D ((pcs f t).take k)) (by rw [List.length_take]; omega))
      clear HL
      cases hD : (D i).isSome with
      | true =>
        rw [hD, if_pos rfl, List.append_nil] at hg
        have HG := Lib.hid hg
        clear hg e5 e3 e4 hi
        go_wp2_with (go_at_call 27; refine (has_in HR.out hl i hil).mono ?_; rw [hD]; rintro e w' ⟨rfl, rfl⟩)
        go_roundw
        case rel => exact ⟨k + 1, by omega, by go_num, by rw [HG.out]; exact hown, hX⟩
        case measure => simp [intOf]; omega
      | false =>
        rw [hD, if_neg (by simp)] at hg
        have HG := Lib.hid hg
        clear hg e5 e3 e4 hi
        go_wp2_with (first | (go_at_call 27; refine (has_in HR.out hl i hil).mono ?_; rw [hD]; rintro e w' ⟨rfl, rfl⟩) | (at_builtin; refine wpList_append_int wr rfl _ _ rfl wc.heap.size i _ hown rfl rfl rfl (by have := hln.out; omega) hsz ?_))
        intro v' w1 hown' hb
        rw [← HG.out] at hown'
        go_wp2_with fail
        go_roundw
        case rel => exact ⟨k + 1, by omega, by go_num, hown', Below.trans hX hb⟩
        case measure => simp [intOf]; omega
    · obtain rfl : k = (pcs f t).length := by omega
      rw [List.take_length] at hown
      go_wp2_with fail
      go_ret
      exact ⟨_, rfl, X1.trans hX, hown.more hBl⟩
end Go.Proofs.YtlhnejcjeoecaaaGreatDoor.P20
namespace Go.Proofs.YtlhnejcjeoecaaaGreatDoor.P20
open Go.RowKit Go.Deep Go.Sort

/-- each piece that is there has its size -/
def PcOk (len : Nat) (D : Nat → Option ByteArray) : Prop := ∀ i, i < npc len → ∀ s, D i = some s → s.size = pto i len - i * 256
/-- the bytes of a range -/
def rdL (D : Nat → Option ByteArray) (f t : Nat) : List Int := (List.range' f (t - f)).map fun j => (byteIs ((D (j / 256)).getD ⟨#[]⟩)).getD (j % 256) 0
theorem rdL_length (D : Nat → Option ByteArray) (f t : Nat) : (rdL D f t).length = t - f := by simp [rdL]
def segL (s : ByteArray) (lo n : Nat) : List Int := (List.range n).map fun j => (byteIs s).getD (lo + j) 0
theorem segL_length (s : ByteArray) (lo n : Nat) : (segL s lo n).length = n := by simp [segL]
theorem rdL_step {D : Nat → Option ByteArray} {f k m q : Nat} {s : ByteArray} (h1 : q * 256 ≤ k) (h2 : k ≤ m) (h3 : m ≤ (q + 1) * 256) (hf : f ≤ k) (hD : D q = some s) : rdL D f m = rdL D f k ++ segL s (k - q * 256) (m - k) := by
  unfold rdL segL
  rw [show m - f = (k - f) + (m - k) by omega, ← List.range'_append_1, List.map_append]
  congr 1
  rw [show f + (k - f) = k by omega]
  apply List.ext_getElem
  · simp
  · intro j h4 h5
    simp only [List.length_map, List.length_range', List.length_range] at h4 h5
    simp only [List.getElem_map, List.getElem_range', List.getElem_range, Nat.one_mul]
    rw [show (k + j) / 256 = q by omega, hD, Option.getD_some, show (k + j) % 256 = k - q * 256 + j by omega]
theorem gaps_nil {D : Nat → Option ByteArray} {l : List Nat} (h : gaps D l = []) {i : Nat} (hi : i ∈ l) : ∃ s, D i = some s := by
  have := List.filter_eq_nil_iff.1 h i hi
  cases hD : D i with
  | none => rw [hD] at this; simp at this
  | some s => exact ⟨s, rfl⟩
theorem pcs_in {f t k : Nat} (h1 : f ≤ k) (h2 : k < t) : k / 256 ∈ pcs f t := by
  unfold pcs
  rw [if_pos (by omega), List.mem_range'_1]
  omega
theorem own_more {w : World} {B B' : Nat} {e : TypeId} {size n : Nat} {v : Value} {xs : List Value} (h : w.ownsRow B e size v n xs) (hb : B' ≤ B) : w.ownsRow B' e size v n xs := by
  refine ⟨h.1, ?_⟩
  rcases h.2 with e | ⟨g, cap, cur, rfl, hg, r⟩
  · exact .inl e
  · exact .inr ⟨g, cap, cur, rfl, by omega, r⟩
def BytesOwn (w : World) (B : Nat) (v : Value) (xs : List Int) : Prop := w.ownsRow B 5 1 v xs.length (xs.map (Value.int .u8))
theorem u8_info : (Tryz.prog.info? 5).map (fun i => (i.zero, i.size, i.bytes)) = some (some (.int .u8 0), 1, 1) := by kernel_rfl
set_option maxRecDepth 100000 in
set_option maxHeartbeats 4000000 in
theorem read_ok {w : World} {B b l len : Nat} {A : Nat → Prop} {tag : ByteArray} {D : Nat → Option ByteArray} (h : BodyAt w B A b l tag len D) (hok : PcOk len D) (f t : Nat) (hl : len ≤ 65536) (hft : f ≤ t) (htl : t ≤ len) (hg : gaps D (pcs f t) = []) :
    Calls Tryz.prog 12 #[.pointer (some ⟨b, 0, none⟩), rngV f t] w fun e w' => ∃ v, e = .returned (.tuple #[v, .nilIface]) ∧ Ext w w' ∧ BytesOwn w' w.heap.size v (rdL D f t) := by
  obtain ⟨i0, hi0, hz0, hz1, hz2⟩ := info_parts u8_info
  have c1 := h.c1
  have hb2 : (w.alloc (.cells #[.int .i64 f, .int .i64 t] 27)).cell? ⟨b, 1, none⟩ = some (.int .i64 len) := ((Ext.refl w).alloc _).cell c1
  have hb1 : (w.alloc (.cells #[.int .i64 f, .int .i64 t] 27)).drew.cell? ⟨b, 1, none⟩ = some (.int .i64 len) := (((Ext.refl w).alloc _).drew).cell c1
  have q1 : decide ((f : Int) < 0) = false := by simp
  have q2 : decide (t < f) = false := by simp; omega
  have q3 : decide (len < t) = false := by simp; omega
  have ha : Ext w (w.alloc (.cells #[.int .i64 f, .int .i64 t] 27)) := (Ext.refl w).alloc _
  have HM := Lib.hid (fun W (hW : BodyAt W B A b l tag len D) => missing_any hW f t f t hl (by omega) (by omega) (by omega))
  have HB := Lib.hid h
  clear h
  go_enter Tryz.func12, Tryz.ntmps12
  go_upto_region 3 with fail
  refine wp_region_quiet_lit (by kernel_rfl) (by kernel_rfl) ?_
  repeat (go_big_quiet_step (fail))
  refine wpQuiet_nil ?_
  rintro _ ⟨nq, rfl⟩
  go_wp2_with (first | (go_at_call 14; refine (HM.out _ (HB.out.ext (ha.drewN _))).mono ?_; rw [hg]; rintro e w1 ⟨v1, rfl, hx, ho⟩; obtain ⟨A1, cap1, rfl, -, -⟩ := ho.shape; have z0 := hx.cell (p := ⟨w.heap.size, 0, none⟩) (v := .int .i64 f) (by simp); have z1 := hx.cell (p := ⟨w.heap.size, 1, none⟩) (v := .int .i64 t) (by simp); have X1 := (ha.drewN _).trans hx) | (at_make; refine wpList_make_own _ rfl _ _ 22 rfl _ 5 i0 (.int .u8 0) 1 Tryz.underlying22 hi0 hz0 hz1 .i64 .i64 _ (t - f) rfl rfl (by omega) (by rw [hz2]; omega) (by simp only [maxLen]; omega) (Nat.le_refl _) ?_))
  intro w2 hown2 hgr2
  have X2 : Ext w1 w2 := Below.grown (Ext.refl w1) hgr2 (Nat.le_refl _) (fun j hj => by cases hj)
  have Z0 := Lib.hid z0
  have Z1 := Lib.hid z1
  have y0 := X2.cell z0
  have y1 := X2.cell z1
  have X12 := X1.trans X2
  have hlo1 := Lib.hid hown2
  have hsz2 := X1.size
  clear hown2 hgr2 z0 z1 hb1 hb2 hx ho
  go_wp2_with fail
  go_loopw [6, 7] (fun v i wr => ∃ k : Nat, f ≤ k ∧ k ≤ t ∧ i = .int .i64 k ∧ BytesOwn wr w1.heap.size v (rdL D f k) ∧ Ext w wr ∧ Below w1.heap.size w1 wr) (fun _ i _ => t - (intOf i).toNat)
  case atStart => exact ⟨f, by omega, hft, rfl, by unfold BytesOwn; rw [rdL_length]; simpa [rdL] using hlo1.out, X12, X2⟩
  case round =>
    obtain ⟨k, hfk, hk, rfl, hown, hX, hY⟩ := hrel
    have x0 : wr.cell? ⟨w.heap.size, 0, none⟩ = some (.int .i64 f) := (Below.cell hY (World.block_lt_of_cell? w1 _ Z0.out)).trans Z0.out
    have x1 : wr.cell? ⟨w.heap.size, 1, none⟩ = some (.int .i64 t) := (Below.cell hY (World.block_lt_of_cell? w1 _ Z1.out)).trans Z1.out
    by_cases hlt : k < t
    · obtain ⟨q, hq⟩ : ∃ q, q = k / 256 := ⟨_, rfl⟩
      obtain ⟨m, hm⟩ : ∃ m, m = min t ((q + 1) * 256) := ⟨_, rfl⟩
      obtain ⟨s, hs⟩ := gaps_nil hg (pcs_in hfk hlt)
      rw [← hq] at hs
      obtain ⟨lo, hlo⟩ : ∃ lo, lo = k - q * 256 := ⟨_, rfl⟩
      obtain ⟨hi, hhi⟩ : ∃ hi, hi = m - q * 256 := ⟨_, rfl⟩
      have hqn : q < npc len := by unfold npc; omega
      have hss := hok q hqn s hs
      have HR := HB.out.ext hX
      have d2 := HR.c2
      obtain ⟨r, hr, hp⟩ := HR.row
      have hc := hr.cell hqn
      obtain ⟨g, cap, e1, e2, e3, e4, e5, e6⟩ := hs ▸ hp q hqn
      rw [e1] at hc
      have E1 : (k : Int) / 256 = (q : Int) := by omega
      have E2 : min (t : Int) (((q : Int) + 1) * 256) = (m : Int) := by omega
      have E3 : (k : Int) - (q : Int) * 256 = (lo : Int) := by omega
      have E4 : (m : Int) - (q : Int) * 256 = (hi : Int) := by omega
      have E5 : hi ≤ cap := by unfold pto at hss; omega
      have E6 : lo < hi := by omega
      have hst := rdL_step (D := D) (f := f) (m := m) (by omega : q * 256 ≤ k) (by omega) (by omega) hfk hs
      have HSS := Lib.hid (show s.size = pto q len - q * 256 ∧ hi ≤ s.size by unfold pto at hss ⊢; omega)
      rw [← hlo] at hst
      clear hp hr e1 hq hm hhi
      have hrd : Reads wr wr.heap.size 1 (some ⟨g, lo, none⟩) (hi - lo) ((segL s lo (hi - lo)).map (Value.int .u8)) := by
        refine ⟨by simp [segL_length], fun _ => ⟨_, rfl, e5, fun j u hu => ?_⟩⟩
        have hj : j < hi - lo := by
          have := (List.getElem?_eq_some_iff.1 hu).1
          simpa [segL_length] using this
        rw [Addr.add_lit, e6 (lo + j) (by have := HSS.out; unfold pto at this; omega), ← hu]
        simp [segL, hj]
      have hone : ∀ v ∈ (segL s lo (hi - lo)).map (Value.int .u8), v.oneCell' = true := by
        intro v hv
        obtain ⟨n, -, rfl⟩ := List.mem_map.1 hv
        rfl
      have hB := Below.size hY
      have HST := Lib.hid hst
      have HRL := Lib.hid (rdL_length D f k)
      have HE := Lib.hid (show hi - lo = m - k by omega)
      have HMT := Lib.hid (show k < m ∧ m ≤ t by omega)
      have E7 : m ≤ 65536 := by omega
      clear hst hss hlo
      go_wp2_with (at_builtin; refine wpList_append_any _ rfl (.tmp 62) (.tmp 78) _ rfl w1.heap.size 5 i0 (.int .u8 0) 1 1 Tryz.underlying22 hi0 hz0 hz1 hz2 rfl (by omega) _ _ _ rfl hown wr.heap.size _ (hi - lo) _ _ rfl hrd hone (by have := HRL.out; simp only [maxLen]; omega) (by have := HRL.out; omega) hB ?_)
      intro v' w3 hown3 hgr3 _
      have hY3 : Below w1.heap.size w1 w3 := Below.grown hY hgr3 hB (own_base hown)
      have hX3 : Ext w w3 := Below.grown hX hgr3 hX.size (fun j hj => Nat.le_trans hsz2 (own_base hown j hj))
      have hown4 : BytesOwn w3 w1.heap.size v' (rdL D f m) := by
        unfold BytesOwn
        rw [HST.out, List.length_append, List.map_append, segL_length, ← HE.out]
        exact hown3
      clear hown3 hgr3
      go_wp2_with fail
      go_roundw
      case rel => exact ⟨m, by have := HMT.out; omega, HMT.out.2, rfl, hown4, hX3, hY3⟩
      case measure => have := HMT.out; simp [intOf]; omega
    · obtain rfl : k = t := by omega
      go_wp2_with fail
      go_returns
      exact ⟨_, rfl, hX, own_more hown hsz2⟩
end Go.Proofs.YtlhnejcjeoecaaaGreatDoor.P20
