/- Regions that draw their order, whose head reads and calls functions that may make memory (but hand back plain values), and whose tail (a store, an append) comes last in one order alone: one walk in the order of the text serves all orders. -/
import Derived.Test.YtfgjbbpkkbohhaaGreatKit
import Derived.StillTail
namespace Go.Proofs.YtfgjbbpkkbohhaaGreat
open Go.RowKit

section
variable {P : Program} {ops : Array Oper} {md : Region.Mode} {C : World → Prop}

/-- f operations of the head come up, in whatever order; then L -/
def headQ (P : Program) (md : Region.Mode) (ops : Array Oper) (C : World → Prop) (n : Nat) (L : Array Bool → Act → Prop) : Nat → Array Bool → Act → Prop
  | 0, seen, a => L seen a
  | f + 1, seen, a => Region.ready md ops seen ≠ [] ∧ ∀ i ∈ Region.ready md ops seen, i < n ∧ qOp P ops C i (headQ P md ops C n L f (seen.setIfInBounds i true)) a

theorem any_of_headQ {n g : Nat} {L : Array Bool → Act → Prop} {Q : Exit → Act → World → Prop} (hL : ∀ seen a w, C w → L seen a → wpAny P md ops Q g seen a w) :
    ∀ (f : Nat) (seen : Array Bool) (a : Act) (w : World), C w → headQ P md ops C n L f seen a → wpAny P md ops Q (f + g) seen a w
  | 0, _, _, _, hw, h => by rw [Nat.zero_add]; exact hL _ _ _ hw h
  | f + 1, _, _, _, hw, h => by
    rw [Nat.add_right_comm]
    exact ⟨fun h0 => absurd h0 h.1, fun i hi => wpOp_of_qOp hw (fun a' w' hw' h' => any_of_headQ hL f _ a' w' hw' h') (h.2 i hi).2⟩

theorem headQ_first {n i : Nat} {oi : Oper} {v : Value} {L : Array Bool → Act → Prop} (hi : ops[i]? = some oi) (hsel : ∀ (j : Nat) (o : Oper) cs b, ops[j]? = some o → o.op ≠ .select cs b)
    (hs : Region.sinkB md ops n = true) (hc : Region.chainB md ops n = true) (hn : n < ops.size) (hin : i < n) (hdone : ∀ seen a, L seen a → ∀ j ∈ Region.ready md ops seen, n ≤ j) (f : Nat) :
    ∀ (seen : Array Bool) (a : Act), HeadInv md ops n seen →
      (∀ j oj, ops[j]? = some oj → j ≠ i → seen.getD j true = false → (∀ e ∈ oj.after, Region.binds md e = true → e.on ≠ i) → oi.apart ops oj = true) →
      i ∈ Region.ready md ops seen → YieldsIn P ops C oi v a →
      headQ P md ops C n L f (seen.setIfInBounds i true) (a.put oi.dst v) → headQ P md ops C n L (f + 1) seen a := by
  induction f with
  | zero =>
    intro seen a inv _ hr hy H
    refine ⟨fun h => by simp [h] at hr, fun j hj => ?_⟩
    have hjn : j < n := Nat.lt_of_not_le fun h => tail_waits hs hc hn inv _ i rfl hin (mem_ready.1 hr).1 j h hj
    refine ⟨hjn, ?_⟩
    rcases Nat.decEq j i with hji | rfl
    · exact absurd (hdone _ _ H j (ready_mono hj hji)) (by omega)
    · exact hy.qOp hi H
  | succ f ih =>
    intro seen a inv hfree hr hy H
    refine ⟨fun h => by simp [h] at hr, fun j hj => ?_⟩
    have hjn : j < n := Nat.lt_of_not_le fun h => tail_waits hs hc hn inv _ i rfl hin (mem_ready.1 hr).1 j h hj
    refine ⟨hjn, ?_⟩
    rcases Nat.decEq j i with hji | rfl
    · obtain ⟨hjun, oj, hoj, hall⟩ := mem_ready.1 hj
      have hno : ∀ e ∈ oj.after, Region.binds md e = true → e.on ≠ i := fun e he hb heq => by
        have h1 := hall e he hb
        rw [heq, getD_both (mem_ready.1 hr).1] at h1
        exact Bool.noConfusion h1
      have hq := qOp_put hoj (hfree j oj hoj hji hjun hno) (fun cs b => hsel i oi cs b hi) (fun cs b => hsel j oj cs b hoj) hy (H.2 j (ready_mono hj hji)).2
      refine qOp_mono (fun a' h3 => ih _ a' (inv.set hj hjn) (fun k ok hk hki hun hno' => hfree k ok hk hki ?_ hno') (ready_mono hr (Ne.symm hji)) h3.1 ?_) hq
      · rcases Nat.decEq j k with hjk | rfl
        · rwa [getD_set_ne true hjk] at hun
        · exact hjun
      · rw [Array.setIfInBounds_comm _ _ hji]
        exact h3.2
    · exact hy.qOp hi H

theorem headQ_lex {n g : Nat} {Lq : Act → Prop} (hsel : Region.noSelect ops = true) (hs : Region.sinkB md ops n = true) (hc : Region.chainB md ops n = true) (hn : n < ops.size) :
    ∀ (l : List Oper) (k : Nat) (seen : Array Bool) (a : Act), (∀ j, j < l.length → l[j]? = ops[k + j]?) → k + l.length = n → HeadInv md ops n seen →
    Region.lexHead md ops g l.length k seen = true → wpQuiet P ops C Lq l a →
    headQ P md ops C n (fun seen' a' => Region.seqB md ops g n seen' = true ∧ Lq a') l.length seen a
  | [], k, seen, a, _, hk, _, hB, h => by
    obtain rfl : k = n := hk
    exact ⟨hB, h⟩
  | o :: l, k, seen, a, hl, hk, inv, hB, h => by
    have h0 : ops[k]? = some o := by have := hl 0 (by simp); simpa using this.symm
    simp only [List.length_cons, Region.lexHead, Bool.and_eq_true] at hB
    obtain ⟨⟨hr, hf⟩, hB'⟩ := hB
    simp only [List.length_cons] at hk
    have hkn : k < n := by omega
    have hq : qOp P ops C k (wpQuiet P ops C Lq l) a := by unfold qOp; simp only [h0]; exact h
    obtain ⟨v, hy, hK⟩ := yieldsIn_of_qOp h0 hq
    have hr' : k ∈ Region.ready md ops seen := by simpa using hr
    refine headQ_first h0 (Region.noSelect_spec hsel) hs hc hn hkn (fun _ _ hL => seqB_ready hL.1) l.length seen a inv (Region.free_spec h0 hf) hr' hy ?_
    refine headQ_lex hsel hs hc hn l (k + 1) _ _ (fun j hj => ?_) (by omega) (inv.set hr' hkn) hB' hK
    have := hl (j + 1) (by simp; omega)
    simpa [Nat.add_assoc, Nat.add_comm 1 j] using this

theorem wp_region_tail {id : Nat} {Q : Exit → Act → World → Prop} {a : Act} {w : World} {l : List Oper} (n : Nat) (hm : P.follows .mixedOrders = true) (hB : Region.lexTailB .any l.toArray n = true) (hC : C w.drew)
    (h : wpQuiet P l.toArray C (fun a' => ∀ w', C w' → wpList P l.toArray Q (l.drop n) a' w') (l.take n) a) : (Code.region id l.toArray true).wp P Q a w := by
  simp only [Region.lexTailB, Bool.and_eq_true, decide_eq_true_eq] at hB
  obtain ⟨⟨⟨⟨hsel, hn⟩, hs⟩, hc⟩, hlex⟩ := hB
  have hn' : n < l.length := by simpa using hn
  have htl : (l.take n).length = n := by simp; omega
  have hdl : (l.drop n).length = l.toArray.size - n := by simp
  have inv0 : HeadInv .any l.toArray n (Array.replicate l.toArray.size false) :=
    ⟨by simp, fun j oj _ hl => by rw [getD_replicate_false] at hl; exact Bool.noConfusion hl, fun t _ ht => getD_in (by simpa using ht) (getD_replicate_false _ _)⟩
  have H := headQ_lex (md := .any) (g := l.toArray.size - n) hsel hs hc hn (l.take n) 0 _ a (fun j hj => by rw [htl] at hj; simp [hj]) (by simpa using htl) inv0 (by rw [htl]; exact hlex) h
  refine wp_region_any hm ?_
  have hr := any_of_headQ (Q := Q) (g := l.toArray.size - n) (fun seen a' w' hw' hL => by
    have := wpAny_of_seq (md := .any) (Q' := Q) (l.drop n) n seen a' w' (fun j => by simp [List.getElem?_drop]) (by rw [hdl]; exact hL.1) (hL.2 w' hw')
    rwa [hdl] at this) _ _ _ _ hC H
  rw [htl, show n + (l.toArray.size - n) = l.toArray.size by omega] at hr
  exact hr
end

/-- the same, in the class of the worlds that extend w -/
theorem wp_region_wd_tail {P : Program} {id : Nat} {Q : Exit → Act → World → Prop} {a : Act} {w : World} {l : List Oper} (n : Nat) (hm : P.follows .mixedOrders = true) (hB : Region.lexTailB .any l.toArray n = true)
    (h : wpQuiet P l.toArray (fun w' => ∃ m : Wd w, w' = m.val) (fun a' => ∀ w', (∃ m : Wd w, w' = m.val) → wpList P l.toArray Q (l.drop n) a' w') (l.take n) a) : (Code.region id l.toArray true).wp P Q a w :=
  wp_region_tail (C := fun w' => ∃ m : Wd w, w' = m.val) n hm hB ⟨⟨w.drew, (Ext.refl w).drew⟩, rfl⟩ h
end Go.Proofs.YtfgjbbpkkbohhaaGreat
