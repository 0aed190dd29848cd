/- A region that draws its order, whose first n operations all come before the others: they read and call functions that may make memory (but hand back plain values), in whatever order; then the others, of which nothing is asked. -/
import Derived.Test.YtfgjbbpkkbohhaaGreatTail
namespace Go.Proofs.YtfgjbbpkkbohhaaGreat
open Go.RowKit

section
variable {P : Program} {ops : Array Oper} {md : Region.Mode} {C : World → Prop}

/-- operation n - 1 is behind all before it; each one from n on waits for it, or for one from n on that stands before it -/
def gateB (md : Region.Mode) (ops : Array Oper) (n : Nat) : Bool :=
  ((List.range (n - 1)).all fun i => (List.range n).any fun j => decide (i < j) && Region.waitsFor md ops j i) &&
  ((List.range ops.size).all fun t => decide (t < n) || Region.waitsFor md ops t (n - 1) || (List.range t).any fun j => decide (n ≤ j) && Region.waitsFor md ops t j)
def headB (md : Region.Mode) (ops : Array Oper) (S : Array Bool) : Nat → Nat → Array Bool → Bool
  | 0, _, seen => seen == S
  | f + 1, k, seen => (Region.ready md ops seen).contains k && Region.free md ops seen k && headB md ops S f (k + 1) (seen.setIfInBounds k true)
theorem gate_waits {n : Nat} {listed : Array Bool} (hg : gateB md ops n = true) (inv : HeadInv md ops n listed) :
    ∀ (d i : Nat), n - i = d → i < n → listed.getD i true = false → ∀ t, n ≤ t → t ∉ Region.ready md ops listed := by
  simp only [gateB, Bool.and_eq_true] at hg
  obtain ⟨hs, hc⟩ := hg
  intro d
  induction d using Nat.strongRecOn with
  | _ d ih =>
    intro i hd hi hun t ht hr
    by_cases hin : i = n - 1
    · obtain ⟨_, ot, hot, hall⟩ := mem_ready.1 hr
      have htlt : t < ops.size := (Array.getElem?_eq_some_iff.1 hot).1
      have h1 := List.all_eq_true.1 hc t (List.mem_range.2 htlt)
      simp only [Bool.or_eq_true, decide_eq_true_eq] at h1
      rcases h1 with (h1 | h1) | h1
      · omega
      · obtain ⟨o', ho', e, he, hb, hon⟩ := Region.waitsFor_spec h1
        have : o' = ot := Option.some.inj (ho'.symm.trans hot)
        subst this
        have h2 := hall e he hb
        rw [hon, ← hin, getD_both hun] at h2
        cases h2
      · obtain ⟨j, hj, h3⟩ := List.any_eq_true.1 h1
        simp only [Bool.and_eq_true, decide_eq_true_eq] at h3
        obtain ⟨o', ho', e, he, hb, hon⟩ := Region.waitsFor_spec h3.2
        have : o' = ot := Option.some.inj (ho'.symm.trans hot)
        subst this
        have h2 := hall e he hb
        rw [hon, getD_both (inv.tail j h3.1 (by have := List.mem_range.1 hj; omega))] at h2
        cases h2
    · have h1 := List.all_eq_true.1 hs i (List.mem_range.2 (by omega))
      obtain ⟨j, hj, h3⟩ := List.any_eq_true.1 h1
      simp only [Bool.and_eq_true, decide_eq_true_eq] at h3
      have hjn := List.mem_range.1 hj
      obtain ⟨o', ho', e, he, hb, hon⟩ := Region.waitsFor_spec h3.2
      have hjl : j < ops.size := (Array.getElem?_eq_some_iff.1 ho').1
      have hju : listed.getD j true = false := by
        cases hl : listed.getD j false with
        | false => exact getD_in (by rw [inv.size]; exact hjl) hl
        | true =>
          have h2 := inv.closed j o' ho' hl e he hb
          rw [hon, getD_both hun] at h2
          cases h2
      exact ih (n - j) (by omega) j rfl hjn hju t ht hr
theorem gateQ_first {n i : Nat} {oi : Oper} {v : Value} {L : Array Bool → Act → Prop} (hi : ops[i]? = some oi) (hsel : ∀ (j : Nat) (o : Oper) cs b, ops[j]? = some o → o.op ≠ .select cs b)
    (hg : gateB md ops n = true) (hin : i < n) (hdone : ∀ seen a, L seen a → ∀ j ∈ Region.ready md ops seen, n ≤ j) (f : Nat) :
    ∀ (seen : Array Bool) (a : Act), HeadInv md ops n seen →
      (∀ j oj, ops[j]? = some oj → j ≠ i → seen.getD j true = false → (∀ e ∈ oj.after, Region.binds md e = true → e.on ≠ i) → oi.apart ops oj = true) →
      i ∈ Region.ready md ops seen → YieldsIn P ops C oi v a →
      headQ P md ops C n L f (seen.setIfInBounds i true) (a.put oi.dst v) → headQ P md ops C n L (f + 1) seen a := by
  induction f with
  | zero =>
    intro seen a inv _ hr hy H
    refine ⟨fun h => by simp [h] at hr, fun j hj => ?_⟩
    have hjn : j < n := Nat.lt_of_not_le fun h => gate_waits hg inv _ i rfl hin (mem_ready.1 hr).1 j h hj
    refine ⟨hjn, ?_⟩
    rcases Nat.decEq j i with hji | rfl
    · exact absurd (hdone _ _ H j (ready_mono hj hji)) (by omega)
    · exact hy.qOp hi H
  | succ f ih =>
    intro seen a inv hfree hr hy H
    refine ⟨fun h => by simp [h] at hr, fun j hj => ?_⟩
    have hjn : j < n := Nat.lt_of_not_le fun h => gate_waits hg inv _ i rfl hin (mem_ready.1 hr).1 j h hj
    refine ⟨hjn, ?_⟩
    rcases Nat.decEq j i with hji | rfl
    · obtain ⟨hjun, oj, hoj, hall⟩ := mem_ready.1 hj
      have hno : ∀ e ∈ oj.after, Region.binds md e = true → e.on ≠ i := fun e he hb heq => by
        have h1 := hall e he hb
        rw [heq, getD_both (mem_ready.1 hr).1] at h1
        exact Bool.noConfusion h1
      have hq := qOp_put hoj (hfree j oj hoj hji hjun hno) (fun cs b => hsel i oi cs b hi) (fun cs b => hsel j oj cs b hoj) hy (H.2 j (ready_mono hj hji)).2
      refine qOp_mono (fun a' h3 => ih _ a' (inv.set hj hjn) (fun k ok hk hki hun hno' => hfree k ok hk hki ?_ hno') (ready_mono hr (Ne.symm hji)) h3.1 ?_) hq
      · rcases Nat.decEq j k with hjk | rfl
        · rwa [getD_set_ne true hjk] at hun
        · exact hjun
      · rw [Array.setIfInBounds_comm _ _ hji]
        exact h3.2
    · exact hy.qOp hi H
theorem gateQ_lex {n : Nat} {S : Array Bool} {Lq : Act → Prop} (hsel : Region.noSelect ops = true) (hg : gateB md ops n = true) (hS : (Region.ready md ops S).all (fun j => decide (n ≤ j)) = true) :
    ∀ (l : List Oper) (k : Nat) (seen : Array Bool) (a : Act), (∀ j, j < l.length → l[j]? = ops[k + j]?) → k + l.length = n → HeadInv md ops n seen →
    headB md ops S l.length k seen = true → wpQuiet P ops C Lq l a →
    headQ P md ops C n (fun seen' a' => seen' = S ∧ Lq a') l.length seen a
  | [], k, seen, a, _, _, _, hB, h => ⟨eq_of_beq hB, h⟩
  | o :: l, k, seen, a, hl, hk, inv, hB, h => by
    have h0 : ops[k]? = some o := by have := hl 0 (by simp); simpa using this.symm
    simp only [List.length_cons, headB, Bool.and_eq_true] at hB
    obtain ⟨⟨hr, hf⟩, hB'⟩ := hB
    simp only [List.length_cons] at hk
    have hkn : k < n := by omega
    have hq : qOp P ops C k (wpQuiet P ops C Lq l) a := by unfold qOp; simp only [h0]; exact h
    obtain ⟨v, hy, hK⟩ := yieldsIn_of_qOp h0 hq
    have hr' : k ∈ Region.ready md ops seen := by simpa using hr
    refine gateQ_first h0 (Region.noSelect_spec hsel) hg hkn (fun _ _ hL j hj => ?_) l.length seen a inv (Region.free_spec h0 hf) hr' hy ?_
    · rw [hL.1] at hj
      simpa using List.all_eq_true.1 hS j hj
    refine gateQ_lex hsel hg hS l (k + 1) _ _ (fun j hj => ?_) (by omega) (inv.set hr' hkn) hB' hK
    have := hl (j + 1) (by simp; omega)
    simpa [Nat.add_assoc, Nat.add_comm 1 j] using this
/-- the first n operations read; then what is left to draw -/
theorem wp_region_head {id : Nat} {Q : Exit → Act → World → Prop} {a : Act} {w : World} {l : List Oper} (n g : Nat) (S : Array Bool) (hm : P.follows .mixedOrders = true) (hlen : l.length = n + g) (hsel : Region.noSelect l.toArray = true)
    (hg : gateB .any l.toArray n = true) (hS : (Region.ready .any l.toArray S).all (fun j => decide (n ≤ j)) = true) (hB : headB .any l.toArray S n 0 (Array.replicate l.length false) = true) (hC : C w.drew)
    (h : wpQuiet P l.toArray C (fun a' => ∀ w', C w' → wpAny P .any l.toArray Q g S a' w') (l.take n) a) : (Code.region id l.toArray true).wp P Q a w := by
  have htl : (l.take n).length = n := by simp; omega
  have inv0 : HeadInv .any l.toArray n (Array.replicate l.toArray.size false) :=
    ⟨by simp, fun j oj _ hl => by rw [getD_replicate_false] at hl; exact Bool.noConfusion hl, fun t _ ht => getD_in (by simpa using ht) (getD_replicate_false _ _)⟩
  have H := gateQ_lex (md := .any) hsel hg hS (l.take n) 0 (Array.replicate l.toArray.size false) a (fun j hj => by rw [htl] at hj; simp [hj]) (by simpa using htl) inv0 (by rw [htl]; simpa using hB) h
  refine wp_region_any hm ?_
  have hr := any_of_headQ (Q := Q) (g := g) (fun seen a' w' hw' hL => by rw [hL.1]; exact hL.2 w' hw') _ _ _ _ hC H
  rw [htl, ← hlen] at hr
  simpa using hr
theorem wp_region_wd_head {P : Program} {id : Nat} {Q : Exit → Act → World → Prop} {a : Act} {w : World} {l : List Oper} (n g : Nat) (S : Array Bool) (hm : P.follows .mixedOrders = true) (hlen : l.length = n + g) (hsel : Region.noSelect l.toArray = true)
    (hg : gateB .any l.toArray n = true) (hS : (Region.ready .any l.toArray S).all (fun j => decide (n ≤ j)) = true) (hB : headB .any l.toArray S n 0 (Array.replicate l.length false) = true)
    (h : wpQuiet P l.toArray (fun w' => ∃ m : Wd w, w' = m.val) (fun a' => ∀ w', (∃ m : Wd w, w' = m.val) → wpAny P .any l.toArray Q g S a' w') (l.take n) a) : (Code.region id l.toArray true).wp P Q a w :=
  wp_region_head (C := fun w' => ∃ m : Wd w, w' = m.val) n g S hm hlen hsel hg hS hB ⟨⟨w.drew, (Ext.refl w).drew⟩, rfl⟩ h
/-- what is left only reads, and calls functions that may make memory -/
theorem wpAny_wd {fuel : Nat} {listed : Array Bool} {a : Act} {w : World} {Q' : Exit → Act → World → Prop} (h : wpAnyQ P md ops (fun w' => ∃ m : Wd w, w' = m.val) (fun a' => ∀ w', (∃ m : Wd w, w' = m.val) → Q' .normal a' w') fuel listed a) : wpAny P md ops Q' fuel listed a w :=
  wpAny_of_quiet (fun _ _ hw hq => hq _ hw) _ _ _ _ ⟨⟨w, Ext.refl _⟩, rfl⟩ h
end
end Go.Proofs.YtfgjbbpkkbohhaaGreat
