/- Regions that draw their order, in a class of worlds that no operation leaves: an operation that reads (the same value in every world of the class) may be taken first, whatever calls stand beside it. -/
import Derived.Test.YtfgjbbpkkbohhaaGreatHead
namespace Go.Proofs.YtfgjbbpkkbohhaaGreat
open Go.RowKit

section
variable {P : Program} {ops : Array Oper} {md : Region.Mode} {C : World → Prop} {Q : Exit → Act → World → Prop}

/-- the operation reads v in every world of the class -/
def ReadsC (P : Program) (ops : Array Oper) (C : World → Prop) (o : Oper) (v : Value) (a : Act) : Prop :=
  (Region.wanted o (yielded ops a.tmps) = true ∧ ∀ w, C w → (execOp a.eval o).run P w = .ok (.value v) w) ∨
  (Region.wanted o (yielded ops a.tmps) = false ∧ v = undef)
theorem ReadsC.step {i : Nat} {o : Oper} {v : Value} {a : Act} (hi : ops[i]? = some o) (hy : ReadsC P ops C o v a) {K : Act → World → Prop} {w : World} (hw : C w) (h : K (a.put o.dst v) w) : wpOp P ops Q i K a w := by
  unfold wpOp
  rcases hy with ⟨h1, h2⟩ | ⟨h1, rfl⟩
  · simp only [hi, h1, if_true, Oper.wp, h2 w hw, Oper.upon]
    exact .inl h
  · simp only [hi, h1, Bool.false_eq_true, if_false]
    exact h
theorem ReadsC.same {o : Oper} {v : Value} {a a' : Act} (hy : ReadsC P ops C o v a) (he : execOp a'.eval o = execOp a.eval o) (hw : Region.wanted o (yielded ops a'.tmps) = Region.wanted o (yielded ops a.tmps)) : ReadsC P ops C o v a' := by
  unfold ReadsC
  rw [he, hw]
  exact hy
/-- the reading operation goes past another one -/
theorem ReadsC.past {j : Nat} {oi oj : Oper} {v : Value} (hj : ops[j]? = some oj) (hap : oi.apart ops oj = true) (hsi : ∀ cs b, oi.op ≠ .select cs b) (hsj : ∀ cs b, oj.op ≠ .select cs b)
    (hQ : ∀ c a w, Q (.panic c) (a.put oi.dst v) w → Q (.panic c) a w) {K : Act → World → Prop} {a : Act} {w : World} (hy : ReadsC P ops C oi v a) (h : wpOp P ops Q j K (a.put oi.dst v) w) :
    wpOp P ops Q j (fun a' w' => ReadsC P ops C oi v a' ∧ K (a'.put oi.dst v) w') a w := by
  obtain ⟨h1, h2, h3⟩ := Oper.apart_spec hap
  have stay : ∀ (b : Act), ReadsC P ops C oi v b → ∀ u, ReadsC P ops C oi v (b.put oj.dst u) := fun b hb u => hb.same (execOp_put oi hsi b oj.dst u h3) (wanted_put oi b oj.dst u h3)
  have swap : ∀ (b : Act) (u : Value) (w' : World), K ((b.put oi.dst v).put oj.dst u) w' → K ((b.put oj.dst u).put oi.dst v) w' := fun b u w' hk => by rw [← Act.put_comm b v u h2]; exact hk
  unfold wpOp at h ⊢
  simp only [hj] at h ⊢
  rw [wanted_put oj a oi.dst v h1] at h
  by_cases hw : Region.wanted oj (yielded ops a.tmps) = true
  · simp only [hw, if_true] at h ⊢
    rcases h with h | ⟨hasks, hlets⟩
    · refine .inl ?_
      unfold Oper.wp at h ⊢
      rw [execOp_put oj hsj a oi.dst v h1] at h
      generalize (execOp a.eval oj).run P w = r at h ⊢
      cases r with
      | ok n w' =>
        cases n <;> simp only [Oper.upon] at h ⊢
        case value u => exact ⟨stay a hy u, swap a u w' h⟩
        case skip => exact ⟨stay a hy _, swap a undef w' h⟩
        case defer d =>
          have hd : ReadsC P ops C oi v { a with defers := d :: a.defers } := hy.same rfl rfl
          exact ⟨stay _ hd _, by rw [← Act.put_comm _ v undef h2, ← Act.put_defers]; exact h⟩
        case enter f args =>
          refine Calls.mono h fun e w'' he => ?_
          cases e with
          | returned u => exact ⟨stay a hy u, swap a u w'' he⟩
          | panicked c => exact hQ _ _ _ he
          | outgrown => exact he
        case row row args => exact Rows.mono h fun u w'' he => ⟨stay a hy u, swap a u w'' he⟩
      | halt x w' =>
        cases x <;> simp only [Oper.upon] at h ⊢
        case panic u => exact hQ _ _ _ h
    · exact .inr ⟨by unfold Oper.asks at hasks ⊢; rw [execOp_put oj hsj a oi.dst v h1] at hasks; exact hasks, hlets⟩
  · simp only [hw] at h ⊢
    exact ⟨stay a hy _, swap a undef w h⟩

/-- what is left to draw, no operation leaving the class -/
def wpAnyC (P : Program) (md : Region.Mode) (ops : Array Oper) (C : World → Prop) (Q : Exit → Act → World → Prop) : Nat → Array Bool → Act → World → Prop
  | 0, seen, a, w => Region.ready md ops seen = [] ∧ Q .normal a w
  | f + 1, seen, a, w => (Region.ready md ops seen = [] → Q .normal a w) ∧ ∀ i ∈ Region.ready md ops seen, wpOp P ops Q i (fun a' w' => C w' ∧ wpAnyC P md ops C Q f (seen.setIfInBounds i true) a' w') a w
theorem wpAnyC.any : ∀ {f : Nat} {seen : Array Bool} {a : Act} {w : World}, wpAnyC P md ops C Q f seen a w → wpAny P md ops Q f seen a w
  | 0, _, _, _, h => h
  | _ + 1, _, _, _, h => ⟨h.1, fun i hi => wpOp_mono (fun _ _ h2 => wpAnyC.any h2.2) (h.2 i hi)⟩
theorem wpAnyC_first {i : Nat} {oi : Oper} {v : Value} (hi : ops[i]? = some oi) (hsel : ∀ (j : Nat) (o : Oper) cs b, ops[j]? = some o → o.op ≠ .select cs b) (hQ : ∀ c a w, Q (.panic c) (a.put oi.dst v) w → Q (.panic c) a w) (f : Nat) :
    ∀ (seen : Array Bool) (a : Act) (w : World), C w →
      (∀ j oj, ops[j]? = some oj → j ≠ i → seen.getD j true = false → (∀ e ∈ oj.after, Region.binds md e = true → e.on ≠ i) → oi.apart ops oj = true) →
      i ∈ Region.ready md ops seen → ReadsC P ops C oi v a →
      wpAnyC P md ops C Q f (seen.setIfInBounds i true) (a.put oi.dst v) w → wpAnyC P md ops C Q (f + 1) seen a w := by
  induction f with
  | zero =>
    intro seen a w hw _ hr hy H
    refine ⟨fun h => absurd hr (by rw [h]; simp), fun j hj => ?_⟩
    rcases Nat.decEq j i with hji | rfl
    · have := ready_mono hj hji
      rw [H.1] at this
      cases this
    · exact hy.step hi hw ⟨hw, H⟩
  | succ f ih =>
    intro seen a w hw hfree hr hy H
    refine ⟨fun h => absurd hr (by rw [h]; simp), fun j hj => ?_⟩
    rcases Nat.decEq j i with hji | rfl
    · obtain ⟨hjun, oj, hoj, hall⟩ := mem_ready.1 hj
      have hno : ∀ e ∈ oj.after, Region.binds md e = true → e.on ≠ i := fun e he hb heq => by
        have h1 := hall e he hb
        rw [heq, getD_both (mem_ready.1 hr).1] at h1
        exact Bool.noConfusion h1
      refine wpOp_mono (fun a' w' h3 => ⟨h3.2.1, ih _ a' w' h3.2.1 (fun k ok hk hki hun hno' => hfree k ok hk hki ?_ hno') (ready_mono hr (Ne.symm hji)) h3.1 ?_⟩) (hy.past hoj (hfree j oj hoj hji hjun hno) (fun cs b => hsel i oi cs b hi) (fun cs b => hsel j oj cs b hoj) hQ (H.2 j (ready_mono hj hji)))
      · rcases Nat.decEq j k with hjk | rfl
        · rwa [getD_set_ne true hjk] at hun
        · exact hjun
      · rw [Array.setIfInBounds_comm _ _ hji]
        exact h3.2.2
    · exact hy.step hi hw ⟨hw, H⟩
/-- take a reading operation first -/
theorem wpAnyC_take {i : Nat} {oi : Oper} {v : Value} {f : Nat} {seen : Array Bool} {a : Act} {w : World} (hi : ops[i]? = some oi) (hs : Region.noSelect ops = true) (hf : Region.free md ops seen i = true) (hr : (Region.ready md ops seen).contains i = true)
    (hQ : ∀ c a w, Q (.panic c) (a.put oi.dst v) w → Q (.panic c) a w) (hw : C w) (hg : Region.wanted oi (yielded ops a.tmps) = true) (hy : ∀ w, C w → (execOp a.eval oi).run P w = .ok (.value v) w)
    (h : wpAnyC P md ops C Q f (seen.setIfInBounds i true) (a.put oi.dst v) w) : wpAnyC P md ops C Q (f + 1) seen a w :=
  wpAnyC_first hi (Region.noSelect_spec hs) hQ f seen a w hw (Region.free_spec hi hf) (by simpa using hr) (.inl ⟨hg, hy⟩) h
/-- only one operation may come up -/
theorem wpAnyC_one (i : Nat) {o : Oper} {f : Nat} {seen : Array Bool} {a : Act} {w : World} (hr : Region.ready md ops seen = [i]) (hi : ops[i]? = some o) (hg : Region.wanted o (yielded ops a.tmps) = true)
    (h : ∀ K : Act → World → Prop, (∀ a w, C w → wpAnyC P md ops C Q f (seen.setIfInBounds i true) a w → K a w) → Oper.wp P o a w K Q) : wpAnyC P md ops C Q (f + 1) seen a w := by
  refine ⟨fun h0 => (by rw [hr] at h0; cases h0), fun j hj => ?_⟩
  rw [hr, List.mem_singleton] at hj
  subst hj
  unfold wpOp
  simp only [hi, hg, if_true]
  exact .inl (h _ fun a w h1 h2 => ⟨h1, h2⟩)
theorem wpAnyC_quiet {f : Nat} {seen : Array Bool} {a : Act} {w : World} (hC : C w) (h : wpAnyQ P md ops C (fun a' => ∀ w', C w' → Q .normal a' w') f seen a) : wpAnyC P md ops C Q f seen a w := by
  have go : ∀ (f : Nat) (seen : Array Bool) (a : Act) (w : World), C w → wpAnyQ P md ops C (fun a' => ∀ w', C w' → Q .normal a' w') f seen a → wpAnyC P md ops C Q f seen a w := by
    intro f
    induction f with
    | zero => intro seen a w hw h; exact ⟨h.1, h.2 w hw⟩
    | succ f ih => intro seen a w hw h; exact ⟨fun h0 => h.1 h0 w hw, fun i hi => wpOp_of_qOp hw (fun a' w' hw' h2 => ⟨hw', ih _ a' w' hw' h2⟩) (h.2 i hi)⟩
  exact go f seen a w hC h
end
end Go.Proofs.YtfgjbbpkkbohhaaGreat
