/- Regions that draw their order, walked in worlds that may grow at each step: an operation that reads, or a call that hands back a plain value and only grows the world, is taken first, whatever else stands beside it; what makes memory is taken when it alone is left; operation z, which waits for all that are taken, may change anything. -/
import Derived.Test.YtfgjbbpkkbohhaaGreatAnyE
import Derived.Test.YtfgjbbpkkbohhaaGreatMs
namespace Go.Proofs.YtfgjbbpkkbohhaaGreat
open Go.RowKit
section
variable {P : Program} {ops : Array Oper} {md : Region.Mode} {R : World → World → Prop} {z : Nat} {Q : Exit → Act → World → Prop}
structure Grows (R : World → World → Prop) : Prop where
  rfl_ : ∀ w, R w w
  trans : ∀ {a b c}, R a b → R b c → R a c
theorem grows_ext : Grows Ext := ⟨Ext.refl, fun h k => h.trans k⟩
theorem grows_mod (F : Nat → Prop) : Grows (Mod F) := ⟨Mod.refl F, fun h k => h.trans k⟩
def StepX (P : Program) (ops : Array Oper) (R : World → World → Prop) (o : Oper) (v : Value) (a : Act) (w : World) : Prop :=
  (Region.wanted o (yielded ops a.tmps) = true ∧ ∀ w', R w w' → (execOp a.eval o).run P w' = .ok (.value v) w' ∨ ∃ f args, (execOp a.eval o).run P w' = .ok (.enter f args) w' ∧ Calls P f args w' fun e w'' => e = .returned v ∧ R w' w'') ∨
  (Region.wanted o (yielded ops a.tmps) = false ∧ v = undef)
theorem StepX.step {i : Nat} {o : Oper} {v : Value} {a : Act} {w : World} (hi : ops[i]? = some o) (hR : Grows R) (hy : StepX P ops R o v a w) {K : Act → World → Prop} {w' : World} (hw : R w w') (h : ∀ w'', R w' w'' → K (a.put o.dst v) w'') : wpOp P ops Q i K a w' := by
  unfold wpOp
  rcases hy with ⟨h1, h2⟩ | ⟨h1, rfl⟩
  · rcases h2 w' hw with h2 | ⟨f, args, h2, h3⟩
    · simp only [hi, h1, if_true, Oper.wp, h2, Oper.upon]
      exact .inl (h _ (hR.rfl_ _))
    · simp only [hi, h1, if_true, Oper.wp, h2, Oper.upon]
      exact .inl (h3.mono fun e w'' ⟨he, hr⟩ => by subst he; exact h _ hr)
  · simp only [hi, h1, Bool.false_eq_true, if_false]
    exact h _ (hR.rfl_ _)
theorem StepX.same {o : Oper} {v : Value} {a a' : Act} {w : World} (hy : StepX P ops R o v a w) (he : execOp a'.eval o = execOp a.eval o) (hw : Region.wanted o (yielded ops a'.tmps) = Region.wanted o (yielded ops a.tmps)) : StepX P ops R o v a' w := by
  unfold StepX
  rw [he, hw]
  exact hy
theorem StepX.grow {o : Oper} {v : Value} {a : Act} {w w' : World} (hR : Grows R) (hy : StepX P ops R o v a w) (h : R w w') : StepX P ops R o v a w' :=
  hy.imp (fun ⟨h1, h2⟩ => ⟨h1, fun x hx => h2 x (hR.trans h hx)⟩) id
theorem StepX.past {j : Nat} {oi oj : Oper} {v : Value} (hj : ops[j]? = some oj) (hap : oi.apart ops oj = true) (hsi : ∀ cs b, oi.op ≠ .select cs b) (hsj : ∀ cs b, oj.op ≠ .select cs b)
    (hQ : ∀ c a w, Q (.panic c) (a.put oi.dst v) w → Q (.panic c) a w) {K : Act → World → Prop} {a : Act} {w u : World} (hy : StepX P ops R oi v a u) (h : wpOp P ops Q j K (a.put oi.dst v) w) :
    wpOp P ops Q j (fun a' w' => StepX P ops R oi v a' u ∧ K (a'.put oi.dst v) w') a w := by
  obtain ⟨h1, h2, h3⟩ := Oper.apart_spec hap
  have stay : ∀ (b : Act), StepX P ops R oi v b u → ∀ x, StepX P ops R oi v (b.put oj.dst x) u := fun b hb x => hb.same (execOp_put oi hsi b oj.dst x h3) (wanted_put oi b oj.dst x h3)
  have swap : ∀ (b : Act) (u : Value) (w' : World), K ((b.put oi.dst v).put oj.dst u) w' → K ((b.put oj.dst u).put oi.dst v) w' := fun b u w' hk => by rw [← Act.put_comm b v u h2]; exact hk
  unfold wpOp at h ⊢
  simp only [hj] at h ⊢
  rw [wanted_put oj a oi.dst v h1] at h
  by_cases hw : Region.wanted oj (yielded ops a.tmps) = true
  · simp only [hw, if_true] at h ⊢
    rcases h with h | ⟨hasks, hlets⟩
    · refine .inl ?_
      unfold Oper.wp at h ⊢
      rw [execOp_put oj hsj a oi.dst v h1] at h
      generalize (execOp a.eval oj).run P w = r at h ⊢
      cases r with
      | ok n w' =>
        cases n <;> simp only [Oper.upon] at h ⊢
        case value u => exact ⟨stay a hy u, swap a u w' h⟩
        case skip => exact ⟨stay a hy _, swap a undef w' h⟩
        case defer d =>
          have hd : StepX P ops R oi v { a with defers := d :: a.defers } u := hy.same rfl rfl
          exact ⟨stay _ hd _, by rw [← Act.put_comm _ v undef h2, ← Act.put_defers]; exact h⟩
        case enter f args =>
          refine Calls.mono h fun e w'' he => ?_
          cases e with
          | returned u => exact ⟨stay a hy u, swap a u w'' he⟩
          | panicked c => exact hQ _ _ _ he
          | outgrown => exact he
        case row row args => exact Rows.mono h fun u w'' he => ⟨stay a hy u, swap a u w'' he⟩
      | halt x w' =>
        cases x <;> simp only [Oper.upon] at h ⊢
        case panic u => exact hQ _ _ _ h
    · exact .inr ⟨by unfold Oper.asks at hasks ⊢; rw [execOp_put oj hsj a oi.dst v h1] at hasks; exact hasks, hlets⟩
  · simp only [hw] at h ⊢
    exact ⟨stay a hy _, swap a undef w h⟩
def wpAnyX (P : Program) (md : Region.Mode) (ops : Array Oper) (R : World → World → Prop) (z : Nat) (Q : Exit → Act → World → Prop) : Nat → Array Bool → Act → World → Prop
  | 0, seen, a, w => Region.ready md ops seen = [] ∧ Q .normal a w
  | f + 1, seen, a, w => (Region.ready md ops seen = [] → Q .normal a w) ∧ ∀ i ∈ Region.ready md ops seen,
      wpOp P ops Q i (fun a' w' => (i = z → wpAny P md ops Q f (seen.setIfInBounds i true) a' w') ∧ (i ≠ z → R w w' ∧ ∀ w'', R w' w'' → wpAnyX P md ops R z Q f (seen.setIfInBounds i true) a' w'')) a w
theorem wpAnyX.any (hR : Grows R) : ∀ {f : Nat} {seen : Array Bool} {a : Act} {w : World}, wpAnyX P md ops R z Q f seen a w → wpAny P md ops Q f seen a w
  | 0, _, _, _, h => h
  | _ + 1, _, _, _, h => ⟨h.1, fun i hi => wpOp_mono (fun a' w' h2 => by
      by_cases hz : i = z
      · exact h2.1 hz
      · exact wpAnyX.any hR ((h2.2 hz).2 _ (hR.rfl_ _))) (h.2 i hi)⟩
/-- in whatever world has grown out of w -/
def wpX (P : Program) (md : Region.Mode) (ops : Array Oper) (R : World → World → Prop) (z : Nat) (Q : Exit → Act → World → Prop) (f : Nat) (seen : Array Bool) (a : Act) (w : World) : Prop := ∀ w', R w w' → wpAnyX P md ops R z Q f seen a w'
theorem wpX_first (hR : Grows R) {i : Nat} (hz : (decide (ops.size ≤ z) || waitsT md ops 3 z i) = true) {oi : Oper} {v : Value} (hi : ops[i]? = some oi) (hsel : ∀ (j : Nat) (o : Oper) cs b, ops[j]? = some o → o.op ≠ .select cs b) (hQ : ∀ c a w, Q (.panic c) (a.put oi.dst v) w → Q (.panic c) a w) (f : Nat) :
    ∀ (seen : Array Bool) (a : Act) (w : World), ClosedS md ops seen →
      (∀ j oj, ops[j]? = some oj → j ≠ i → seen.getD j true = false → (∀ e ∈ oj.after, Region.binds md e = true → e.on ≠ i) → oi.apart ops oj = true) →
      i ∈ Region.ready md ops seen → StepX P ops R oi v a w →
      wpX P md ops R z Q f (seen.setIfInBounds i true) (a.put oi.dst v) w → wpX P md ops R z Q (f + 1) seen a w := by
  have noz : ∀ seen, ClosedS md ops seen → i ∈ Region.ready md ops seen → ∀ j ∈ Region.ready md ops seen, j ≠ z := by
    intro seen hcl hr j hj
    obtain ⟨hjun, oj, hoj, hall⟩ := mem_ready.1 hj
    rintro rfl
    rw [Bool.or_eq_true, decide_eq_true_eq] at hz
    rcases hz with hz | hz
    · have := (Array.getElem?_eq_some_iff.1 hoj).1
      omega
    · have h1 := waits_seen hcl 3 j i (fun oz hoz e he hb => by
        rw [hoj] at hoz
        cases hoz
        exact hall e he hb) hz
      rw [getD_both (mem_ready.1 hr).1] at h1
      exact Bool.noConfusion h1
  induction f with
  | zero =>
    intro seen a w hcl hfree hr hy H w' hw
    refine ⟨fun h => absurd hr (by rw [h]; simp), fun j hj => ?_⟩
    rcases Nat.decEq j i with hji | rfl
    · have := ready_mono hj hji
      rw [(H w' hw).1] at this
      cases this
    · exact hy.step hi hR hw fun w'' hw2 => ⟨fun h => absurd h (noz seen hcl hr j hj), fun _ => ⟨hw2, fun w3 hw3 => H w3 (hR.trans hw (hR.trans hw2 hw3))⟩⟩
  | succ f ih =>
    intro seen a w hcl hfree hr hy H w' hw
    refine ⟨fun h => absurd hr (by rw [h]; simp), fun j hj => ?_⟩
    rcases Nat.decEq j i with hji | rfl
    · obtain ⟨hjun, oj, hoj, hall⟩ := mem_ready.1 hj
      have hjz := noz seen hcl hr j hj
      have hno : ∀ e ∈ oj.after, Region.binds md e = true → e.on ≠ i := fun e he hb heq => by
        have h1 := hall e he hb
        rw [heq, getD_both (mem_ready.1 hr).1] at h1
        exact Bool.noConfusion h1
      refine wpOp_mono (fun a' w1 h3 => ⟨fun h => absurd h hjz, fun _ => ⟨(h3.2.2 hjz).1, ih _ a' w1 (hcl.set hj) (fun k ok hk hki hun hno' => hfree k ok hk hki ?_ hno') (ready_mono hr (Ne.symm hji)) (h3.1.grow hR (hR.trans hw (h3.2.2 hjz).1)) ?_⟩⟩) (hy.past hoj (hfree j oj hoj hji hjun hno) (fun cs b => hsel i oi cs b hi) (fun cs b => hsel j oj cs b hoj) hQ ((H w' hw).2 j (ready_mono hj hji)))
      · rcases Nat.decEq j k with hjk | rfl
        · rwa [getD_set_ne true hjk] at hun
        · exact hjun
      · rw [Array.setIfInBounds_comm _ _ hji]
        exact (h3.2.2 hjz).2
    · exact hy.step hi hR hw fun w'' hw2 => ⟨fun h => absurd h (noz seen hcl hr j hj), fun _ => ⟨hw2, fun w3 hw3 => H w3 (hR.trans hw (hR.trans hw2 hw3))⟩⟩
section
variable {f : Nat} {seen : Array Bool} {a : Act} {w : World}
/-- take a reading operation first -/
theorem wpX_take (hR : Grows R) {i : Nat} {oi : Oper} {v : Value} (hz : (decide (ops.size ≤ z) || waitsT md ops 3 z i) = true) (hcl : closedB md ops seen = true) (hi : ops[i]? = some oi) (hs : Region.noSelect ops = true) (hf : Region.free md ops seen i = true) (hr : (Region.ready md ops seen).contains i = true)
    (hQ : ∀ c a w, Q (.panic c) (a.put oi.dst v) w → Q (.panic c) a w) (hg : Region.wanted oi (yielded ops a.tmps) = true) (hy : ∀ W, R w W → (execOp a.eval oi).run P W = .ok (.value v) W)
    (h : wpX P md ops R z Q f (seen.setIfInBounds i true) (a.put oi.dst v) w) : wpX P md ops R z Q (f + 1) seen a w :=
  wpX_first hR hz hi (Region.noSelect_spec hs) hQ f seen a w (closed_spec hcl) (Region.free_spec hi hf) (by simpa using hr) (.inl ⟨hg, fun W hW => .inl (hy W hW)⟩) h
/-- take a call that hands back a plain value first -/
theorem wpX_call (hR : Grows R) {i : Nat} {oi : Oper} {v : Value} (hz : (decide (ops.size ≤ z) || waitsT md ops 3 z i) = true) (hcl : closedB md ops seen = true) (hi : ops[i]? = some oi) (hs : Region.noSelect ops = true) (hf : Region.free md ops seen i = true) (hr : (Region.ready md ops seen).contains i = true)
    (hQ : ∀ c a w, Q (.panic c) (a.put oi.dst v) w → Q (.panic c) a w) (hg : Region.wanted oi (yielded ops a.tmps) = true) (g : FuncId) (args : Array Value) (he : ∀ W, (execOp a.eval oi).run P W = .ok (.enter g args) W)
    (hy : ∀ W, R w W → Calls P g args W fun e w'' => e = .returned v ∧ R W w'')
    (h : wpX P md ops R z Q f (seen.setIfInBounds i true) (a.put oi.dst v) w) : wpX P md ops R z Q (f + 1) seen a w :=
  wpX_first hR hz hi (Region.noSelect_spec hs) hQ f seen a w (closed_spec hcl) (Region.free_spec hi hf) (by simpa using hr) (.inl ⟨hg, fun W hW => .inr ⟨g, args, he W, hy W hW⟩⟩) h
theorem wpX_skip (hR : Grows R) {i : Nat} {oi : Oper} (hz : (decide (ops.size ≤ z) || waitsT md ops 3 z i) = true) (hcl : closedB md ops seen = true) (hi : ops[i]? = some oi) (hs : Region.noSelect ops = true) (hf : Region.free md ops seen i = true) (hr : (Region.ready md ops seen).contains i = true)
    (hQ : ∀ c a w, Q (.panic c) (a.put oi.dst undef) w → Q (.panic c) a w) (hg : Region.wanted oi (yielded ops a.tmps) = false)
    (h : wpX P md ops R z Q f (seen.setIfInBounds i true) (a.put oi.dst undef) w) : wpX P md ops R z Q (f + 1) seen a w :=
  wpX_first hR hz hi (Region.noSelect_spec hs) hQ f seen a w (closed_spec hcl) (Region.free_spec hi hf) (by simpa using hr) (.inr ⟨hg, rfl⟩) h
/-- one operation alone may come up -/
theorem wpX_one (i : Nat) {o : Oper} (hr : Region.ready md ops seen = [i]) (hiz : decide (i = z) = false) (hi : ops[i]? = some o) (hg : Region.wanted o (yielded ops a.tmps) = true)
    (h : ∀ W, R w W → ∀ K : Act → World → Prop, (∀ a w', R W w' → wpX P md ops R z Q f (seen.setIfInBounds i true) a w' → K a w') → Oper.wp P o a W K Q) : wpX P md ops R z Q (f + 1) seen a w := by
  intro W hW
  refine ⟨fun h0 => (by rw [hr] at h0; cases h0), fun j hj => ?_⟩
  rw [hr, List.mem_singleton] at hj
  subst hj
  unfold wpOp
  simp only [hi, hg, if_true]
  exact .inl (h W hW _ fun a w' h1 h2 => ⟨fun e => by simp [e] at hiz, fun _ => ⟨h1, h2⟩⟩)
/-- z alone may come up: then anything goes -/
theorem wpX_out (i : Nat) {o : Oper} (hr : Region.ready md ops seen = [i]) (hiz : decide (i = z) = true) (hi : ops[i]? = some o) (hg : Region.wanted o (yielded ops a.tmps) = true)
    (h : ∀ W, R w W → ∀ K : Act → World → Prop, (∀ a w', wpAnyC P md ops (fun _ => True) Q f (seen.setIfInBounds i true) a w' → K a w') → Oper.wp P o a W K Q) : wpX P md ops R z Q (f + 1) seen a w := by
  intro W hW
  refine ⟨fun h0 => (by rw [hr] at h0; cases h0), fun j hj => ?_⟩
  rw [hr, List.mem_singleton] at hj
  subst hj
  unfold wpOp
  simp only [hi, hg, if_true]
  exact .inl (h W hW _ fun a w' h1 => ⟨fun _ => h1.any, fun e => absurd (of_decide_eq_true hiz) e⟩)
/-- nothing is left -/
theorem wpX_done (hr : Region.ready md ops seen = []) (h : ∀ W, R w W → Q .normal a W) : wpX P md ops R z Q f seen a w := by
  intro W hW
  cases f with
  | zero => exact ⟨hr, h W hW⟩
  | succ f => exact ⟨fun _ => h W hW, fun i hi => (by rw [hr] at hi; cases hi)⟩
theorem wp_region_X (R : World → World → Prop) (hR : Grows R) (z : Nat) {id : Nat} {l : List Oper} (hm : P.follows .mixedOrders = true) (h : wpX P .any l.toArray R z Q l.length (Array.replicate l.length false) a w.drew) : (Code.region id l.toArray true).wp P Q a w := by
  refine wp_region_any hm ?_
  have := (h _ (hR.rfl_ _)).any hR
  simpa using this
end
end
end Go.Proofs.YtfgjbbpkkbohhaaGreat
