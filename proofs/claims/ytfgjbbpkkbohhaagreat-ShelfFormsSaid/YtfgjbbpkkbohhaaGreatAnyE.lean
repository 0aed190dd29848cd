/- Regions that draw their order, as XAnyC, but operation z, which waits for those that are taken first, may leave the class (a store). -/
import Derived.Test.YtfgjbbpkkbohhaaGreatAnyD
namespace Go.Proofs.YtfgjbbpkkbohhaaGreat
open Go.RowKit
section
variable {P : Program} {ops : Array Oper} {md : Region.Mode} {C : World → Prop} {z : Nat} {Q : Exit → Act → World → Prop}
/-- with each operation that has come up, those that it waits for have -/
def ClosedS (md : Region.Mode) (ops : Array Oper) (seen : Array Bool) : Prop := ∀ j oj, ops[j]? = some oj → seen.getD j false = true → ∀ e ∈ oj.after, Region.binds md e = true → seen.getD e.on false = true
def closedB (md : Region.Mode) (ops : Array Oper) (seen : Array Bool) : Bool := (List.range ops.size).all fun j => !(seen.getD j false) || match ops[j]? with | some oj => oj.after.all fun e => !(Region.binds md e) || seen.getD e.on false | none => true
theorem closed_spec {seen : Array Bool} (h : closedB md ops seen = true) : ClosedS md ops seen := by
  intro j oj hj hs e he hb
  have hlt : j < ops.size := (Array.getElem?_eq_some_iff.1 hj).1
  have h1 := List.all_eq_true.1 h j (List.mem_range.2 hlt)
  rw [hs, hj] at h1
  simp only [Bool.not_true, Bool.false_or] at h1
  have h2 := Array.all_eq_true'.1 h1 e he
  rw [hb] at h2
  simpa using h2
theorem ClosedS.set {seen : Array Bool} (h : ClosedS md ops seen) {j : Nat} (hr : j ∈ Region.ready md ops seen) : ClosedS md ops (seen.setIfInBounds j true) := by
  intro k ok hk hs e he hb
  rcases Nat.decEq j k with hjk | rfl
  · rw [getD_set_ne false hjk] at hs
    exact getD_set_true (h k ok hk hs e he hb)
  · obtain ⟨_, o', ho', hall⟩ := mem_ready.1 hr
    rw [hk] at ho'
    cases ho'
    exact getD_set_true (hall e he hb)
/-- z waits for i, through others it may be -/
def waitsT (md : Region.Mode) (ops : Array Oper) : Nat → Nat → Nat → Bool
  | 0, z, i => Region.waitsFor md ops z i
  | f + 1, z, i => Region.waitsFor md ops z i || (List.range ops.size).any fun m => Region.waitsFor md ops z m && waitsT md ops f m i
theorem waits_seen {seen : Array Bool} (hc : ClosedS md ops seen) : ∀ (f z i : Nat), (∀ oz, ops[z]? = some oz → ∀ e ∈ oz.after, Region.binds md e = true → seen.getD e.on false = true) → waitsT md ops f z i = true → seen.getD i false = true
  | 0, z, i, hz, h => by
    obtain ⟨oz, ho, e, he, hb, hon⟩ := Region.waitsFor_spec h
    rw [← hon]
    exact hz oz ho e he hb
  | f + 1, z, i, hz, h => by
    unfold waitsT at h
    rw [Bool.or_eq_true] at h
    rcases h with h | h
    · obtain ⟨oz, ho, e, he, hb, hon⟩ := Region.waitsFor_spec h
      rw [← hon]
      exact hz oz ho e he hb
    · obtain ⟨m, -, hm⟩ := List.any_eq_true.1 h
      rw [Bool.and_eq_true] at hm
      obtain ⟨oz, ho, e, he, hb, hon⟩ := Region.waitsFor_spec hm.1
      have hsm := hz oz ho e he hb
      rw [hon] at hsm
      exact waits_seen hc f m i (fun om hom e' he' hb' => hc m om hom hsm e' he' hb') hm.2
/-- what is left to draw, no operation but z leaving the class -/
def wpAnyE (P : Program) (md : Region.Mode) (ops : Array Oper) (C : World → Prop) (z : Nat) (Q : Exit → Act → World → Prop) : Nat → Array Bool → Act → World → Prop
  | 0, seen, a, w => Region.ready md ops seen = [] ∧ Q .normal a w
  | f + 1, seen, a, w => (Region.ready md ops seen = [] → Q .normal a w) ∧ ∀ i ∈ Region.ready md ops seen, wpOp P ops Q i (fun a' w' => (i = z ∨ C w') ∧ wpAnyE P md ops C z Q f (seen.setIfInBounds i true) a' w') a w
theorem wpAnyE.any : ∀ {f : Nat} {seen : Array Bool} {a : Act} {w : World}, wpAnyE P md ops C z Q f seen a w → wpAny P md ops Q f seen a w
  | 0, _, _, _, h => h
  | _ + 1, _, _, _, h => ⟨h.1, fun i hi => wpOp_mono (fun _ _ h2 => wpAnyE.any h2.2) (h.2 i hi)⟩
theorem wpAnyE_first {i : Nat} (hz : waitsT md ops 3 z i = true) {oi : Oper} {v : Value} (hi : ops[i]? = some oi) (hsel : ∀ (j : Nat) (o : Oper) cs b, ops[j]? = some o → o.op ≠ .select cs b) (hQ : ∀ c a w, Q (.panic c) (a.put oi.dst v) w → Q (.panic c) a w) (f : Nat) :
    ∀ (seen : Array Bool) (a : Act) (w : World), C w → ClosedS md ops seen →
      (∀ j oj, ops[j]? = some oj → j ≠ i → seen.getD j true = false → (∀ e ∈ oj.after, Region.binds md e = true → e.on ≠ i) → oi.apart ops oj = true) →
      i ∈ Region.ready md ops seen → ReadsC P ops C oi v a →
      wpAnyE P md ops C z Q f (seen.setIfInBounds i true) (a.put oi.dst v) w → wpAnyE P md ops C z Q (f + 1) seen a w := by
  induction f with
  | zero =>
    intro seen a w hw hcl _ hr hy H
    refine ⟨fun h => absurd hr (by rw [h]; simp), fun j hj => ?_⟩
    rcases Nat.decEq j i with hji | rfl
    · have := ready_mono hj hji
      rw [H.1] at this
      cases this
    · exact hy.step hi hw ⟨.inr hw, H⟩
  | succ f ih =>
    intro seen a w hw hcl hfree hr hy H
    refine ⟨fun h => absurd hr (by rw [h]; simp), fun j hj => ?_⟩
    rcases Nat.decEq j i with hji | rfl
    · obtain ⟨hjun, oj, hoj, hall⟩ := mem_ready.1 hj
      have hjz : j ≠ z := by
        rintro rfl
        have h1 := waits_seen hcl 3 j i (fun oz hoz e he hb => by
          rw [hoj] at hoz
          cases hoz
          exact hall e he hb) hz
        rw [getD_both (mem_ready.1 hr).1] at h1
        exact Bool.noConfusion h1
      have hno : ∀ e ∈ oj.after, Region.binds md e = true → e.on ≠ i := fun e he hb heq => by
        have h1 := hall e he hb
        rw [heq, getD_both (mem_ready.1 hr).1] at h1
        exact Bool.noConfusion h1
      refine wpOp_mono (fun a' w' h3 => ⟨.inr (h3.2.1.resolve_left hjz), ih _ a' w' (h3.2.1.resolve_left hjz) (hcl.set hj) (fun k ok hk hki hun hno' => hfree k ok hk hki ?_ hno') (ready_mono hr (Ne.symm hji)) h3.1 ?_⟩) (hy.past hoj (hfree j oj hoj hji hjun hno) (fun cs b => hsel i oi cs b hi) (fun cs b => hsel j oj cs b hoj) hQ (H.2 j (ready_mono hj hji)))
      · rcases Nat.decEq j k with hjk | rfl
        · rwa [getD_set_ne true hjk] at hun
        · exact hjun
      · rw [Array.setIfInBounds_comm _ _ hji]
        exact h3.2.2
    · exact hy.step hi hw ⟨.inr hw, H⟩
/-- take a reading operation first -/
theorem wpAnyE_take {i : Nat} {oi : Oper} {v : Value} {f : Nat} {seen : Array Bool} {a : Act} {w : World} (hz : waitsT md ops 3 z i = true) (hcl : closedB md ops seen = true) (hi : ops[i]? = some oi) (hs : Region.noSelect ops = true) (hf : Region.free md ops seen i = true) (hr : (Region.ready md ops seen).contains i = true)
    (hQ : ∀ c a w, Q (.panic c) (a.put oi.dst v) w → Q (.panic c) a w) (hw : C w) (hg : Region.wanted oi (yielded ops a.tmps) = true) (hy : ∀ w, C w → (execOp a.eval oi).run P w = .ok (.value v) w)
    (h : wpAnyE P md ops C z Q f (seen.setIfInBounds i true) (a.put oi.dst v) w) : wpAnyE P md ops C z Q (f + 1) seen a w :=
  wpAnyE_first hz hi (Region.noSelect_spec hs) hQ f seen a w hw (closed_spec hcl) (Region.free_spec hi hf) (by simpa using hr) (.inl ⟨hg, hy⟩) h
/-- only one operation may come up -/
theorem wpAnyE_one (i : Nat) {o : Oper} {f : Nat} {seen : Array Bool} {a : Act} {w : World} (hr : Region.ready md ops seen = [i]) (hi : ops[i]? = some o) (hg : Region.wanted o (yielded ops a.tmps) = true)
    (h : ∀ K : Act → World → Prop, (∀ a w, (i = z ∨ C w) → wpAnyE P md ops C z Q f (seen.setIfInBounds i true) a w → K a w) → Oper.wp P o a w K Q) : wpAnyE P md ops C z Q (f + 1) seen a w := by
  refine ⟨fun h0 => (by rw [hr] at h0; cases h0), fun j hj => ?_⟩
  rw [hr, List.mem_singleton] at hj
  subst hj
  unfold wpOp
  simp only [hi, hg, if_true]
  exact .inl (h _ fun a w h1 h2 => ⟨h1, h2⟩)
theorem wpAnyE_skip {i : Nat} {oi : Oper} {f : Nat} {seen : Array Bool} {a : Act} {w : World} (hz : waitsT md ops 3 z i = true) (hcl : closedB md ops seen = true) (hi : ops[i]? = some oi) (hs : Region.noSelect ops = true) (hf : Region.free md ops seen i = true) (hr : (Region.ready md ops seen).contains i = true)
    (hQ : ∀ c a w, Q (.panic c) (a.put oi.dst undef) w → Q (.panic c) a w) (hw : C w) (hg : Region.wanted oi (yielded ops a.tmps) = false)
    (h : wpAnyE P md ops C z Q f (seen.setIfInBounds i true) (a.put oi.dst undef) w) : wpAnyE P md ops C z Q (f + 1) seen a w :=
  wpAnyE_first hz hi (Region.noSelect_spec hs) hQ f seen a w hw (closed_spec hcl) (Region.free_spec hi hf) (by simpa using hr) (.inr ⟨hg, rfl⟩) h
theorem wp_region_E (z : Nat) {id : Nat} {a : Act} {w : World} {l : List Oper} (hm : P.follows .mixedOrders = true) (h : wpAnyE P .any l.toArray C z Q l.length (Array.replicate l.length false) a w.drew) : (Code.region id l.toArray true).wp P Q a w := by
  refine wp_region_any hm ?_
  have := wpAnyE.any h
  simpa using this
end
end Go.Proofs.YtfgjbbpkkbohhaaGreat
