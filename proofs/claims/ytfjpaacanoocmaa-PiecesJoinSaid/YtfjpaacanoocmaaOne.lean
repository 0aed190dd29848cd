/- A region that draws its order and holds ONE call whose value is not plain: until that call comes up every operation is quiet; behind it too, whatever the call has handed back. -/
import Derived.Test.YtfjpaacanoocmaaKit
namespace Go.Proofs.Ytfjpaacanoocmaa
open Go.RowKit

section
variable {P : Program} {ops : Array Oper} {md : Region.Mode} {C : World → Prop} {Q : Act → Prop} {Q' : Exit → Act → World → Prop}

/-- operation i has not come up yet -/
def wpOne (P : Program) (md : Region.Mode) (ops : Array Oper) (C : World → Prop) (Q : Act → Prop) (Q' : Exit → Act → World → Prop) (i : Nat) : Nat → Array Bool → Act → Prop
  | 0, _, _ => False
  | fuel + 1, listed, a => Region.ready md ops listed ≠ [] ∧ ∀ j ∈ Region.ready md ops listed,
      (j = i ∧ ∀ w, C w → wpOp P ops Q' i (fun a' w' => C w' ∧ wpAnyQ P md ops C Q fuel (listed.setIfInBounds i true) a') a w) ∨
      (j ≠ i ∧ qOp P ops C j (wpOne P md ops C Q Q' i fuel (listed.setIfInBounds j true)) a)
theorem wpOne_step {i fuel : Nat} {listed : Array Bool} {a : Act} (rs : List Nat) (hr : Region.ready md ops listed = rs) (hne : rs ≠ [])
    (h : ∀ j ∈ rs, (j = i ∧ ∀ w, C w → wpOp P ops Q' i (fun a' w' => C w' ∧ wpAnyQ P md ops C Q fuel (listed.setIfInBounds i true) a') a w) ∨
      (j ≠ i ∧ qOp P ops C j (wpOne P md ops C Q Q' i fuel (listed.setIfInBounds j true)) a)) : wpOne P md ops C Q Q' i (fuel + 1) listed a := by
  subst hr
  exact ⟨hne, h⟩
theorem wpOp_mono' {i : Nat} {a : Act} {w : World} {K K' : Act → World → Prop} (hK : ∀ a w, K a w → K' a w) (h : wpOp P ops Q' i K a w) : wpOp P ops Q' i K' a w := by
  exact wpOp_mono hK h
theorem any_of_one (hQ : ∀ a w, C w → Q a → Q' .normal a w) {i : Nat} : ∀ (fuel : Nat) (listed : Array Bool) (a : Act) (w : World), C w → wpOne P md ops C Q Q' i fuel listed a → wpAny P md ops Q' fuel listed a w
  | 0, _, _, _, _, h => h.elim
  | fuel + 1, listed, a, w, hw, h => ⟨fun h0 => absurd h0 h.1, fun j hj => by
      rcases h.2 j hj with ⟨rfl, h1⟩ | ⟨_, h1⟩
      · exact wpOp_mono' (fun a' w' h2 => wpAny_of_quiet hQ fuel _ a' w' h2.1 h2.2) (h1 w hw)
      · exact wpOp_of_qOp hw (fun a' w' hw' h2 => any_of_one hQ fuel _ a' w' hw' h2) h1⟩
theorem wp_region_one {id i : Nat} {l : List Oper} {a : Act} {w : World} (hm : P.follows .mixedOrders = true) (hC : C { w with drawn := w.drawn + 1 })
    (hQ : ∀ a w, C w → Q a → Q' .normal a w)
    (h : wpOne P .any l.toArray C Q Q' i l.length (Array.replicate l.length false) a) : (Code.region id l.toArray true).wp P Q' a w := by
  refine wp_region_any hm ?_
  have := any_of_one hQ _ _ a _ hC h
  simpa using this
theorem qOp_of {i : Nat} {o : Oper} {a : Act} {K : Act → Prop} (ho : ops[i]? = some o) (hw : Region.wanted o (yielded ops a.tmps) = true) (h : o.quiet P a C K) : qOp P ops C i K a := by
  unfold qOp
  simp only [ho, hw, if_true]
  exact h
theorem wpOp_of {i : Nat} {o : Oper} {a : Act} {w : World} {K : Act → World → Prop} (ho : ops[i]? = some o) (hw : Region.wanted o (yielded ops a.tmps) = true) (h : o.wp P a w K Q') : wpOp P ops Q' i K a w := by
  unfold wpOp
  simp only [ho, hw, if_true]
  exact .inl h
theorem anyQ_first_of {i fuel : Nat} {o : Oper} {v : Value} (d : Option Tmp) {listed : Array Bool} {a : Act} (ho : ops[i]? = some o) (hs : Region.noSelect ops = true) (hf : Region.free md ops listed i = true) (hr : (Region.ready md ops listed).contains i = true)
    (hw : Region.wanted o (yielded ops a.tmps) = true) (hv : ∀ w, C w → o.quietAt P a C w v) (hd : o.dst = d) (h : wpAnyQ P md ops C Q fuel (listed.setIfInBounds i true) (a.put d v)) : wpAnyQ P md ops C Q (fuel + 1) listed a :=
  wpAnyQ_first ho (Region.noSelect_spec hs) fuel listed a (Region.free_spec ho hf) (by simpa using hr) (.inl ⟨hw, hv⟩) (by rw [hd]; exact h)
theorem anyQ_lex_of (k n : Nat) {listed : Array Bool} {a : Act} (hs : Region.noSelect ops = true) (hn : (ops.toList.drop k).length = n) (hB : Region.lexFrom md ops n k listed = true) (h : wpQuiet P ops C Q (ops.toList.drop k) a) : wpAnyQ P md ops C Q n listed a := by
  subst hn
  exact wpAnyQ_lex hs _ k listed a (fun j => by simp) hB h
end
end Go.Proofs.Ytfjpaacanoocmaa
