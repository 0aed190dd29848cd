/- Two operations may come up in a region that draws its order. -/
import Derived.Test.YtfgjbbpkkbohhaaGreatAnyC
namespace Go.Proofs.YtfgjbbpkkbohhaaGreat
open Go.RowKit
section
variable {P : Program} {ops : Array Oper} {md : Region.Mode} {C : World → Prop} {Q : Exit → Act → World → Prop}
theorem wpAnyC_two (i j : Nat) {f : Nat} {seen : Array Bool} {a : Act} {w : World} (hr : Region.ready md ops seen = [i, j])
    (h1 : wpOp P ops Q i (fun a' w' => C w' ∧ wpAnyC P md ops C Q f (seen.setIfInBounds i true) a' w') a w)
    (h2 : wpOp P ops Q j (fun a' w' => C w' ∧ wpAnyC P md ops C Q f (seen.setIfInBounds j true) a' w') a w) : wpAnyC P md ops C Q (f + 1) seen a w := by
  refine ⟨fun h0 => (by rw [hr] at h0; cases h0), fun k hk => ?_⟩
  rw [hr] at hk
  simp only [List.mem_cons, List.not_mem_nil, or_false] at hk
  rcases hk with rfl | rfl
  · exact h1
  · exact h2
theorem wpOpC_of {i : Nat} {o : Oper} {f : Nat} {seen : Array Bool} {a : Act} {w : World} (hi : ops[i]? = some o) (hg : Region.wanted o (yielded ops a.tmps) = true)
    (h : ∀ K : Act → World → Prop, (∀ a w, C w → wpAnyC P md ops C Q f (seen.setIfInBounds i true) a w → K a w) → Oper.wp P o a w K Q) : wpOp P ops Q i (fun a' w' => C w' ∧ wpAnyC P md ops C Q f (seen.setIfInBounds i true) a' w') a w := by
  unfold wpOp
  simp only [hi, hg, if_true]
  exact .inl (h _ fun a w h1 h2 => ⟨h1, h2⟩)
theorem wp_region_C {id : Nat} {a : Act} {w : World} {l : List Oper} (hm : P.follows .mixedOrders = true) (h : wpAnyC P .any l.toArray C Q l.length (Array.replicate l.length false) a w.drew) : (Code.region id l.toArray true).wp P Q a w := by
  refine wp_region_any hm ?_
  have := wpAnyC.any h
  simpa using this
end
end Go.Proofs.YtfgjbbpkkbohhaaGreat
