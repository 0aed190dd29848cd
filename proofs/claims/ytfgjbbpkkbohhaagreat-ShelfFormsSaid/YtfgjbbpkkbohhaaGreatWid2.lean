/- Regions in growing worlds: two operations may come up. -/
import Derived.Test.YtfgjbbpkkbohhaaGreatSoft
namespace Go.Proofs.YtfgjbbpkkbohhaaGreat
open Go.RowKit
section
variable {P : Program} {ops : Array Oper} {md : Region.Mode} {R : World → World → Prop} {z : Nat} {Q : Exit → Act → World → Prop} {f : Nat} {seen : Array Bool} {a : Act} {w : World}
theorem wpX_two (i j : Nat) {oi oj : Oper} (hr : Region.ready md ops seen = [i, j]) (hiz : decide (i = z) = false) (hjz : decide (j = z) = false) (hi : ops[i]? = some oi) (hj : ops[j]? = some oj) (hgi : Region.wanted oi (yielded ops a.tmps) = true) (hgj : Region.wanted oj (yielded ops a.tmps) = true)
    (h1 : ∀ W, R w W → ∀ K : Act → World → Prop, (∀ a w', R W w' → wpX P md ops R z Q f (seen.setIfInBounds i true) a w' → K a w') → Oper.wp P oi a W K Q)
    (h2 : ∀ W, R w W → ∀ K : Act → World → Prop, (∀ a w', R W w' → wpX P md ops R z Q f (seen.setIfInBounds j true) a w' → K a w') → Oper.wp P oj a W K Q) : wpX P md ops R z Q (f + 1) seen a w := by
  intro W hW
  refine ⟨fun h0 => (by rw [hr] at h0; cases h0), fun k hk => ?_⟩
  rw [hr] at hk
  simp only [List.mem_cons, List.not_mem_nil, or_false] at hk
  rcases hk with rfl | rfl
  · unfold wpOp
    simp only [hi, hgi, if_true]
    exact .inl (h1 W hW _ fun a w' h1 h2 => ⟨fun e => by simp [e] at hiz, fun _ => ⟨h1, h2⟩⟩)
  · unfold wpOp
    simp only [hj, hgj, if_true]
    exact .inl (h2 W hW _ fun a w' h1 h2 => ⟨fun e => by simp [e] at hjz, fun _ => ⟨h1, h2⟩⟩)
end
end Go.Proofs.YtfgjbbpkkbohhaaGreat
