/- Chapter 20: a Read of both bodies. -/
import Derived.Test.YtfjpaacanoocmaaPf5
import Derived.Test.YtfjpaacanoocmaaPcK
namespace Go.Proofs.Ytfjpaacanoocmaa
open Go.RowKit Go.Deep Go.Sort
theorem conv_empty (W : World) : (convert 38 9 (.slice none 0 0)).run Try.prog W = .ok (.string ⟨#[]⟩) W := by kernel_rfl
theorem reads_both {w : World} {B b l mb len d t : Nat} {tag : ByteArray} {D : Nat → Option ByteArray} {G : Nat → Prop} (h : PSt w B b l mb len d t tag D G) (hl : len ≤ 65536) (F T : Int) :
    ∃ (y : ByteArray) (q : Int),
      (∀ W, Ext w W → Calls Try.prog 18 #[.pointer (some ⟨b, 0, none⟩), rngV F T] W fun e w' => ∃ v ev, e = .returned (.tuple #[v, ev]) ∧ Ext W w' ∧
        (∀ W', Ext w' W' → (convert 38 9 v).run Try.prog W' = .ok (.string y) W') ∧ ∀ W', Calls Try.prog 20 #[ev] W' fun e w'' => e = .returned (.int .i64 q) ∧ W' = w'') ∧
      (∀ W, Ext w W → Calls Try.prog 29 #[refV tag len d t, rngV F T] W fun e w' => e = .returned (.tuple #[.string y, .int .i64 q]) ∧ Ext W w') := by
  by_cases hb : F < 0 ∨ T < F ∨ (len : Int) < T
  · refine ⟨⟨#[]⟩, 1, fun W hW => (read_bad (h.body.ext hW) F T hb).mono ?_, fun W _ => rread_bad F T hb⟩
    rintro e w' ⟨rfl, hx⟩
    exact ⟨_, _, rfl, hx, fun W' _ => conv_empty W', fun W' => num_err 1 W'⟩
  · obtain ⟨f, rfl⟩ : ∃ f : Nat, F = (f : Int) := ⟨F.toNat, by omega⟩
    obtain ⟨u, rfl⟩ : ∃ u : Nat, T = (u : Int) := ⟨T.toNat, by omega⟩
    have hfu : f ≤ u := by omega
    have hul : u ≤ len := by omega
    by_cases hg : gaps D (pcs f u) = []
    · refine ⟨strOfNums (rdL D f u), 0, fun W hW => (read_ok (h.body.ext hW) h.ok f u hl hfu hul hg).mono ?_, fun W hW => (rread_in (h.ref.ext hW) h.ok f u hl hfu hul).mono ?_⟩
      · rintro e w' ⟨v, rfl, hx, ho⟩
        exact ⟨_, _, rfl, hx, fun W' hW' => conv_any ho hW', fun W' => num_nil W'⟩
      · rintro e w' ⟨rfl, hx⟩
        rw [if_pos hg, if_pos hg]
        exact ⟨rfl, hx⟩
    · refine ⟨⟨#[]⟩, 3, fun W hW => (read_none (h.body.ext hW) f u hl hfu hul hg).mono ?_, fun W hW => (rread_in (h.ref.ext hW) h.ok f u hl hfu hul).mono ?_⟩
      · rintro e w' ⟨rfl, hx⟩
        exact ⟨_, _, rfl, hx, fun W' _ => conv_empty W', fun W' => num_err 3 W'⟩
      · rintro e w' ⟨rfl, hx⟩
        rw [if_neg hg, if_neg hg]
        exact ⟨rfl, hx⟩
end Go.Proofs.Ytfjpaacanoocmaa
