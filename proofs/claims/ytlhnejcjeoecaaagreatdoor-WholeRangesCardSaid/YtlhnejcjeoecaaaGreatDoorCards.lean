/-
  DERIVED. GIVEN WITH THE SEED: THE CARDS: each row of YtlhnejcjeoecaaaGreatDoorRows.lean that lists a variable, with what it lists TIED to the program's text (the seventh form; the later family's looks); each row that meets fmt, with fmt's text TOLD by the authors' own Lean function (tested against real Go, not proved from fmt's source: count such statements apart). THE CARD IS WHAT COUNTS. Prove the row's statement (the work); the ties are given (YtlhnejcjeoecaaaGreatDoorTie.lean); close each card by the builder's one call (the guide's Derived/Test/ToyasCard.lean, 'card_holds'). Laid BY PROGRAM, IN A SANDBOX (cutbox-door.mjs). By AI agents, Wed Nov 11 2026. No macro, syntax, notation, axiom, sorry.
-/
import Derived.Test.YtlhnejcjeoecaaaGreatDoorRows
import GoSem.ClaimSeven
namespace Go.Proofs.YtlhnejcjeoecaaaGreatDoor
namespace Rows

/-- THE TIED CARD OF 'quaysidetop.WholeRanges'. -/
def wholeRangesCard : Claim7 := { stood := { row := wholeRangesRow, standIns := [], harness := (true, "dea920ee6f59c89c658460938a8e6de9fb22a9931b876afcda9bc714b1c16d81"), looks := false }, kinds := [], alts := [], laidByText := true, laidKinds := [.data, .data, .data, .data, .pinned], laidTests := true, laidLooks := .later }
def WholeRangesCardSaid : Prop := Claim7.holds Tryz.pinned (.plain (OpenSpec.ofChange wholeRangesSpec)) wholeRangesCard

/-- THE SECOND FORM's CARD OF 'quaysidetop.WholeRanges'. -/
def wholeRangesUptoCard : Claim7 := { stood := { row := wholeRangesUptoRow, standIns := [], harness := (true, "dea920ee6f59c89c658460938a8e6de9fb22a9931b876afcda9bc714b1c16d81"), looks := false }, kinds := [], alts := [], laidByText := true, laidKinds := [.data, .data, .data, .data, .pinned], laidTests := true, laidLooks := .later }
def WholeRangesUptoCardSaid : Prop := Claim7.holds Tryz.pinned (.plain (OpenSpec.upto wholeRangesSpec)) wholeRangesUptoCard
end Rows
end Go.Proofs.YtlhnejcjeoecaaaGreatDoor
