/-
  DERIVED. GIVEN WITH THE SEED: THE CARDS: each row of YteamnofooicbeaaDoorRows.lean that lists a variable, with what it lists TIED to the program's text (the seventh form; the later family's looks); each row that meets fmt, with fmt's text TOLD by the authors' own Lean function (tested against real Go, not proved from fmt's source: count such statements apart). THE CARD IS WHAT COUNTS. Prove the row's statement (the work); the ties are given (YteamnofooicbeaaDoorTie.lean); close each card by the builder's one call (the guide's Derived/Test/ToyasCard.lean, 'card_holds'). Laid BY PROGRAM, IN A SANDBOX (cutbox-door.mjs). By AI agents, Wed Nov 11 2026. No macro, syntax, notation, axiom, sorry.
-/
import Derived.Test.YteamnofooicbeaaDoorRows
import GoSem.ClaimSeven
namespace Go.Proofs.YteamnofooicbeaaDoor
namespace Rows

/-- THE TIED CARD OF 'quaysidelaw09.RangesParses'. -/
def rangesParsesCard : Claim7 := { stood := { row := rangesParsesRow, standIns := [], harness := (true, "a39b926f5fb5640cf0f4940b22d7ba3ea67af0c77f037e4c0186f372b8f379c8"), looks := true }, kinds := [], alts := [], laidByText := true, laidKinds := [.data, .pinned], laidTests := true, laidLooks := .later }
def RangesParsesCardSaid : Prop := Claim7.holds Tryd.pinned (.plain (OpenSpec.ofChange rangesParsesSpec)) rangesParsesCard

/-- THE TIED CARD OF 'quaysidelaw09.RangesSpells'. -/
def rangesSpellsCard : Claim7 := { stood := { row := rangesSpellsRow, standIns := [], harness := (true, "a39b926f5fb5640cf0f4940b22d7ba3ea67af0c77f037e4c0186f372b8f379c8"), looks := true }, kinds := [], alts := [], laidByText := true, laidKinds := [.data, .pinned], laidTests := true, laidLooks := .later }
def RangesSpellsCardSaid : Prop := Claim7.holds Tryd.pinned (.plain (OpenSpec.ofChange rangesSpellsSpec)) rangesSpellsCard

/-- THE TIED CARD OF 'quaysidelaw09.RangesContent'. -/
def rangesContentCard : Claim7 := { stood := { row := rangesContentRow, standIns := [], harness := (true, "a39b926f5fb5640cf0f4940b22d7ba3ea67af0c77f037e4c0186f372b8f379c8"), looks := true }, kinds := [], alts := [], laidByText := true, laidKinds := [.data, .data, .data, .data, .pinned], laidTests := true, laidLooks := .later }
def RangesContentCardSaid : Prop := Claim7.holds Tryd.pinned (.plain (OpenSpec.ofChange rangesContentSpec)) rangesContentCard

/-- THE TIED CARD OF 'quaysidelaw09.RangesFormats'. -/
def rangesFormatsCard : Claim7 := { stood := { row := rangesFormatsRow, standIns := [], harness := (true, "a39b926f5fb5640cf0f4940b22d7ba3ea67af0c77f037e4c0186f372b8f379c8"), looks := true }, kinds := [], alts := [], laidByText := true, laidKinds := [.data, .data, .data, .data, .pinned], laidTests := true, laidLooks := .later }
def RangesFormatsCardSaid : Prop := Claim7.holds Tryd.pinned (.plain (OpenSpec.ofChange rangesFormatsSpec)) rangesFormatsCard

/-- THE TIED CARD OF 'quaysidelaw09.RangesReads'. -/
def rangesReadsCard : Claim7 := { stood := { row := rangesReadsRow, standIns := [], harness := (true, "a39b926f5fb5640cf0f4940b22d7ba3ea67af0c77f037e4c0186f372b8f379c8"), looks := true }, kinds := [], alts := [], laidByText := true, laidKinds := [.data, .data, .data, .data, .pinned], laidTests := true, laidLooks := .later }
def RangesReadsCardSaid : Prop := Claim7.holds Tryd.pinned (.plain (OpenSpec.ofChange rangesReadsSpec)) rangesReadsCard

/-- THE TIED CARD OF 'quaysidelaw09.RangesMerges'. -/
def rangesMergesCard : Claim7 := { stood := { row := rangesMergesRow, standIns := [], harness := (true, "a39b926f5fb5640cf0f4940b22d7ba3ea67af0c77f037e4c0186f372b8f379c8"), looks := true }, kinds := [], alts := [], laidByText := true, laidKinds := [.data, .pinned], laidTests := true, laidLooks := .later }
def RangesMergesCardSaid : Prop := Claim7.holds Tryd.pinned (.plain (OpenSpec.ofChange rangesMergesSpec)) rangesMergesCard

/-- THE TIED CARD OF 'quaysidelaw09.RangesCovers'. -/
def rangesCoversCard : Claim7 := { stood := { row := rangesCoversRow, standIns := [], harness := (true, "a39b926f5fb5640cf0f4940b22d7ba3ea67af0c77f037e4c0186f372b8f379c8"), looks := true }, kinds := [], alts := [], laidByText := true, laidKinds := [.data, .pinned], laidTests := true, laidLooks := .later }
def RangesCoversCardSaid : Prop := Claim7.holds Tryd.pinned (.plain (OpenSpec.ofChange rangesCoversSpec)) rangesCoversCard

/-- THE TIED CARD OF 'quaysidelaw09.RangesPieces'. -/
def rangesPiecesCard : Claim7 := { stood := { row := rangesPiecesRow, standIns := [], harness := (true, "a39b926f5fb5640cf0f4940b22d7ba3ea67af0c77f037e4c0186f372b8f379c8"), looks := true }, kinds := [], alts := [], laidByText := true, laidKinds := [.data, .pinned], laidTests := true, laidLooks := .later }
def RangesPiecesCardSaid : Prop := Claim7.holds Tryd.pinned (.plain (OpenSpec.ofChange rangesPiecesSpec)) rangesPiecesCard

/-- THE TIED CARD OF 'quaysidelaw09.RangesMultipart'. -/
def rangesMultipartCard : Claim7 := { stood := { row := rangesMultipartRow, standIns := [], harness := (true, "a39b926f5fb5640cf0f4940b22d7ba3ea67af0c77f037e4c0186f372b8f379c8"), looks := true }, kinds := [], alts := [], laidByText := true, laidKinds := [.data, .data, .data, .data, .pinned], laidTests := true, laidLooks := .later }
def RangesMultipartCardSaid : Prop := Claim7.holds Tryd.pinned (.plain (OpenSpec.ofChange rangesMultipartSpec)) rangesMultipartCard

/-- THE SECOND FORM's CARD OF 'quaysidelaw09.RangesParses'. -/
def rangesParsesUptoCard : Claim7 := { stood := { row := rangesParsesUptoRow, standIns := [], harness := (true, "a39b926f5fb5640cf0f4940b22d7ba3ea67af0c77f037e4c0186f372b8f379c8"), looks := true }, kinds := [], alts := [], laidByText := true, laidKinds := [.data, .pinned], laidTests := true, laidLooks := .later }
def RangesParsesUptoCardSaid : Prop := Claim7.holds Tryd.pinned (.plain (OpenSpec.upto rangesParsesSpec)) rangesParsesUptoCard

/-- THE SECOND FORM's CARD OF 'quaysidelaw09.RangesSpells'. -/
def rangesSpellsUptoCard : Claim7 := { stood := { row := rangesSpellsUptoRow, standIns := [], harness := (true, "a39b926f5fb5640cf0f4940b22d7ba3ea67af0c77f037e4c0186f372b8f379c8"), looks := true }, kinds := [], alts := [], laidByText := true, laidKinds := [.data, .pinned], laidTests := true, laidLooks := .later }
def RangesSpellsUptoCardSaid : Prop := Claim7.holds Tryd.pinned (.plain (OpenSpec.upto rangesSpellsSpec)) rangesSpellsUptoCard

/-- THE SECOND FORM's CARD OF 'quaysidelaw09.RangesContent'. -/
def rangesContentUptoCard : Claim7 := { stood := { row := rangesContentUptoRow, standIns := [], harness := (true, "a39b926f5fb5640cf0f4940b22d7ba3ea67af0c77f037e4c0186f372b8f379c8"), looks := true }, kinds := [], alts := [], laidByText := true, laidKinds := [.data, .data, .data, .data, .pinned], laidTests := true, laidLooks := .later }
def RangesContentUptoCardSaid : Prop := Claim7.holds Tryd.pinned (.plain (OpenSpec.upto rangesContentSpec)) rangesContentUptoCard

/-- THE SECOND FORM's CARD OF 'quaysidelaw09.RangesFormats'. -/
def rangesFormatsUptoCard : Claim7 := { stood := { row := rangesFormatsUptoRow, standIns := [], harness := (true, "a39b926f5fb5640cf0f4940b22d7ba3ea67af0c77f037e4c0186f372b8f379c8"), looks := true }, kinds := [], alts := [], laidByText := true, laidKinds := [.data, .data, .data, .data, .pinned], laidTests := true, laidLooks := .later }
def RangesFormatsUptoCardSaid : Prop := Claim7.holds Tryd.pinned (.plain (OpenSpec.upto rangesFormatsSpec)) rangesFormatsUptoCard

/-- THE SECOND FORM's CARD OF 'quaysidelaw09.RangesReads'. -/
def rangesReadsUptoCard : Claim7 := { stood := { row := rangesReadsUptoRow, standIns := [], harness := (true, "a39b926f5fb5640cf0f4940b22d7ba3ea67af0c77f037e4c0186f372b8f379c8"), looks := true }, kinds := [], alts := [], laidByText := true, laidKinds := [.data, .data, .data, .data, .pinned], laidTests := true, laidLooks := .later }
def RangesReadsUptoCardSaid : Prop := Claim7.holds Tryd.pinned (.plain (OpenSpec.upto rangesReadsSpec)) rangesReadsUptoCard

/-- THE SECOND FORM's CARD OF 'quaysidelaw09.RangesMerges'. -/
def rangesMergesUptoCard : Claim7 := { stood := { row := rangesMergesUptoRow, standIns := [], harness := (true, "a39b926f5fb5640cf0f4940b22d7ba3ea67af0c77f037e4c0186f372b8f379c8"), looks := true }, kinds := [], alts := [], laidByText := true, laidKinds := [.data, .pinned], laidTests := true, laidLooks := .later }
def RangesMergesUptoCardSaid : Prop := Claim7.holds Tryd.pinned (.plain (OpenSpec.upto rangesMergesSpec)) rangesMergesUptoCard

/-- THE SECOND FORM's CARD OF 'quaysidelaw09.RangesCovers'. -/
def rangesCoversUptoCard : Claim7 := { stood := { row := rangesCoversUptoRow, standIns := [], harness := (true, "a39b926f5fb5640cf0f4940b22d7ba3ea67af0c77f037e4c0186f372b8f379c8"), looks := true }, kinds := [], alts := [], laidByText := true, laidKinds := [.data, .pinned], laidTests := true, laidLooks := .later }
def RangesCoversUptoCardSaid : Prop := Claim7.holds Tryd.pinned (.plain (OpenSpec.upto rangesCoversSpec)) rangesCoversUptoCard

/-- THE SECOND FORM's CARD OF 'quaysidelaw09.RangesPieces'. -/
def rangesPiecesUptoCard : Claim7 := { stood := { row := rangesPiecesUptoRow, standIns := [], harness := (true, "a39b926f5fb5640cf0f4940b22d7ba3ea67af0c77f037e4c0186f372b8f379c8"), looks := true }, kinds := [], alts := [], laidByText := true, laidKinds := [.data, .pinned], laidTests := true, laidLooks := .later }
def RangesPiecesUptoCardSaid : Prop := Claim7.holds Tryd.pinned (.plain (OpenSpec.upto rangesPiecesSpec)) rangesPiecesUptoCard

/-- THE SECOND FORM's CARD OF 'quaysidelaw09.RangesMultipart'. -/
def rangesMultipartUptoCard : Claim7 := { stood := { row := rangesMultipartUptoRow, standIns := [], harness := (true, "a39b926f5fb5640cf0f4940b22d7ba3ea67af0c77f037e4c0186f372b8f379c8"), looks := true }, kinds := [], alts := [], laidByText := true, laidKinds := [.data, .data, .data, .data, .pinned], laidTests := true, laidLooks := .later }
def RangesMultipartUptoCardSaid : Prop := Claim7.holds Tryd.pinned (.plain (OpenSpec.upto rangesMultipartSpec)) rangesMultipartUptoCard
end Rows
end Go.Proofs.YteamnofooicbeaaDoor
