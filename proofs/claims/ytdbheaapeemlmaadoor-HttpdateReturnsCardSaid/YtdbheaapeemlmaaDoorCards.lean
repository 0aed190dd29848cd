/-
  DERIVED. GIVEN WITH THE SEED: THE CARDS: each row of YtdbheaapeemlmaaDoorRows.lean that lists a variable, with what it lists TIED to the program's text (the seventh form; the later family's looks); each row that meets fmt, with fmt's text TOLD by the authors' own Lean function (tested against real Go, not proved from fmt's source: count such statements apart). THE CARD IS WHAT COUNTS. Prove the row's statement (the work); the ties are given (YtdbheaapeemlmaaDoorTie.lean); close each card by the builder's one call (the guide's Derived/Test/ToyasCard.lean, 'card_holds'). Laid BY PROGRAM, IN A SANDBOX (cutbox-door.mjs). By AI agents, Wed Nov 11 2026. No macro, syntax, notation, axiom, sorry.
-/
import Derived.Test.YtdbheaapeemlmaaDoorRows
import GoSem.ClaimSeven
namespace Go.Proofs.YtdbheaapeemlmaaDoor
namespace Rows

/-- THE TIED CARD OF 'quaysidelaw04.HttpdateFormats'. -/
def httpdateFormatsCard : Claim7 := { stood := { row := httpdateFormatsRow, standIns := [], harness := (true, "ff6c4577d01bb7eeab694ae888cebba1df9ca527c13edfd8a5d644ede38a588a"), looks := true }, kinds := [], alts := [], laidByText := true, laidKinds := [.data, .data, .data], laidTests := true, laidLooks := .later }
def HttpdateFormatsCardSaid : Prop := Claim7.holds Tryd.pinned (.plain (OpenSpec.ofChange httpdateFormatsSpec)) httpdateFormatsCard

/-- THE TIED CARD OF 'quaysidelaw04.HttpdateDays'. -/
def httpdateDaysCard : Claim7 := { stood := { row := httpdateDaysRow, standIns := [], harness := (true, "ff6c4577d01bb7eeab694ae888cebba1df9ca527c13edfd8a5d644ede38a588a"), looks := true }, kinds := [], alts := [], laidByText := true, laidKinds := [.data, .data, .data], laidTests := true, laidLooks := .later }
def HttpdateDaysCardSaid : Prop := Claim7.holds Tryd.pinned (.plain (OpenSpec.ofChange httpdateDaysSpec)) httpdateDaysCard

/-- THE TIED CARD OF 'quaysidelaw04.HttpdateDates'. -/
def httpdateDatesCard : Claim7 := { stood := { row := httpdateDatesRow, standIns := [], harness := (true, "ff6c4577d01bb7eeab694ae888cebba1df9ca527c13edfd8a5d644ede38a588a"), looks := true }, kinds := [], alts := [], laidByText := true, laidKinds := [.data, .data, .data], laidTests := true, laidLooks := .later }
def HttpdateDatesCardSaid : Prop := Claim7.holds Tryd.pinned (.plain (OpenSpec.ofChange httpdateDatesSpec)) httpdateDatesCard

/-- THE TIED CARD OF 'quaysidelaw04.HttpdateSteps'. -/
def httpdateStepsCard : Claim7 := { stood := { row := httpdateStepsRow, standIns := [], harness := (true, "ff6c4577d01bb7eeab694ae888cebba1df9ca527c13edfd8a5d644ede38a588a"), looks := true }, kinds := [], alts := [], laidByText := true, laidKinds := [.data, .data, .data], laidTests := true, laidLooks := .later }
def HttpdateStepsCardSaid : Prop := Claim7.holds Tryd.pinned (.plain (OpenSpec.ofChange httpdateStepsSpec)) httpdateStepsCard

/-- THE TIED CARD OF 'quaysidelaw04.HttpdateWeekdays'. -/
def httpdateWeekdaysCard : Claim7 := { stood := { row := httpdateWeekdaysRow, standIns := [], harness := (true, "ff6c4577d01bb7eeab694ae888cebba1df9ca527c13edfd8a5d644ede38a588a"), looks := true }, kinds := [], alts := [], laidByText := true, laidKinds := [.data, .data, .data], laidTests := true, laidLooks := .later }
def HttpdateWeekdaysCardSaid : Prop := Claim7.holds Tryd.pinned (.plain (OpenSpec.ofChange httpdateWeekdaysSpec)) httpdateWeekdaysCard

/-- THE TIED CARD OF 'quaysidelaw04.HttpdateParses'. -/
def httpdateParsesCard : Claim7 := { stood := { row := httpdateParsesRow, standIns := [], harness := (true, "ff6c4577d01bb7eeab694ae888cebba1df9ca527c13edfd8a5d644ede38a588a"), looks := true }, kinds := [], alts := [], laidByText := true, laidKinds := [.data, .data, .data], laidTests := true, laidLooks := .later }
def HttpdateParsesCardSaid : Prop := Claim7.holds Tryd.pinned (.plain (OpenSpec.ofChange httpdateParsesSpec)) httpdateParsesCard

/-- THE TIED CARD OF 'quaysidelaw04.HttpdateReturns'. -/
def httpdateReturnsCard : Claim7 := { stood := { row := httpdateReturnsRow, standIns := [], harness := (true, "ff6c4577d01bb7eeab694ae888cebba1df9ca527c13edfd8a5d644ede38a588a"), looks := true }, kinds := [], alts := [], laidByText := true, laidKinds := [.data, .data, .data], laidTests := true, laidLooks := .later }
def HttpdateReturnsCardSaid : Prop := Claim7.holds Tryd.pinned (.plain (OpenSpec.ofChange httpdateReturnsSpec)) httpdateReturnsCard

/-- THE SECOND FORM's CARD OF 'quaysidelaw04.HttpdateFormats'. -/
def httpdateFormatsUptoCard : Claim7 := { stood := { row := httpdateFormatsUptoRow, standIns := [], harness := (true, "ff6c4577d01bb7eeab694ae888cebba1df9ca527c13edfd8a5d644ede38a588a"), looks := true }, kinds := [], alts := [], laidByText := true, laidKinds := [.data, .data, .data], laidTests := true, laidLooks := .later }
def HttpdateFormatsUptoCardSaid : Prop := Claim7.holds Tryd.pinned (.plain (OpenSpec.upto httpdateFormatsSpec)) httpdateFormatsUptoCard

/-- THE SECOND FORM's CARD OF 'quaysidelaw04.HttpdateDays'. -/
def httpdateDaysUptoCard : Claim7 := { stood := { row := httpdateDaysUptoRow, standIns := [], harness := (true, "ff6c4577d01bb7eeab694ae888cebba1df9ca527c13edfd8a5d644ede38a588a"), looks := true }, kinds := [], alts := [], laidByText := true, laidKinds := [.data, .data, .data], laidTests := true, laidLooks := .later }
def HttpdateDaysUptoCardSaid : Prop := Claim7.holds Tryd.pinned (.plain (OpenSpec.upto httpdateDaysSpec)) httpdateDaysUptoCard

/-- THE SECOND FORM's CARD OF 'quaysidelaw04.HttpdateDates'. -/
def httpdateDatesUptoCard : Claim7 := { stood := { row := httpdateDatesUptoRow, standIns := [], harness := (true, "ff6c4577d01bb7eeab694ae888cebba1df9ca527c13edfd8a5d644ede38a588a"), looks := true }, kinds := [], alts := [], laidByText := true, laidKinds := [.data, .data, .data], laidTests := true, laidLooks := .later }
def HttpdateDatesUptoCardSaid : Prop := Claim7.holds Tryd.pinned (.plain (OpenSpec.upto httpdateDatesSpec)) httpdateDatesUptoCard

/-- THE SECOND FORM's CARD OF 'quaysidelaw04.HttpdateSteps'. -/
def httpdateStepsUptoCard : Claim7 := { stood := { row := httpdateStepsUptoRow, standIns := [], harness := (true, "ff6c4577d01bb7eeab694ae888cebba1df9ca527c13edfd8a5d644ede38a588a"), looks := true }, kinds := [], alts := [], laidByText := true, laidKinds := [.data, .data, .data], laidTests := true, laidLooks := .later }
def HttpdateStepsUptoCardSaid : Prop := Claim7.holds Tryd.pinned (.plain (OpenSpec.upto httpdateStepsSpec)) httpdateStepsUptoCard

/-- THE SECOND FORM's CARD OF 'quaysidelaw04.HttpdateWeekdays'. -/
def httpdateWeekdaysUptoCard : Claim7 := { stood := { row := httpdateWeekdaysUptoRow, standIns := [], harness := (true, "ff6c4577d01bb7eeab694ae888cebba1df9ca527c13edfd8a5d644ede38a588a"), looks := true }, kinds := [], alts := [], laidByText := true, laidKinds := [.data, .data, .data], laidTests := true, laidLooks := .later }
def HttpdateWeekdaysUptoCardSaid : Prop := Claim7.holds Tryd.pinned (.plain (OpenSpec.upto httpdateWeekdaysSpec)) httpdateWeekdaysUptoCard

/-- THE SECOND FORM's CARD OF 'quaysidelaw04.HttpdateParses'. -/
def httpdateParsesUptoCard : Claim7 := { stood := { row := httpdateParsesUptoRow, standIns := [], harness := (true, "ff6c4577d01bb7eeab694ae888cebba1df9ca527c13edfd8a5d644ede38a588a"), looks := true }, kinds := [], alts := [], laidByText := true, laidKinds := [.data, .data, .data], laidTests := true, laidLooks := .later }
def HttpdateParsesUptoCardSaid : Prop := Claim7.holds Tryd.pinned (.plain (OpenSpec.upto httpdateParsesSpec)) httpdateParsesUptoCard

/-- THE SECOND FORM's CARD OF 'quaysidelaw04.HttpdateReturns'. -/
def httpdateReturnsUptoCard : Claim7 := { stood := { row := httpdateReturnsUptoRow, standIns := [], harness := (true, "ff6c4577d01bb7eeab694ae888cebba1df9ca527c13edfd8a5d644ede38a588a"), looks := true }, kinds := [], alts := [], laidByText := true, laidKinds := [.data, .data, .data], laidTests := true, laidLooks := .later }
def HttpdateReturnsUptoCardSaid : Prop := Claim7.holds Tryd.pinned (.plain (OpenSpec.upto httpdateReturnsSpec)) httpdateReturnsUptoCard
end Rows
end Go.Proofs.YtdbheaapeemlmaaDoor
