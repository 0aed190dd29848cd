/-
  DERIVED. GIVEN WITH THE SEED: THE PROGRAM's TIES (one call each: nine closed facts by the kernel) AND EACH ROW's TIE, after the 31st guide's Derived/Test/Toyas{Tie, Card}.lean. No idea stands in it: it is a product of the set-up. Laid BY PROGRAM, IN A SANDBOX (cutbox-door.mjs). By AI agents, Wed Nov 11 2026. No macro, syntax, notation, axiom, sorry.
-/
import Derived.Test.YtdbheaapeemlmaaDoorRows
import Derived.LaidByTextLater
import Derived.SevenTiedAt
import Derived.LaidSub
import Derived.LaidOnce
namespace Go.Proofs.YtdbheaapeemlmaaDoor
open Go
set_option maxRecDepth 100000
theorem seatTie1 : Tryd.prog.laidByTextLater [("quayside/httpdate.weekdays", Rows.laid_quayside_httpdate_weekdays), ("quayside/httpdate.months", Rows.laid_quayside_httpdate_months), ("quayside/httpdate.lengths", Rows.laid_quayside_httpdate_lengths)] [.data, .data, .data] true :=
  Program.laidByTextLater_by_one 24 8 13 (by kernel_rfl) (by kernel_rfl) (by kernel_rfl) (by kernel_rfl) (by kernel_rfl) (by kernel_rfl) (fun _ _ => by kernel_rfl)
theorem noOwnUnsafe : Tryd.pinned.checked.prog.headLifts.contains "ownunsafe" = false := by kernel_rfl
theorem tie : Tryd.prog.laidByTextLater [("quayside/httpdate.weekdays", Rows.laid_quayside_httpdate_weekdays), ("quayside/httpdate.months", Rows.laid_quayside_httpdate_months), ("quayside/httpdate.lengths", Rows.laid_quayside_httpdate_lengths)] [.data, .data, .data] true :=
  Program.laidByTextLater.sub seatTie1 ["quayside/httpdate.weekdays", "quayside/httpdate.months", "quayside/httpdate.lengths"] (by kernel_rfl) (by kernel_rfl)
theorem httpdateFormats_row_tie : Rows.httpdateFormatsRow.laidByTextAt .later Tryd.pinned [.data, .data, .data] true :=
  OpenClaim.laidByTextAt_later rfl rfl tie noOwnUnsafe
theorem httpdateDays_row_tie : Rows.httpdateDaysRow.laidByTextAt .later Tryd.pinned [.data, .data, .data] true :=
  OpenClaim.laidByTextAt_later rfl rfl tie noOwnUnsafe
theorem httpdateDates_row_tie : Rows.httpdateDatesRow.laidByTextAt .later Tryd.pinned [.data, .data, .data] true :=
  OpenClaim.laidByTextAt_later rfl rfl tie noOwnUnsafe
theorem httpdateSteps_row_tie : Rows.httpdateStepsRow.laidByTextAt .later Tryd.pinned [.data, .data, .data] true :=
  OpenClaim.laidByTextAt_later rfl rfl tie noOwnUnsafe
theorem httpdateWeekdays_row_tie : Rows.httpdateWeekdaysRow.laidByTextAt .later Tryd.pinned [.data, .data, .data] true :=
  OpenClaim.laidByTextAt_later rfl rfl tie noOwnUnsafe
theorem httpdateParses_row_tie : Rows.httpdateParsesRow.laidByTextAt .later Tryd.pinned [.data, .data, .data] true :=
  OpenClaim.laidByTextAt_later rfl rfl tie noOwnUnsafe
theorem httpdateReturns_row_tie : Rows.httpdateReturnsRow.laidByTextAt .later Tryd.pinned [.data, .data, .data] true :=
  OpenClaim.laidByTextAt_later rfl rfl tie noOwnUnsafe
theorem httpdateFormatsUpto_row_tie : Rows.httpdateFormatsUptoRow.laidByTextAt .later Tryd.pinned [.data, .data, .data] true :=
  OpenClaim.laidByTextAt_later rfl rfl tie noOwnUnsafe
theorem httpdateDaysUpto_row_tie : Rows.httpdateDaysUptoRow.laidByTextAt .later Tryd.pinned [.data, .data, .data] true :=
  OpenClaim.laidByTextAt_later rfl rfl tie noOwnUnsafe
theorem httpdateDatesUpto_row_tie : Rows.httpdateDatesUptoRow.laidByTextAt .later Tryd.pinned [.data, .data, .data] true :=
  OpenClaim.laidByTextAt_later rfl rfl tie noOwnUnsafe
theorem httpdateStepsUpto_row_tie : Rows.httpdateStepsUptoRow.laidByTextAt .later Tryd.pinned [.data, .data, .data] true :=
  OpenClaim.laidByTextAt_later rfl rfl tie noOwnUnsafe
theorem httpdateWeekdaysUpto_row_tie : Rows.httpdateWeekdaysUptoRow.laidByTextAt .later Tryd.pinned [.data, .data, .data] true :=
  OpenClaim.laidByTextAt_later rfl rfl tie noOwnUnsafe
theorem httpdateParsesUpto_row_tie : Rows.httpdateParsesUptoRow.laidByTextAt .later Tryd.pinned [.data, .data, .data] true :=
  OpenClaim.laidByTextAt_later rfl rfl tie noOwnUnsafe
theorem httpdateReturnsUpto_row_tie : Rows.httpdateReturnsUptoRow.laidByTextAt .later Tryd.pinned [.data, .data, .data] true :=
  OpenClaim.laidByTextAt_later rfl rfl tie noOwnUnsafe
end Go.Proofs.YtdbheaapeemlmaaDoor
