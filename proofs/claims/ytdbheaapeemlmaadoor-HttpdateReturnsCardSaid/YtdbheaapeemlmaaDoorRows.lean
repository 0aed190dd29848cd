/-
  NARROWER THAN 'FOR EVERY INPUT', by the rows' own cells (each row's printed sentence says how): HttpdateFormats: laid · HttpdateDays: laid · HttpdateDates: laid · HttpdateSteps: laid · HttpdateWeekdays: laid · HttpdateParses: laid · HttpdateReturns: laid.
  DERIVED. THE GIVEN ROWS OF THIS SEAT. 7 by the template 'for every input the law returns true; each argument reads behind the call as it read before'; 0 by the template 'total and deterministic' (their statements: YtdbheaapeemlmaaDoorTotals.lean).
  GIVEN WITH THE SEED: the statements are not yours to turn. If you find one false, say at which input.
  Laid BY PROGRAM, IN A SANDBOX (cutbox-rows.mjs): the forced cells as the released guide's own fill.sh prints them over the translation 4a0862856df965a4… (all of the seat's roots in one cut). By AI agents, Wed Nov 11 2026. No macro, syntax, notation, axiom, sorry.
-/
import Derived.Test.YtdbheaapeemlmaaDoorChecked
import GoSem.Claim
import GoSem.ClaimJoined
import GoSem.ClaimMapViews
import Derived.JoinedTies
import Derived.KernelRfl
namespace Go.Proofs.YtdbheaapeemlmaaDoor
/- THE CELL 'sum', in the pinned program and in every row, IS THE sha256 OF THE DUMP (.gsa) THAT YtdbheaapeemlmaaDoorProg.lean LOADS. Nothing in Lean hashes anything: it is a label: what it is worth is what the hold of that sum in a sandbox is worth. -/
noncomputable def Tryd.pinned : Pinned := { name := "ytdbheaapeemlmaadoor", sum := "4a0862856df965a4e6810798d14cdbc0011dde8a1d7d89017c21d95b91762249", checked := Tryd.checked }
namespace Rows
def none {H : Type} : Left H := { results := [], args := [] }

/- WHAT THE LISTED PACKAGE-LEVEL VARIABLES READ AS WHEN THE CALL BEGINS. Each datum BY PROGRAM (the guide's laid-datum.mjs) off the statement by which the dump's own 'gosem.cut.vars' lays the variable. In a bare row this is a premise. The card (YtdbheaapeemlmaaDoorCards.lean) ties it to the program's text. -/
def laid_quayside_httpdate_weekdays {H : Type} : DataW H := .agg [.lit (.string [83, 117, 110]), .lit (.string [77, 111, 110]), .lit (.string [84, 117, 101]), .lit (.string [87, 101, 100]), .lit (.string [84, 104, 117]), .lit (.string [70, 114, 105]), .lit (.string [83, 97, 116])]
def laid_quayside_httpdate_months {H : Type} : DataW H := .agg [.lit (.string [74, 97, 110]), .lit (.string [70, 101, 98]), .lit (.string [77, 97, 114]), .lit (.string [65, 112, 114]), .lit (.string [77, 97, 121]), .lit (.string [74, 117, 110]), .lit (.string [74, 117, 108]), .lit (.string [65, 117, 103]), .lit (.string [83, 101, 112]), .lit (.string [79, 99, 116]), .lit (.string [78, 111, 118]), .lit (.string [68, 101, 99])]
def laid_quayside_httpdate_lengths {H : Type} : DataW H := .agg [.lit (.int .i64 31), .lit (.int .i64 28), .lit (.int .i64 31), .lit (.int .i64 30), .lit (.int .i64 31), .lit (.int .i64 30), .lit (.int .i64 31), .lit (.int .i64 31), .lit (.int .i64 30), .lit (.int .i64 31), .lit (.int .i64 30), .lit (.int .i64 31)]

/-- 'quaysidelaw04.HttpdateFormats': WHATEVER THE INPUT: true; the input reads as it did. -/
def httpdateFormatsSpec : ChangeSpec := { name := "httpdateFormats", fn := fun _ => fun
  | [d] => { results := [.lit (.bool true)], args := [d] }
  | _ => none }
def httpdateFormatsRow : OpenClaim := { program := "ytdbheaapeemlmaadoor", sum := "4a0862856df965a4e6810798d14cdbc0011dde8a1d7d89017c21d95b91762249", func := "quayside/quaysidelaw04.HttpdateFormats", spec := "httpdateFormats", named := ["quayside/httpdate.weekdays", "quayside/httpdate.months", "quayside/httpdate.lengths"], apart := false, laid := [("quayside/httpdate.weekdays", laid_quayside_httpdate_weekdays), ("quayside/httpdate.months", laid_quayside_httpdate_months), ("quayside/httpdate.lengths", laid_quayside_httpdate_lengths)] }
def HttpdateFormatsSaid : Prop := httpdateFormatsRow.holds Tryd.pinned (OpenSpec.ofChange httpdateFormatsSpec)

/-- ITS FALSE NEIGHBOUR: 'it returns false'. Refute it at one input. -/
def httpdateFormatsWrong : ChangeSpec := { name := "httpdateFormats", fn := fun _ => fun
  | [d] => { results := [.lit (.bool false)], args := [d] }
  | _ => none }
def HttpdateFormatsWrongFalsely : Prop := httpdateFormatsRow.holds Tryd.pinned (OpenSpec.ofChange httpdateFormatsWrong)

/-- 'quaysidelaw04.HttpdateDays': WHATEVER THE INPUT: true; the input reads as it did. -/
def httpdateDaysSpec : ChangeSpec := { name := "httpdateDays", fn := fun _ => fun
  | [d1, d2, d3] => { results := [.lit (.bool true)], args := [d1, d2, d3] }
  | _ => none }
def httpdateDaysRow : OpenClaim := { program := "ytdbheaapeemlmaadoor", sum := "4a0862856df965a4e6810798d14cdbc0011dde8a1d7d89017c21d95b91762249", func := "quayside/quaysidelaw04.HttpdateDays", spec := "httpdateDays", named := ["quayside/httpdate.weekdays", "quayside/httpdate.months", "quayside/httpdate.lengths"], apart := false, laid := [("quayside/httpdate.weekdays", laid_quayside_httpdate_weekdays), ("quayside/httpdate.months", laid_quayside_httpdate_months), ("quayside/httpdate.lengths", laid_quayside_httpdate_lengths)] }
def HttpdateDaysSaid : Prop := httpdateDaysRow.holds Tryd.pinned (OpenSpec.ofChange httpdateDaysSpec)

/-- ITS FALSE NEIGHBOUR: 'it returns false'. Refute it at one input. -/
def httpdateDaysWrong : ChangeSpec := { name := "httpdateDays", fn := fun _ => fun
  | [d1, d2, d3] => { results := [.lit (.bool false)], args := [d1, d2, d3] }
  | _ => none }
def HttpdateDaysWrongFalsely : Prop := httpdateDaysRow.holds Tryd.pinned (OpenSpec.ofChange httpdateDaysWrong)

/-- 'quaysidelaw04.HttpdateDates': WHATEVER THE INPUT: true; the input reads as it did. -/
def httpdateDatesSpec : ChangeSpec := { name := "httpdateDates", fn := fun _ => fun
  | [d] => { results := [.lit (.bool true)], args := [d] }
  | _ => none }
def httpdateDatesRow : OpenClaim := { program := "ytdbheaapeemlmaadoor", sum := "4a0862856df965a4e6810798d14cdbc0011dde8a1d7d89017c21d95b91762249", func := "quayside/quaysidelaw04.HttpdateDates", spec := "httpdateDates", named := ["quayside/httpdate.weekdays", "quayside/httpdate.months", "quayside/httpdate.lengths"], apart := false, laid := [("quayside/httpdate.weekdays", laid_quayside_httpdate_weekdays), ("quayside/httpdate.months", laid_quayside_httpdate_months), ("quayside/httpdate.lengths", laid_quayside_httpdate_lengths)] }
def HttpdateDatesSaid : Prop := httpdateDatesRow.holds Tryd.pinned (OpenSpec.ofChange httpdateDatesSpec)

/-- ITS FALSE NEIGHBOUR: 'it returns false'. Refute it at one input. -/
def httpdateDatesWrong : ChangeSpec := { name := "httpdateDates", fn := fun _ => fun
  | [d] => { results := [.lit (.bool false)], args := [d] }
  | _ => none }
def HttpdateDatesWrongFalsely : Prop := httpdateDatesRow.holds Tryd.pinned (OpenSpec.ofChange httpdateDatesWrong)

/-- 'quaysidelaw04.HttpdateSteps': WHATEVER THE INPUT: true; the input reads as it did. -/
def httpdateStepsSpec : ChangeSpec := { name := "httpdateSteps", fn := fun _ => fun
  | [d] => { results := [.lit (.bool true)], args := [d] }
  | _ => none }
def httpdateStepsRow : OpenClaim := { program := "ytdbheaapeemlmaadoor", sum := "4a0862856df965a4e6810798d14cdbc0011dde8a1d7d89017c21d95b91762249", func := "quayside/quaysidelaw04.HttpdateSteps", spec := "httpdateSteps", named := ["quayside/httpdate.weekdays", "quayside/httpdate.months", "quayside/httpdate.lengths"], apart := false, laid := [("quayside/httpdate.weekdays", laid_quayside_httpdate_weekdays), ("quayside/httpdate.months", laid_quayside_httpdate_months), ("quayside/httpdate.lengths", laid_quayside_httpdate_lengths)] }
def HttpdateStepsSaid : Prop := httpdateStepsRow.holds Tryd.pinned (OpenSpec.ofChange httpdateStepsSpec)

/-- ITS FALSE NEIGHBOUR: 'it returns false'. Refute it at one input. -/
def httpdateStepsWrong : ChangeSpec := { name := "httpdateSteps", fn := fun _ => fun
  | [d] => { results := [.lit (.bool false)], args := [d] }
  | _ => none }
def HttpdateStepsWrongFalsely : Prop := httpdateStepsRow.holds Tryd.pinned (OpenSpec.ofChange httpdateStepsWrong)

/-- 'quaysidelaw04.HttpdateWeekdays': WHATEVER THE INPUT: true; the input reads as it did. -/
def httpdateWeekdaysSpec : ChangeSpec := { name := "httpdateWeekdays", fn := fun _ => fun
  | [d] => { results := [.lit (.bool true)], args := [d] }
  | _ => none }
def httpdateWeekdaysRow : OpenClaim := { program := "ytdbheaapeemlmaadoor", sum := "4a0862856df965a4e6810798d14cdbc0011dde8a1d7d89017c21d95b91762249", func := "quayside/quaysidelaw04.HttpdateWeekdays", spec := "httpdateWeekdays", named := ["quayside/httpdate.weekdays", "quayside/httpdate.months", "quayside/httpdate.lengths"], apart := false, laid := [("quayside/httpdate.weekdays", laid_quayside_httpdate_weekdays), ("quayside/httpdate.months", laid_quayside_httpdate_months), ("quayside/httpdate.lengths", laid_quayside_httpdate_lengths)] }
def HttpdateWeekdaysSaid : Prop := httpdateWeekdaysRow.holds Tryd.pinned (OpenSpec.ofChange httpdateWeekdaysSpec)

/-- ITS FALSE NEIGHBOUR: 'it returns false'. Refute it at one input. -/
def httpdateWeekdaysWrong : ChangeSpec := { name := "httpdateWeekdays", fn := fun _ => fun
  | [d] => { results := [.lit (.bool false)], args := [d] }
  | _ => none }
def HttpdateWeekdaysWrongFalsely : Prop := httpdateWeekdaysRow.holds Tryd.pinned (OpenSpec.ofChange httpdateWeekdaysWrong)

/-- 'quaysidelaw04.HttpdateParses': WHATEVER THE INPUT: true; the input reads as it did. -/
def httpdateParsesSpec : ChangeSpec := { name := "httpdateParses", fn := fun _ => fun
  | [d] => { results := [.lit (.bool true)], args := [d] }
  | _ => none }
def httpdateParsesRow : OpenClaim := { program := "ytdbheaapeemlmaadoor", sum := "4a0862856df965a4e6810798d14cdbc0011dde8a1d7d89017c21d95b91762249", func := "quayside/quaysidelaw04.HttpdateParses", spec := "httpdateParses", named := ["quayside/httpdate.weekdays", "quayside/httpdate.months", "quayside/httpdate.lengths"], apart := false, laid := [("quayside/httpdate.weekdays", laid_quayside_httpdate_weekdays), ("quayside/httpdate.months", laid_quayside_httpdate_months), ("quayside/httpdate.lengths", laid_quayside_httpdate_lengths)] }
def HttpdateParsesSaid : Prop := httpdateParsesRow.holds Tryd.pinned (OpenSpec.ofChange httpdateParsesSpec)

/-- ITS FALSE NEIGHBOUR: 'it returns false'. Refute it at one input. -/
def httpdateParsesWrong : ChangeSpec := { name := "httpdateParses", fn := fun _ => fun
  | [d] => { results := [.lit (.bool false)], args := [d] }
  | _ => none }
def HttpdateParsesWrongFalsely : Prop := httpdateParsesRow.holds Tryd.pinned (OpenSpec.ofChange httpdateParsesWrong)

/-- 'quaysidelaw04.HttpdateReturns': WHATEVER THE INPUT: true; the input reads as it did. -/
def httpdateReturnsSpec : ChangeSpec := { name := "httpdateReturns", fn := fun _ => fun
  | [d1, d2, d3] => { results := [.lit (.bool true)], args := [d1, d2, d3] }
  | _ => none }
def httpdateReturnsRow : OpenClaim := { program := "ytdbheaapeemlmaadoor", sum := "4a0862856df965a4e6810798d14cdbc0011dde8a1d7d89017c21d95b91762249", func := "quayside/quaysidelaw04.HttpdateReturns", spec := "httpdateReturns", named := ["quayside/httpdate.weekdays", "quayside/httpdate.months", "quayside/httpdate.lengths"], apart := false, laid := [("quayside/httpdate.weekdays", laid_quayside_httpdate_weekdays), ("quayside/httpdate.months", laid_quayside_httpdate_months), ("quayside/httpdate.lengths", laid_quayside_httpdate_lengths)] }
def HttpdateReturnsSaid : Prop := httpdateReturnsRow.holds Tryd.pinned (OpenSpec.ofChange httpdateReturnsSpec)

/-- ITS FALSE NEIGHBOUR: 'it returns false'. Refute it at one input. -/
def httpdateReturnsWrong : ChangeSpec := { name := "httpdateReturns", fn := fun _ => fun
  | [d1, d2, d3] => { results := [.lit (.bool false)], args := [d1, d2, d3] }
  | _ => none }
def HttpdateReturnsWrongFalsely : Prop := httpdateReturnsRow.holds Tryd.pinned (OpenSpec.ofChange httpdateReturnsWrong)

/- THE SECOND FORM. 'bulk': how many values and letters a reading holds, each counted each time it is reached (what is shared counts as often as it is met; a slice's spare places count too). A statement '..UptoSaid' is the law's where the arguments, and the package variables that the reading takes, are together of bulk at most 1048576: NARROWER than '..Said'. Prove '..Said' where nothing that the law and all that it calls make is longer than what came in: it says more and counts as full. Else prove '..UptoSaid'. A law counts once. -/
mutual
def uptoBulk {H : Type} : DataW H → Nat
  | .lit (.string bytes) => bytes.length + 1
  | .lit _ => 1
  | .nil => 1
  | .ptr d => uptoBulk d + 1
  | .slice elems spare => uptoBulkAll elems + uptoBulkAll spare + 1
  | .agg parts => uptoBulkAll parts + 1
  | .iface _ d => uptoBulk d + 1
  | .map entries => uptoBulkEntries entries + 1
  | .held _ => 1
def uptoBulkAll {H : Type} : List (DataW H) → Nat
  | [] => 0
  | d :: r => uptoBulk d + uptoBulkAll r
def uptoBulkEntries {H : Type} : List (Lit × DataW H) → Nat
  | [] => 0
  | x :: r => uptoBulkEntry x + uptoBulkEntries r
def uptoBulkEntry {H : Type} : Lit × DataW H → Nat
  | (.string bytes, d) => bytes.length + uptoBulk d + 1
  | (_, d) => uptoBulk d + 1
 end
def uptoSmall : (H : Type) → List (DataW H) → Bool := fun _ ds => decide (uptoBulkAll ds ≤ 1048576)
def OpenSpec.upto (s : _root_.Go.ChangeSpec) : _root_.Go.OpenSpec := { _root_.Go.OpenSpec.ofChange s with cond := some uptoSmall }

/-- 'quaysidelaw04.HttpdateFormats', WHERE WHAT IT READS IS OF BULK AT MOST 1048576: true; the input reads as it did. -/
def httpdateFormatsUptoRow : OpenClaim := { program := "ytdbheaapeemlmaadoor", sum := "4a0862856df965a4e6810798d14cdbc0011dde8a1d7d89017c21d95b91762249", func := "quayside/quaysidelaw04.HttpdateFormats", spec := "httpdateFormats", named := ["quayside/httpdate.weekdays", "quayside/httpdate.months", "quayside/httpdate.lengths"], apart := false, laid := [("quayside/httpdate.weekdays", laid_quayside_httpdate_weekdays), ("quayside/httpdate.months", laid_quayside_httpdate_months), ("quayside/httpdate.lengths", laid_quayside_httpdate_lengths)], narrowed := true }
def HttpdateFormatsUptoSaid : Prop := httpdateFormatsUptoRow.holds Tryd.pinned (OpenSpec.upto httpdateFormatsSpec)

/-- 'quaysidelaw04.HttpdateDays', WHERE WHAT IT READS IS OF BULK AT MOST 1048576: true; the input reads as it did. -/
def httpdateDaysUptoRow : OpenClaim := { program := "ytdbheaapeemlmaadoor", sum := "4a0862856df965a4e6810798d14cdbc0011dde8a1d7d89017c21d95b91762249", func := "quayside/quaysidelaw04.HttpdateDays", spec := "httpdateDays", named := ["quayside/httpdate.weekdays", "quayside/httpdate.months", "quayside/httpdate.lengths"], apart := false, laid := [("quayside/httpdate.weekdays", laid_quayside_httpdate_weekdays), ("quayside/httpdate.months", laid_quayside_httpdate_months), ("quayside/httpdate.lengths", laid_quayside_httpdate_lengths)], narrowed := true }
def HttpdateDaysUptoSaid : Prop := httpdateDaysUptoRow.holds Tryd.pinned (OpenSpec.upto httpdateDaysSpec)

/-- 'quaysidelaw04.HttpdateDates', WHERE WHAT IT READS IS OF BULK AT MOST 1048576: true; the input reads as it did. -/
def httpdateDatesUptoRow : OpenClaim := { program := "ytdbheaapeemlmaadoor", sum := "4a0862856df965a4e6810798d14cdbc0011dde8a1d7d89017c21d95b91762249", func := "quayside/quaysidelaw04.HttpdateDates", spec := "httpdateDates", named := ["quayside/httpdate.weekdays", "quayside/httpdate.months", "quayside/httpdate.lengths"], apart := false, laid := [("quayside/httpdate.weekdays", laid_quayside_httpdate_weekdays), ("quayside/httpdate.months", laid_quayside_httpdate_months), ("quayside/httpdate.lengths", laid_quayside_httpdate_lengths)], narrowed := true }
def HttpdateDatesUptoSaid : Prop := httpdateDatesUptoRow.holds Tryd.pinned (OpenSpec.upto httpdateDatesSpec)

/-- 'quaysidelaw04.HttpdateSteps', WHERE WHAT IT READS IS OF BULK AT MOST 1048576: true; the input reads as it did. -/
def httpdateStepsUptoRow : OpenClaim := { program := "ytdbheaapeemlmaadoor", sum := "4a0862856df965a4e6810798d14cdbc0011dde8a1d7d89017c21d95b91762249", func := "quayside/quaysidelaw04.HttpdateSteps", spec := "httpdateSteps", named := ["quayside/httpdate.weekdays", "quayside/httpdate.months", "quayside/httpdate.lengths"], apart := false, laid := [("quayside/httpdate.weekdays", laid_quayside_httpdate_weekdays), ("quayside/httpdate.months", laid_quayside_httpdate_months), ("quayside/httpdate.lengths", laid_quayside_httpdate_lengths)], narrowed := true }
def HttpdateStepsUptoSaid : Prop := httpdateStepsUptoRow.holds Tryd.pinned (OpenSpec.upto httpdateStepsSpec)

/-- 'quaysidelaw04.HttpdateWeekdays', WHERE WHAT IT READS IS OF BULK AT MOST 1048576: true; the input reads as it did. -/
def httpdateWeekdaysUptoRow : OpenClaim := { program := "ytdbheaapeemlmaadoor", sum := "4a0862856df965a4e6810798d14cdbc0011dde8a1d7d89017c21d95b91762249", func := "quayside/quaysidelaw04.HttpdateWeekdays", spec := "httpdateWeekdays", named := ["quayside/httpdate.weekdays", "quayside/httpdate.months", "quayside/httpdate.lengths"], apart := false, laid := [("quayside/httpdate.weekdays", laid_quayside_httpdate_weekdays), ("quayside/httpdate.months", laid_quayside_httpdate_months), ("quayside/httpdate.lengths", laid_quayside_httpdate_lengths)], narrowed := true }
def HttpdateWeekdaysUptoSaid : Prop := httpdateWeekdaysUptoRow.holds Tryd.pinned (OpenSpec.upto httpdateWeekdaysSpec)

/-- 'quaysidelaw04.HttpdateParses', WHERE WHAT IT READS IS OF BULK AT MOST 1048576: true; the input reads as it did. -/
def httpdateParsesUptoRow : OpenClaim := { program := "ytdbheaapeemlmaadoor", sum := "4a0862856df965a4e6810798d14cdbc0011dde8a1d7d89017c21d95b91762249", func := "quayside/quaysidelaw04.HttpdateParses", spec := "httpdateParses", named := ["quayside/httpdate.weekdays", "quayside/httpdate.months", "quayside/httpdate.lengths"], apart := false, laid := [("quayside/httpdate.weekdays", laid_quayside_httpdate_weekdays), ("quayside/httpdate.months", laid_quayside_httpdate_months), ("quayside/httpdate.lengths", laid_quayside_httpdate_lengths)], narrowed := true }
def HttpdateParsesUptoSaid : Prop := httpdateParsesUptoRow.holds Tryd.pinned (OpenSpec.upto httpdateParsesSpec)

/-- 'quaysidelaw04.HttpdateReturns', WHERE WHAT IT READS IS OF BULK AT MOST 1048576: true; the input reads as it did. -/
def httpdateReturnsUptoRow : OpenClaim := { program := "ytdbheaapeemlmaadoor", sum := "4a0862856df965a4e6810798d14cdbc0011dde8a1d7d89017c21d95b91762249", func := "quayside/quaysidelaw04.HttpdateReturns", spec := "httpdateReturns", named := ["quayside/httpdate.weekdays", "quayside/httpdate.months", "quayside/httpdate.lengths"], apart := false, laid := [("quayside/httpdate.weekdays", laid_quayside_httpdate_weekdays), ("quayside/httpdate.months", laid_quayside_httpdate_months), ("quayside/httpdate.lengths", laid_quayside_httpdate_lengths)], narrowed := true }
def HttpdateReturnsUptoSaid : Prop := httpdateReturnsUptoRow.holds Tryd.pinned (OpenSpec.upto httpdateReturnsSpec)

end Rows
end Go.Proofs.YtdbheaapeemlmaaDoor
