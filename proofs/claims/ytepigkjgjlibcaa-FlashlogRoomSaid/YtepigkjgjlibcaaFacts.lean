/- Closed facts of the seat's program that every lifting asks. -/
import Derived.Test.YtepigkjgjlibcaaLift
import Derived.Test.YtepigkjgjlibcaaChecked
import Derived.Deep.DeepHandedRow
namespace Go.Proofs.Ytepigkjgjlibcaa
open Go.ChangeShapes Go.WideShapes Go.ChangeAt Go.RowKit Go.ChangeMaps
set_option maxRecDepth 100000
theorem own : ownKnob Try.prog.godebug = none := by kernel_rfl
theorem laid_out : laidOutB Try.prog = true := by kernel_rfl
theorem maps_rowed : mapsRowed Try.prog = true := by kernel_rfl
theorem sized_all : sizedB Try.prog = true := by kernel_rfl
end Go.Proofs.Ytepigkjgjlibcaa
