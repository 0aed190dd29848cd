/- Closed facts of the seat's program that every lifting asks. -/
import Derived.Test.YtfgjbbpkkbohhaaGreatLift
import Derived.Test.YtfgjbbpkkbohhaaGreatChecked
import Derived.Deep.DeepHandedRow
namespace Go.Proofs.YtfgjbbpkkbohhaaGreat
open Go.ChangeShapes Go.WideShapes Go.ChangeAt Go.RowKit Go.ChangeMaps
set_option maxRecDepth 100000
theorem own : ownKnob Tryz.prog.godebug = none := by kernel_rfl
theorem laid_out : laidOutB Tryz.prog = true := by kernel_rfl
theorem maps_rowed : mapsRowed Tryz.prog = true := by kernel_rfl
theorem sized_all : sizedB Tryz.prog = true := by kernel_rfl
end Go.Proofs.YtfgjbbpkkbohhaaGreat
