/- Closed facts of the seat's program that every lifting asks. -/
import Derived.Test.YteamnofooicbeaaDoorLift
import Derived.Test.YteamnofooicbeaaDoorChecked
import Derived.Deep.DeepHandedRow
namespace Go.Proofs.YteamnofooicbeaaDoor
open Go.ChangeShapes Go.WideShapes Go.ChangeAt Go.RowKit Go.ChangeMaps
set_option maxRecDepth 100000
theorem own : ownKnob Tryd.prog.godebug = none := by kernel_rfl
theorem laid_out : laidOutB Tryd.prog = true := by kernel_rfl
theorem maps_rowed : mapsRowed Tryd.prog = true := by kernel_rfl
theorem sized_all : sizedB Tryd.prog = true := by kernel_rfl
end Go.Proofs.YteamnofooicbeaaDoor
