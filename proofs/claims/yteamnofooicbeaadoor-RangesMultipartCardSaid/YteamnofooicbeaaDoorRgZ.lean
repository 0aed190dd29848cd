/- Chapter 09: the library variable that the searches read is there. -/
import Derived.Test.YteamnofooicbeaaDoorRgO
namespace Go.Proofs.YteamnofooicbeaaDoor
theorem maxL_of {W : World} (hS : W.ShapedOpen Tryd.prog) : MaxL W := Tryd.laysM145.s1_3 W hS
end Go.Proofs.YteamnofooicbeaaDoor
