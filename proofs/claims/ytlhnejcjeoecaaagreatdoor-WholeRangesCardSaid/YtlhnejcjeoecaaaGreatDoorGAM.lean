/- Chapter 09: the library variable that the searches read is there. Chapter 09: a range that comes in; the table of powers lies as the program's text lays it. -/
import Derived.Test.YtlhnejcjeoecaaaGreatDoorGAF
import Derived.Test.YtlhnejcjeoecaaaGreatDoorGAG
import Derived.Test.YtlhnejcjeoecaaaGreatDoorLift
import Derived.Test.YtlhnejcjeoecaaaGreatDoorRows
import Derived.Lib.LaidTab
import Derived.Stop.LaidErr
namespace Go.Proofs.YtlhnejcjeoecaaaGreatDoor
theorem maxL_of {W : World} (hS : W.ShapedOpen Tryz.prog) : MaxL W := Tryz.laysM145.s1_3 W hS
end Go.Proofs.YtlhnejcjeoecaaaGreatDoor
namespace Go.Proofs.YtlhnejcjeoecaaaGreatDoor
open Go.ChangeShapes Go.WideShapes Go.ChangeAt Go.RowKit
theorem powT_of {W : World} {rest : List (String × DataW Unit)} (hL : laidMet Tryz.prog (("math/bits.deBruijn32tab", Rows.laid_math_bits_deBruijn32tab) :: ("math/bits.deBruijn64tab", Rows.laid_math_bits_deBruijn64tab) :: ("internal/strconv.uint64pow10", Rows.laid_internal_strconv_uint64pow10) :: rest) W) : PowT W := by
  have h3 := laidMet.tail (laidMet.tail hL)
  have e : (Rows.laid_internal_strconv_uint64pow10 : DataW Unit) = Lib.tabData .u64 Lib.pow10Tab := rfl
  rw [e] at h3
  exact Lib.tabIs_of_head (show Tryz.prog.globalNamed "internal/strconv.uint64pow10" = some 1 by kernel_rfl) (show (Tryz.prog.globals[1]?).map (·.type) = some 150 by kernel_rfl) Tryz.underlying150 Tryz.underlying130 (by kernel_rfl) (by kernel_rfl) h3
end Go.Proofs.YtlhnejcjeoecaaaGreatDoor
