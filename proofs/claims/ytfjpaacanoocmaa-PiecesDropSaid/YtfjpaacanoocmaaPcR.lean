/- Chapter 20: the law PiecesDrop, at integers. -/
import Derived.Test.YtfjpaacanoocmaaPcQ
namespace Go.Proofs.Ytfjpaacanoocmaa
open Go.RowKit
theorem drop_lawI (x y : Int) (hx : 0 ≤ x ∧ x ≤ 65535) (hy : 0 ≤ y ∧ y ≤ 255) (w : World) :
    Calls Try.prog 3 #[.int .u16 x, .int .u8 y] w fun e w' => e = .returned (.bool true) ∧ Ext w w' := by
  have := drop_law x.toNat y.toNat (by omega) (by omega) w
  rwa [Int.toNat_of_nonneg hx.1, Int.toNat_of_nonneg hy.1] at this
end Go.Proofs.Ytfjpaacanoocmaa
