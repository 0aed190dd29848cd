/- Chapter 20: the law PiecesCovers, at integers. -/
import Derived.Test.YtfjpaacanoocmaaPd5
namespace Go.Proofs.Ytfjpaacanoocmaa
open Go.RowKit
theorem covers_lawI (x a p q : Int) (hx : 0 ≤ x ∧ x ≤ 65535) (ha : 0 ≤ a ∧ a ≤ 255) (hp : 0 ≤ p ∧ p ≤ 65535) (hq : 0 ≤ q ∧ q ≤ 65535) (w : World) :
    Calls Try.prog 5 #[.int .u16 x, .int .u8 a, .agg #[.int .u16 p, .int .u16 q]] w fun e w' => e = .returned (.bool true) ∧ Ext w w' := by
  have := covers_law x.toNat a.toNat p.toNat q.toNat (by omega) (by omega) (by omega) (by omega) w
  rwa [Int.toNat_of_nonneg hx.1, Int.toNat_of_nonneg ha.1, Int.toNat_of_nonneg hp.1, Int.toNat_of_nonneg hq.1] at this
end Go.Proofs.Ytfjpaacanoocmaa
