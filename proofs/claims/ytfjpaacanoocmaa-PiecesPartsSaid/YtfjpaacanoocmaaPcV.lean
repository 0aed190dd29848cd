/- Chapter 20: the law PiecesParts, at integers. -/
import Derived.Test.YtfjpaacanoocmaaPcU
namespace Go.Proofs.Ytfjpaacanoocmaa
open Go.RowKit
theorem parts_lawI (x a b p q : Int) (hx : 0 ≤ x ∧ x ≤ 65535) (ha : 0 ≤ a ∧ a ≤ 255) (hb : 0 ≤ b ∧ b ≤ 255) (hp : 0 ≤ p ∧ p ≤ 65535) (hq : 0 ≤ q ∧ q ≤ 65535) (w : World) :
    Calls Try.prog 4 #[.int .u16 x, .agg #[.int .u8 a, .int .u8 b], .agg #[.int .u16 p, .int .u16 q]] w fun e w' => e = .returned (.bool true) ∧ Ext w w' := by
  have := parts_law x.toNat a.toNat b.toNat p.toNat q.toNat (by omega) (by omega) (by omega) (by omega) (by omega) w
  rwa [Int.toNat_of_nonneg hx.1, Int.toNat_of_nonneg ha.1, Int.toNat_of_nonneg hb.1, Int.toNat_of_nonneg hp.1, Int.toNat_of_nonneg hq.1] at this
end Go.Proofs.Ytfjpaacanoocmaa
