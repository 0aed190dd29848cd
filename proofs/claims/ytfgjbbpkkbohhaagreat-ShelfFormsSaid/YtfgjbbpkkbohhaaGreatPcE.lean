/- Chapter 20: Text. -/
import Derived.Test.YtfgjbbpkkbohhaaGreatPcD
namespace Go.Proofs.YtfgjbbpkkbohhaaGreat
open Go.RowKit Go.Deep Go.Sort

/-- the byte of a text at an offset -/
def txB (salt i : Nat) : Int := bits .xor .u8 (((i : Int) * 7 + (i : Int) / 256) % 256) salt
def txS (n salt : Nat) : ByteArray := strOfNums ((List.range n).map (txB salt))
end Go.Proofs.YtfgjbbpkkbohhaaGreat
