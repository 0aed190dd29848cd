/- Chapter 20: the example. -/
import Derived.Test.YtfgjbbpkkbohhaaGreatPcN
namespace Go.Proofs.YtfgjbbpkkbohhaaGreat
open Go.RowKit Go.Deep Go.Sort

def z88 : ByteArray := ⟨(List.replicate 88 (0 : UInt8)).toArray⟩
end Go.Proofs.YtfgjbbpkkbohhaaGreat
