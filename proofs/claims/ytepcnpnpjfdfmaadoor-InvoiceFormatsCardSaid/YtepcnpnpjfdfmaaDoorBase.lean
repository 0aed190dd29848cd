/- Walks of package quaysidebase: Num, Is, Clip, Time. -/
import Derived.Test.YtepcnpnpjfdfmaaDoorProg
import Derived.Test.YtepcnpnpjfdfmaaDoorKit
namespace Go.Proofs.YtepcnpnpjfdfmaaDoor
open Go.RowKit
abbrev errV (n : Int) : Value := .iface 44 (.int .i64 n)


end Go.Proofs.YtepcnpnpjfdfmaaDoor
