/-
  No cell of these rows narrows 'for every input' (looked for: loops, veiled, ifaces, maps, wideKeys, modest, calm, conditions, laid).
  DERIVED. THE GIVEN ROWS OF THIS SEAT. 8 by the template 'for every input the law returns true; each argument reads behind the call as it read before'; 0 by the template 'total and deterministic' (their statements: YtepcnpnpjfdfmaaTotals.lean).
  GIVEN WITH THE SEED: the statements are not yours to turn. If you find one false, say at which input.
  Laid BY PROGRAM, IN A SANDBOX (cutbox-rows.mjs): the forced cells as the released guide's own fill.sh prints them over the translation 242bd0dea74318e4… (all of the seat's roots in one cut). By AI agents, Wed Nov 11 2026. No macro, syntax, notation, axiom, sorry.
-/
import Derived.Test.YtepcnpnpjfdfmaaChecked
import GoSem.Claim
import GoSem.ClaimJoined
import GoSem.ClaimMapViews
import Derived.JoinedTies
import Derived.KernelRfl
namespace Go.Proofs.Ytepcnpnpjfdfmaa
/- THE CELL 'sum', in the pinned program and in every row, IS THE sha256 OF THE DUMP (.gsa) THAT YtepcnpnpjfdfmaaProg.lean LOADS. Nothing in Lean hashes anything: it is a label: what it is worth is what the hold of that sum in a sandbox is worth. -/
noncomputable def Try.pinned : Pinned := { name := "ytepcnpnpjfdfmaa", sum := "242bd0dea74318e427751ad33c000c073bbc1f3ae8b57d7831cf564553389277", checked := Try.checked }
namespace Rows
def none {H : Type} : Left H := { results := [], args := [] }

/-- 'quaysidelaw53.InvoiceChecks': WHATEVER THE INPUT: true; the input reads as it did. -/
def invoiceChecksSpec : ChangeSpec := { name := "invoiceChecks", fn := fun _ => fun
  | [d] => { results := [.lit (.bool true)], args := [d] }
  | _ => none }
def invoiceChecksRow : OpenClaim := { program := "ytepcnpnpjfdfmaa", sum := "242bd0dea74318e427751ad33c000c073bbc1f3ae8b57d7831cf564553389277", func := "quayside/quaysidelaw53.InvoiceChecks", spec := "invoiceChecks", inPlace := ["math/bits.Add64"], named := ["math/bits.divideError", "math/bits.overflowError"], plainKeys := false, apart := false }
def InvoiceChecksSaid : Prop := invoiceChecksRow.holds Try.pinned (OpenSpec.ofChange invoiceChecksSpec)

/-- ITS FALSE NEIGHBOUR: 'it returns false'. Refute it at one input. -/
def invoiceChecksWrong : ChangeSpec := { name := "invoiceChecks", fn := fun _ => fun
  | [d] => { results := [.lit (.bool false)], args := [d] }
  | _ => none }
def InvoiceChecksWrongFalsely : Prop := invoiceChecksRow.holds Try.pinned (OpenSpec.ofChange invoiceChecksWrong)

/-- 'quaysidelaw53.InvoiceCharges': WHATEVER THE INPUT: true; the input reads as it did. -/
def invoiceChargesSpec : ChangeSpec := { name := "invoiceCharges", fn := fun _ => fun
  | [d1, d2, d3] => { results := [.lit (.bool true)], args := [d1, d2, d3] }
  | _ => none }
def invoiceChargesRow : OpenClaim := { program := "ytepcnpnpjfdfmaa", sum := "242bd0dea74318e427751ad33c000c073bbc1f3ae8b57d7831cf564553389277", func := "quayside/quaysidelaw53.InvoiceCharges", spec := "invoiceCharges", inPlace := ["math/bits.Add64"], named := ["math/bits.divideError", "math/bits.overflowError"], plainKeys := false, apart := false }
def InvoiceChargesSaid : Prop := invoiceChargesRow.holds Try.pinned (OpenSpec.ofChange invoiceChargesSpec)

/-- ITS FALSE NEIGHBOUR: 'it returns false'. Refute it at one input. -/
def invoiceChargesWrong : ChangeSpec := { name := "invoiceCharges", fn := fun _ => fun
  | [d1, d2, d3] => { results := [.lit (.bool false)], args := [d1, d2, d3] }
  | _ => none }
def InvoiceChargesWrongFalsely : Prop := invoiceChargesRow.holds Try.pinned (OpenSpec.ofChange invoiceChargesWrong)

/-- 'quaysidelaw53.InvoiceExact': WHATEVER THE INPUT: true; the input reads as it did. -/
def invoiceExactSpec : ChangeSpec := { name := "invoiceExact", fn := fun _ => fun
  | [d1, d2, d3, d4] => { results := [.lit (.bool true)], args := [d1, d2, d3, d4] }
  | _ => none }
def invoiceExactRow : OpenClaim := { program := "ytepcnpnpjfdfmaa", sum := "242bd0dea74318e427751ad33c000c073bbc1f3ae8b57d7831cf564553389277", func := "quayside/quaysidelaw53.InvoiceExact", spec := "invoiceExact", inPlace := ["math/bits.Add64"], named := ["math/bits.divideError", "math/bits.overflowError"], plainKeys := false, apart := false }
def InvoiceExactSaid : Prop := invoiceExactRow.holds Try.pinned (OpenSpec.ofChange invoiceExactSpec)

/-- ITS FALSE NEIGHBOUR: 'it returns false'. Refute it at one input. -/
def invoiceExactWrong : ChangeSpec := { name := "invoiceExact", fn := fun _ => fun
  | [d1, d2, d3, d4] => { results := [.lit (.bool false)], args := [d1, d2, d3, d4] }
  | _ => none }
def InvoiceExactWrongFalsely : Prop := invoiceExactRow.holds Try.pinned (OpenSpec.ofChange invoiceExactWrong)

/-- 'quaysidelaw53.InvoiceGrows': WHATEVER THE INPUT: true; the input reads as it did. -/
def invoiceGrowsSpec : ChangeSpec := { name := "invoiceGrows", fn := fun _ => fun
  | [d1, d2, d3] => { results := [.lit (.bool true)], args := [d1, d2, d3] }
  | _ => none }
def invoiceGrowsRow : OpenClaim := { program := "ytepcnpnpjfdfmaa", sum := "242bd0dea74318e427751ad33c000c073bbc1f3ae8b57d7831cf564553389277", func := "quayside/quaysidelaw53.InvoiceGrows", spec := "invoiceGrows", inPlace := ["math/bits.Add64"], named := ["math/bits.divideError", "math/bits.overflowError"], plainKeys := false, apart := false }
def InvoiceGrowsSaid : Prop := invoiceGrowsRow.holds Try.pinned (OpenSpec.ofChange invoiceGrowsSpec)

/-- ITS FALSE NEIGHBOUR: 'it returns false'. Refute it at one input. -/
def invoiceGrowsWrong : ChangeSpec := { name := "invoiceGrows", fn := fun _ => fun
  | [d1, d2, d3] => { results := [.lit (.bool false)], args := [d1, d2, d3] }
  | _ => none }
def InvoiceGrowsWrongFalsely : Prop := invoiceGrowsRow.holds Try.pinned (OpenSpec.ofChange invoiceGrowsWrong)

/-- 'quaysidelaw53.InvoiceTogether': WHATEVER THE INPUT: true; the input reads as it did. -/
def invoiceTogetherSpec : ChangeSpec := { name := "invoiceTogether", fn := fun _ => fun
  | [d1, d2, d3] => { results := [.lit (.bool true)], args := [d1, d2, d3] }
  | _ => none }
def invoiceTogetherRow : OpenClaim := { program := "ytepcnpnpjfdfmaa", sum := "242bd0dea74318e427751ad33c000c073bbc1f3ae8b57d7831cf564553389277", func := "quayside/quaysidelaw53.InvoiceTogether", spec := "invoiceTogether", inPlace := ["math/bits.Add64"], named := ["math/bits.divideError", "math/bits.overflowError"], plainKeys := false, apart := false }
def InvoiceTogetherSaid : Prop := invoiceTogetherRow.holds Try.pinned (OpenSpec.ofChange invoiceTogetherSpec)

/-- ITS FALSE NEIGHBOUR: 'it returns false'. Refute it at one input. -/
def invoiceTogetherWrong : ChangeSpec := { name := "invoiceTogether", fn := fun _ => fun
  | [d1, d2, d3] => { results := [.lit (.bool false)], args := [d1, d2, d3] }
  | _ => none }
def InvoiceTogetherWrongFalsely : Prop := invoiceTogetherRow.holds Try.pinned (OpenSpec.ofChange invoiceTogetherWrong)

/-- 'quaysidelaw53.InvoiceTiers': WHATEVER THE INPUT: true; the input reads as it did. -/
def invoiceTiersSpec : ChangeSpec := { name := "invoiceTiers", fn := fun _ => fun
  | [d1, d2, d3, d4] => { results := [.lit (.bool true)], args := [d1, d2, d3, d4] }
  | _ => none }
def invoiceTiersRow : OpenClaim := { program := "ytepcnpnpjfdfmaa", sum := "242bd0dea74318e427751ad33c000c073bbc1f3ae8b57d7831cf564553389277", func := "quayside/quaysidelaw53.InvoiceTiers", spec := "invoiceTiers", inPlace := ["math/bits.Add64"], named := ["math/bits.divideError", "math/bits.overflowError"], plainKeys := false, apart := false }
def InvoiceTiersSaid : Prop := invoiceTiersRow.holds Try.pinned (OpenSpec.ofChange invoiceTiersSpec)

/-- ITS FALSE NEIGHBOUR: 'it returns false'. Refute it at one input. -/
def invoiceTiersWrong : ChangeSpec := { name := "invoiceTiers", fn := fun _ => fun
  | [d1, d2, d3, d4] => { results := [.lit (.bool false)], args := [d1, d2, d3, d4] }
  | _ => none }
def InvoiceTiersWrongFalsely : Prop := invoiceTiersRow.holds Try.pinned (OpenSpec.ofChange invoiceTiersWrong)

/-- 'quaysidelaw53.InvoiceBills': WHATEVER THE INPUT: true; the input reads as it did. -/
def invoiceBillsSpec : ChangeSpec := { name := "invoiceBills", fn := fun _ => fun
  | [d] => { results := [.lit (.bool true)], args := [d] }
  | _ => none }
def invoiceBillsRow : OpenClaim := { program := "ytepcnpnpjfdfmaa", sum := "242bd0dea74318e427751ad33c000c073bbc1f3ae8b57d7831cf564553389277", func := "quayside/quaysidelaw53.InvoiceBills", spec := "invoiceBills", inPlace := ["math/bits.Add64"], unfollowed := true, recurses := true, named := ["math/bits.divideError", "math/bits.overflowError"], plainKeys := false, apart := false }
def InvoiceBillsSaid : Prop := invoiceBillsRow.holds Try.pinned (OpenSpec.ofChange invoiceBillsSpec)

/-- ITS FALSE NEIGHBOUR: 'it returns false'. Refute it at one input. -/
def invoiceBillsWrong : ChangeSpec := { name := "invoiceBills", fn := fun _ => fun
  | [d] => { results := [.lit (.bool false)], args := [d] }
  | _ => none }
def InvoiceBillsWrongFalsely : Prop := invoiceBillsRow.holds Try.pinned (OpenSpec.ofChange invoiceBillsWrong)

/-- 'quaysidelaw53.InvoiceOrder': WHATEVER THE INPUT: true; the input reads as it did. -/
def invoiceOrderSpec : ChangeSpec := { name := "invoiceOrder", fn := fun _ => fun
  | [d1, d2] => { results := [.lit (.bool true)], args := [d1, d2] }
  | _ => none }
def invoiceOrderRow : OpenClaim := { program := "ytepcnpnpjfdfmaa", sum := "242bd0dea74318e427751ad33c000c073bbc1f3ae8b57d7831cf564553389277", func := "quayside/quaysidelaw53.InvoiceOrder", spec := "invoiceOrder", inPlace := ["math/bits.Add64"], unfollowed := true, recurses := true, named := ["math/bits.divideError", "math/bits.overflowError"], plainKeys := false, apart := false }
def InvoiceOrderSaid : Prop := invoiceOrderRow.holds Try.pinned (OpenSpec.ofChange invoiceOrderSpec)

/-- ITS FALSE NEIGHBOUR: 'it returns false'. Refute it at one input. -/
def invoiceOrderWrong : ChangeSpec := { name := "invoiceOrder", fn := fun _ => fun
  | [d1, d2] => { results := [.lit (.bool false)], args := [d1, d2] }
  | _ => none }
def InvoiceOrderWrongFalsely : Prop := invoiceOrderRow.holds Try.pinned (OpenSpec.ofChange invoiceOrderWrong)

/- THE SECOND FORM. 'bulk': how many values and letters a reading holds, each counted each time it is reached (what is shared counts as often as it is met; a slice's spare places count too). A statement '..UptoSaid' is the law's where the arguments, and the package variables that the reading takes, are together of bulk at most 1048576: NARROWER than '..Said'. Prove '..Said' where nothing that the law and all that it calls make is longer than what came in: it says more and counts as full. Else prove '..UptoSaid'. A law counts once. -/
mutual
def uptoBulk {H : Type} : DataW H → Nat
  | .lit (.string bytes) => bytes.length + 1
  | .lit _ => 1
  | .nil => 1
  | .ptr d => uptoBulk d + 1
  | .slice elems spare => uptoBulkAll elems + uptoBulkAll spare + 1
  | .agg parts => uptoBulkAll parts + 1
  | .iface _ d => uptoBulk d + 1
  | .map entries => uptoBulkEntries entries + 1
  | .held _ => 1
def uptoBulkAll {H : Type} : List (DataW H) → Nat
  | [] => 0
  | d :: r => uptoBulk d + uptoBulkAll r
def uptoBulkEntries {H : Type} : List (Lit × DataW H) → Nat
  | [] => 0
  | x :: r => uptoBulkEntry x + uptoBulkEntries r
def uptoBulkEntry {H : Type} : Lit × DataW H → Nat
  | (.string bytes, d) => bytes.length + uptoBulk d + 1
  | (_, d) => uptoBulk d + 1
 end
def uptoSmall : (H : Type) → List (DataW H) → Bool := fun _ ds => decide (uptoBulkAll ds ≤ 1048576)
def OpenSpec.upto (s : _root_.Go.ChangeSpec) : _root_.Go.OpenSpec := { _root_.Go.OpenSpec.ofChange s with cond := some uptoSmall }

/-- 'quaysidelaw53.InvoiceChecks', WHERE WHAT IT READS IS OF BULK AT MOST 1048576: true; the input reads as it did. -/
def invoiceChecksUptoRow : OpenClaim := { program := "ytepcnpnpjfdfmaa", sum := "242bd0dea74318e427751ad33c000c073bbc1f3ae8b57d7831cf564553389277", func := "quayside/quaysidelaw53.InvoiceChecks", spec := "invoiceChecks", inPlace := ["math/bits.Add64"], named := ["math/bits.divideError", "math/bits.overflowError"], plainKeys := false, apart := false, narrowed := true }
def InvoiceChecksUptoSaid : Prop := invoiceChecksUptoRow.holds Try.pinned (OpenSpec.upto invoiceChecksSpec)

/-- 'quaysidelaw53.InvoiceCharges', WHERE WHAT IT READS IS OF BULK AT MOST 1048576: true; the input reads as it did. -/
def invoiceChargesUptoRow : OpenClaim := { program := "ytepcnpnpjfdfmaa", sum := "242bd0dea74318e427751ad33c000c073bbc1f3ae8b57d7831cf564553389277", func := "quayside/quaysidelaw53.InvoiceCharges", spec := "invoiceCharges", inPlace := ["math/bits.Add64"], named := ["math/bits.divideError", "math/bits.overflowError"], plainKeys := false, apart := false, narrowed := true }
def InvoiceChargesUptoSaid : Prop := invoiceChargesUptoRow.holds Try.pinned (OpenSpec.upto invoiceChargesSpec)

/-- 'quaysidelaw53.InvoiceExact', WHERE WHAT IT READS IS OF BULK AT MOST 1048576: true; the input reads as it did. -/
def invoiceExactUptoRow : OpenClaim := { program := "ytepcnpnpjfdfmaa", sum := "242bd0dea74318e427751ad33c000c073bbc1f3ae8b57d7831cf564553389277", func := "quayside/quaysidelaw53.InvoiceExact", spec := "invoiceExact", inPlace := ["math/bits.Add64"], named := ["math/bits.divideError", "math/bits.overflowError"], plainKeys := false, apart := false, narrowed := true }
def InvoiceExactUptoSaid : Prop := invoiceExactUptoRow.holds Try.pinned (OpenSpec.upto invoiceExactSpec)

/-- 'quaysidelaw53.InvoiceGrows', WHERE WHAT IT READS IS OF BULK AT MOST 1048576: true; the input reads as it did. -/
def invoiceGrowsUptoRow : OpenClaim := { program := "ytepcnpnpjfdfmaa", sum := "242bd0dea74318e427751ad33c000c073bbc1f3ae8b57d7831cf564553389277", func := "quayside/quaysidelaw53.InvoiceGrows", spec := "invoiceGrows", inPlace := ["math/bits.Add64"], named := ["math/bits.divideError", "math/bits.overflowError"], plainKeys := false, apart := false, narrowed := true }
def InvoiceGrowsUptoSaid : Prop := invoiceGrowsUptoRow.holds Try.pinned (OpenSpec.upto invoiceGrowsSpec)

/-- 'quaysidelaw53.InvoiceTogether', WHERE WHAT IT READS IS OF BULK AT MOST 1048576: true; the input reads as it did. -/
def invoiceTogetherUptoRow : OpenClaim := { program := "ytepcnpnpjfdfmaa", sum := "242bd0dea74318e427751ad33c000c073bbc1f3ae8b57d7831cf564553389277", func := "quayside/quaysidelaw53.InvoiceTogether", spec := "invoiceTogether", inPlace := ["math/bits.Add64"], named := ["math/bits.divideError", "math/bits.overflowError"], plainKeys := false, apart := false, narrowed := true }
def InvoiceTogetherUptoSaid : Prop := invoiceTogetherUptoRow.holds Try.pinned (OpenSpec.upto invoiceTogetherSpec)

/-- 'quaysidelaw53.InvoiceTiers', WHERE WHAT IT READS IS OF BULK AT MOST 1048576: true; the input reads as it did. -/
def invoiceTiersUptoRow : OpenClaim := { program := "ytepcnpnpjfdfmaa", sum := "242bd0dea74318e427751ad33c000c073bbc1f3ae8b57d7831cf564553389277", func := "quayside/quaysidelaw53.InvoiceTiers", spec := "invoiceTiers", inPlace := ["math/bits.Add64"], named := ["math/bits.divideError", "math/bits.overflowError"], plainKeys := false, apart := false, narrowed := true }
def InvoiceTiersUptoSaid : Prop := invoiceTiersUptoRow.holds Try.pinned (OpenSpec.upto invoiceTiersSpec)

/-- 'quaysidelaw53.InvoiceBills', WHERE WHAT IT READS IS OF BULK AT MOST 1048576: true; the input reads as it did. -/
def invoiceBillsUptoRow : OpenClaim := { program := "ytepcnpnpjfdfmaa", sum := "242bd0dea74318e427751ad33c000c073bbc1f3ae8b57d7831cf564553389277", func := "quayside/quaysidelaw53.InvoiceBills", spec := "invoiceBills", inPlace := ["math/bits.Add64"], unfollowed := true, recurses := true, named := ["math/bits.divideError", "math/bits.overflowError"], plainKeys := false, apart := false, narrowed := true }
def InvoiceBillsUptoSaid : Prop := invoiceBillsUptoRow.holds Try.pinned (OpenSpec.upto invoiceBillsSpec)

/-- 'quaysidelaw53.InvoiceOrder', WHERE WHAT IT READS IS OF BULK AT MOST 1048576: true; the input reads as it did. -/
def invoiceOrderUptoRow : OpenClaim := { program := "ytepcnpnpjfdfmaa", sum := "242bd0dea74318e427751ad33c000c073bbc1f3ae8b57d7831cf564553389277", func := "quayside/quaysidelaw53.InvoiceOrder", spec := "invoiceOrder", inPlace := ["math/bits.Add64"], unfollowed := true, recurses := true, named := ["math/bits.divideError", "math/bits.overflowError"], plainKeys := false, apart := false, narrowed := true }
def InvoiceOrderUptoSaid : Prop := invoiceOrderUptoRow.holds Try.pinned (OpenSpec.upto invoiceOrderSpec)

end Rows
end Go.Proofs.Ytepcnpnpjfdfmaa
