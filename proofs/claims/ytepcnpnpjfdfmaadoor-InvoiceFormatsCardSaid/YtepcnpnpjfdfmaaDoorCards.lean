/-
  DERIVED. GIVEN WITH THE SEED: THE CARDS: each row of YtepcnpnpjfdfmaaDoorRows.lean that lists a variable, with what it lists TIED to the program's text (the seventh form; the later family's looks); each row that meets fmt, with fmt's text TOLD by the authors' own Lean function (tested against real Go, not proved from fmt's source: count such statements apart). THE CARD IS WHAT COUNTS. Prove the row's statement (the work); the ties are given (YtepcnpnpjfdfmaaDoorTie.lean); close each card by the builder's one call (the guide's Derived/Test/ToyasCard.lean, 'card_holds'). Laid BY PROGRAM, IN A SANDBOX (cutbox-door.mjs). By AI agents, Wed Nov 11 2026. No macro, syntax, notation, axiom, sorry.
-/
import Derived.Test.YtepcnpnpjfdfmaaDoorRows
import GoSem.ClaimSeven
namespace Go.Proofs.YtepcnpnpjfdfmaaDoor
namespace Rows

/-- THE TIED CARD OF 'quaysidelaw53.InvoiceFormats'. -/
def invoiceFormatsCard : Claim7 := { stood := { row := invoiceFormatsRow, standIns := [], harness := (true, "ea3e158989bf75742b206d24875ddc1eec4bafb50d6f156f520c35e1371dc0a9"), looks := false }, kinds := [], alts := [], laidByText := true, laidKinds := [.data, .data, .data], laidTests := true, laidLooks := .later }
def InvoiceFormatsCardSaid : Prop := Claim7.holds Tryd.pinned (.plain (OpenSpec.ofChange invoiceFormatsSpec)) invoiceFormatsCard

/-- THE SECOND FORM's CARD OF 'quaysidelaw53.InvoiceFormats'. -/
def invoiceFormatsUptoCard : Claim7 := { stood := { row := invoiceFormatsUptoRow, standIns := [], harness := (true, "ea3e158989bf75742b206d24875ddc1eec4bafb50d6f156f520c35e1371dc0a9"), looks := false }, kinds := [], alts := [], laidByText := true, laidKinds := [.data, .data, .data], laidTests := true, laidLooks := .later }
def InvoiceFormatsUptoCardSaid : Prop := Claim7.holds Tryd.pinned (.plain (OpenSpec.upto invoiceFormatsSpec)) invoiceFormatsUptoCard
end Rows
end Go.Proofs.YtepcnpnpjfdfmaaDoor
