/-
  No cell of these rows narrows 'for every input' (looked for: loops, veiled, ifaces, maps, wideKeys, modest, calm, conditions, laid).
  DERIVED. THE GIVEN ROWS OF THIS SEAT. 6 by the template 'for every input the law returns true; each argument reads behind the call as it read before'; 0 by the template 'total and deterministic' (their statements: YtfjpaacanoocmaaTotals.lean).
  GIVEN WITH THE SEED: the statements are not yours to turn. If you find one false, say at which input.
  Laid BY PROGRAM, IN A SANDBOX (cutbox-rows.mjs): the forced cells as the released guide's own fill.sh prints them over the translation 01ae3eee24a7ea8b… (all of the seat's roots in one cut). By AI agents, Wed Nov 11 2026. No macro, syntax, notation, axiom, sorry.
-/
import Derived.Test.YtfjpaacanoocmaaChecked
import GoSem.Claim
import GoSem.ClaimJoined
import GoSem.ClaimMapViews
import Derived.JoinedTies
import Derived.KernelRfl
namespace Go.Proofs.Ytfjpaacanoocmaa
/- THE CELL 'sum', in the pinned program and in every row, IS THE sha256 OF THE DUMP (.gsa) THAT YtfjpaacanoocmaaProg.lean LOADS. Nothing in Lean hashes anything: it is a label: what it is worth is what the hold of that sum in a sandbox is worth. -/
noncomputable def Try.pinned : Pinned := { name := "ytfjpaacanoocmaa", sum := "01ae3eee24a7ea8b8c5ce4289aff6402c8e40b4ccaa6030b19e32686cd383c6a", checked := Try.checked }
namespace Rows
def none {H : Type} : Left H := { results := [], args := [] }

/-- 'quaysidelaw20.PiecesDrop': WHATEVER THE INPUT: true; the input reads as it did. -/
def piecesDropSpec : ChangeSpec := { name := "piecesDrop", fn := fun _ => fun
  | [d1, d2] => { results := [.lit (.bool true)], args := [d1, d2] }
  | _ => none }
def piecesDropRow : OpenClaim := { program := "ytfjpaacanoocmaa", sum := "01ae3eee24a7ea8b8c5ce4289aff6402c8e40b4ccaa6030b19e32686cd383c6a", func := "quayside/quaysidelaw20.PiecesDrop", spec := "piecesDrop", apart := false }
def PiecesDropSaid : Prop := piecesDropRow.holds Try.pinned (OpenSpec.ofChange piecesDropSpec)

/-- ITS FALSE NEIGHBOUR: 'it returns false'. Refute it at one input. -/
def piecesDropWrong : ChangeSpec := { name := "piecesDrop", fn := fun _ => fun
  | [d1, d2] => { results := [.lit (.bool false)], args := [d1, d2] }
  | _ => none }
def PiecesDropWrongFalsely : Prop := piecesDropRow.holds Try.pinned (OpenSpec.ofChange piecesDropWrong)

/-- 'quaysidelaw20.PiecesParts': WHATEVER THE INPUT: true; the input reads as it did. -/
def piecesPartsSpec : ChangeSpec := { name := "piecesParts", fn := fun _ => fun
  | [d1, d2, d3] => { results := [.lit (.bool true)], args := [d1, d2, d3] }
  | _ => none }
def piecesPartsRow : OpenClaim := { program := "ytfjpaacanoocmaa", sum := "01ae3eee24a7ea8b8c5ce4289aff6402c8e40b4ccaa6030b19e32686cd383c6a", func := "quayside/quaysidelaw20.PiecesParts", spec := "piecesParts", apart := false }
def PiecesPartsSaid : Prop := piecesPartsRow.holds Try.pinned (OpenSpec.ofChange piecesPartsSpec)

/-- ITS FALSE NEIGHBOUR: 'it returns false'. Refute it at one input. -/
def piecesPartsWrong : ChangeSpec := { name := "piecesParts", fn := fun _ => fun
  | [d1, d2, d3] => { results := [.lit (.bool false)], args := [d1, d2, d3] }
  | _ => none }
def PiecesPartsWrongFalsely : Prop := piecesPartsRow.holds Try.pinned (OpenSpec.ofChange piecesPartsWrong)

/-- 'quaysidelaw20.PiecesCovers': WHATEVER THE INPUT: true; the input reads as it did. -/
def piecesCoversSpec : ChangeSpec := { name := "piecesCovers", fn := fun _ => fun
  | [d1, d2, d3] => { results := [.lit (.bool true)], args := [d1, d2, d3] }
  | _ => none }
def piecesCoversRow : OpenClaim := { program := "ytfjpaacanoocmaa", sum := "01ae3eee24a7ea8b8c5ce4289aff6402c8e40b4ccaa6030b19e32686cd383c6a", func := "quayside/quaysidelaw20.PiecesCovers", spec := "piecesCovers", unfollowed := true, recurses := true, apart := false }
def PiecesCoversSaid : Prop := piecesCoversRow.holds Try.pinned (OpenSpec.ofChange piecesCoversSpec)

/-- ITS FALSE NEIGHBOUR: 'it returns false'. Refute it at one input. -/
def piecesCoversWrong : ChangeSpec := { name := "piecesCovers", fn := fun _ => fun
  | [d1, d2, d3] => { results := [.lit (.bool false)], args := [d1, d2, d3] }
  | _ => none }
def PiecesCoversWrongFalsely : Prop := piecesCoversRow.holds Try.pinned (OpenSpec.ofChange piecesCoversWrong)

/-- 'quaysidelaw20.PiecesPlay': WHATEVER THE INPUT: true; the input reads as it did. -/
def piecesPlaySpec : ChangeSpec := { name := "piecesPlay", fn := fun _ => fun
  | [d1, d2] => { results := [.lit (.bool true)], args := [d1, d2] }
  | _ => none }
def piecesPlayRow : OpenClaim := { program := "ytfjpaacanoocmaa", sum := "01ae3eee24a7ea8b8c5ce4289aff6402c8e40b4ccaa6030b19e32686cd383c6a", func := "quayside/quaysidelaw20.PiecesPlay", spec := "piecesPlay", unfollowed := true, recurses := true, apart := false }
def PiecesPlaySaid : Prop := piecesPlayRow.holds Try.pinned (OpenSpec.ofChange piecesPlaySpec)

/-- ITS FALSE NEIGHBOUR: 'it returns false'. Refute it at one input. -/
def piecesPlayWrong : ChangeSpec := { name := "piecesPlay", fn := fun _ => fun
  | [d1, d2] => { results := [.lit (.bool false)], args := [d1, d2] }
  | _ => none }
def PiecesPlayWrongFalsely : Prop := piecesPlayRow.holds Try.pinned (OpenSpec.ofChange piecesPlayWrong)

/-- 'quaysidelaw20.PiecesJoin': WHATEVER THE INPUT: true; the input reads as it did. -/
def piecesJoinSpec : ChangeSpec := { name := "piecesJoin", fn := fun _ => fun
  | [d] => { results := [.lit (.bool true)], args := [d] }
  | _ => none }
def piecesJoinRow : OpenClaim := { program := "ytfjpaacanoocmaa", sum := "01ae3eee24a7ea8b8c5ce4289aff6402c8e40b4ccaa6030b19e32686cd383c6a", func := "quayside/quaysidelaw20.PiecesJoin", spec := "piecesJoin", unfollowed := true, recurses := true, apart := false }
def PiecesJoinSaid : Prop := piecesJoinRow.holds Try.pinned (OpenSpec.ofChange piecesJoinSpec)

/-- ITS FALSE NEIGHBOUR: 'it returns false'. Refute it at one input. -/
def piecesJoinWrong : ChangeSpec := { name := "piecesJoin", fn := fun _ => fun
  | [d] => { results := [.lit (.bool false)], args := [d] }
  | _ => none }
def PiecesJoinWrongFalsely : Prop := piecesJoinRow.holds Try.pinned (OpenSpec.ofChange piecesJoinWrong)

/-- 'quaysidelaw20.PiecesForms': WHATEVER THE INPUT: true; the input reads as it did. -/
def piecesFormsSpec : ChangeSpec := { name := "piecesForms", fn := fun _ => fun
  | [d1, d2, d3] => { results := [.lit (.bool true)], args := [d1, d2, d3] }
  | _ => none }
def piecesFormsRow : OpenClaim := { program := "ytfjpaacanoocmaa", sum := "01ae3eee24a7ea8b8c5ce4289aff6402c8e40b4ccaa6030b19e32686cd383c6a", func := "quayside/quaysidelaw20.PiecesForms", spec := "piecesForms", unfollowed := true, recurses := true, apart := false }
def PiecesFormsSaid : Prop := piecesFormsRow.holds Try.pinned (OpenSpec.ofChange piecesFormsSpec)

/-- ITS FALSE NEIGHBOUR: 'it returns false'. Refute it at one input. -/
def piecesFormsWrong : ChangeSpec := { name := "piecesForms", fn := fun _ => fun
  | [d1, d2, d3] => { results := [.lit (.bool false)], args := [d1, d2, d3] }
  | _ => none }
def PiecesFormsWrongFalsely : Prop := piecesFormsRow.holds Try.pinned (OpenSpec.ofChange piecesFormsWrong)

/- THE SECOND FORM. 'bulk': how many values and letters a reading holds, each counted each time it is reached (what is shared counts as often as it is met; a slice's spare places count too). A statement '..UptoSaid' is the law's where the arguments, and the package variables that the reading takes, are together of bulk at most 1048576: NARROWER than '..Said'. Prove '..Said' where nothing that the law and all that it calls make is longer than what came in: it says more and counts as full. Else prove '..UptoSaid'. A law counts once. -/
mutual
def uptoBulk {H : Type} : DataW H → Nat
  | .lit (.string bytes) => bytes.length + 1
  | .lit _ => 1
  | .nil => 1
  | .ptr d => uptoBulk d + 1
  | .slice elems spare => uptoBulkAll elems + uptoBulkAll spare + 1
  | .agg parts => uptoBulkAll parts + 1
  | .iface _ d => uptoBulk d + 1
  | .map entries => uptoBulkEntries entries + 1
  | .held _ => 1
def uptoBulkAll {H : Type} : List (DataW H) → Nat
  | [] => 0
  | d :: r => uptoBulk d + uptoBulkAll r
def uptoBulkEntries {H : Type} : List (Lit × DataW H) → Nat
  | [] => 0
  | x :: r => uptoBulkEntry x + uptoBulkEntries r
def uptoBulkEntry {H : Type} : Lit × DataW H → Nat
  | (.string bytes, d) => bytes.length + uptoBulk d + 1
  | (_, d) => uptoBulk d + 1
 end
def uptoSmall : (H : Type) → List (DataW H) → Bool := fun _ ds => decide (uptoBulkAll ds ≤ 1048576)
def OpenSpec.upto (s : _root_.Go.ChangeSpec) : _root_.Go.OpenSpec := { _root_.Go.OpenSpec.ofChange s with cond := some uptoSmall }

/-- 'quaysidelaw20.PiecesDrop', WHERE WHAT IT READS IS OF BULK AT MOST 1048576: true; the input reads as it did. -/
def piecesDropUptoRow : OpenClaim := { program := "ytfjpaacanoocmaa", sum := "01ae3eee24a7ea8b8c5ce4289aff6402c8e40b4ccaa6030b19e32686cd383c6a", func := "quayside/quaysidelaw20.PiecesDrop", spec := "piecesDrop", apart := false, narrowed := true }
def PiecesDropUptoSaid : Prop := piecesDropUptoRow.holds Try.pinned (OpenSpec.upto piecesDropSpec)

/-- 'quaysidelaw20.PiecesParts', WHERE WHAT IT READS IS OF BULK AT MOST 1048576: true; the input reads as it did. -/
def piecesPartsUptoRow : OpenClaim := { program := "ytfjpaacanoocmaa", sum := "01ae3eee24a7ea8b8c5ce4289aff6402c8e40b4ccaa6030b19e32686cd383c6a", func := "quayside/quaysidelaw20.PiecesParts", spec := "piecesParts", apart := false, narrowed := true }
def PiecesPartsUptoSaid : Prop := piecesPartsUptoRow.holds Try.pinned (OpenSpec.upto piecesPartsSpec)

/-- 'quaysidelaw20.PiecesCovers', WHERE WHAT IT READS IS OF BULK AT MOST 1048576: true; the input reads as it did. -/
def piecesCoversUptoRow : OpenClaim := { program := "ytfjpaacanoocmaa", sum := "01ae3eee24a7ea8b8c5ce4289aff6402c8e40b4ccaa6030b19e32686cd383c6a", func := "quayside/quaysidelaw20.PiecesCovers", spec := "piecesCovers", unfollowed := true, recurses := true, apart := false, narrowed := true }
def PiecesCoversUptoSaid : Prop := piecesCoversUptoRow.holds Try.pinned (OpenSpec.upto piecesCoversSpec)

/-- 'quaysidelaw20.PiecesPlay', WHERE WHAT IT READS IS OF BULK AT MOST 1048576: true; the input reads as it did. -/
def piecesPlayUptoRow : OpenClaim := { program := "ytfjpaacanoocmaa", sum := "01ae3eee24a7ea8b8c5ce4289aff6402c8e40b4ccaa6030b19e32686cd383c6a", func := "quayside/quaysidelaw20.PiecesPlay", spec := "piecesPlay", unfollowed := true, recurses := true, apart := false, narrowed := true }
def PiecesPlayUptoSaid : Prop := piecesPlayUptoRow.holds Try.pinned (OpenSpec.upto piecesPlaySpec)

/-- 'quaysidelaw20.PiecesJoin', WHERE WHAT IT READS IS OF BULK AT MOST 1048576: true; the input reads as it did. -/
def piecesJoinUptoRow : OpenClaim := { program := "ytfjpaacanoocmaa", sum := "01ae3eee24a7ea8b8c5ce4289aff6402c8e40b4ccaa6030b19e32686cd383c6a", func := "quayside/quaysidelaw20.PiecesJoin", spec := "piecesJoin", unfollowed := true, recurses := true, apart := false, narrowed := true }
def PiecesJoinUptoSaid : Prop := piecesJoinUptoRow.holds Try.pinned (OpenSpec.upto piecesJoinSpec)

/-- 'quaysidelaw20.PiecesForms', WHERE WHAT IT READS IS OF BULK AT MOST 1048576: true; the input reads as it did. -/
def piecesFormsUptoRow : OpenClaim := { program := "ytfjpaacanoocmaa", sum := "01ae3eee24a7ea8b8c5ce4289aff6402c8e40b4ccaa6030b19e32686cd383c6a", func := "quayside/quaysidelaw20.PiecesForms", spec := "piecesForms", unfollowed := true, recurses := true, apart := false, narrowed := true }
def PiecesFormsUptoSaid : Prop := piecesFormsUptoRow.holds Try.pinned (OpenSpec.upto piecesFormsSpec)

end Rows
end Go.Proofs.Ytfjpaacanoocmaa
