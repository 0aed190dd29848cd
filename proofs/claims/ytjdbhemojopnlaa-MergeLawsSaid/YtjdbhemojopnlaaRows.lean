/-
  No cell of these rows narrows 'for every input' (looked for: loops, veiled, ifaces, maps, wideKeys, modest, calm, conditions, laid).
  DERIVED. THE GIVEN ROWS OF THIS SEAT. 8 by the template 'for every input the law returns true; each argument reads behind the call as it read before'; 0 by the template 'total and deterministic' (their statements: YtjdbhemojopnlaaTotals.lean).
  GIVEN WITH THE SEED: the statements are not yours to turn. If you find one false, say at which input.
  Laid BY PROGRAM, IN A SANDBOX (cutbox-rows.mjs): the forced cells as the released guide's own fill.sh prints them over the translation 9def41ba8a9a1ab2… (all of the seat's roots in one cut). By AI agents, Wed Nov 11 2026. No macro, syntax, notation, axiom, sorry.
-/
import Derived.Test.YtjdbhemojopnlaaChecked
import GoSem.Claim
import GoSem.ClaimJoined
import GoSem.ClaimMapViews
import Derived.JoinedTies
import Derived.KernelRfl
namespace Go.Proofs.Ytjdbhemojopnlaa
/- THE CELL 'sum', in the pinned program and in every row, IS THE sha256 OF THE DUMP (.gsa) THAT YtjdbhemojopnlaaProg.lean LOADS. Nothing in Lean hashes anything: it is a label: what it is worth is what the hold of that sum in a sandbox is worth. -/
noncomputable def Try.pinned : Pinned := { name := "ytjdbhemojopnlaa", sum := "9def41ba8a9a1ab28ce2b5ec5d9c8aecf740ff6249d811c270c907108be4db8f", checked := Try.checked }
namespace Rows
def none {H : Type} : Left H := { results := [], args := [] }

/-- 'quaysidelaw52.MergePuts': WHATEVER THE INPUT: true; the input reads as it did. -/
def mergePutsSpec : ChangeSpec := { name := "mergePuts", fn := fun _ => fun
  | [d] => { results := [.lit (.bool true)], args := [d] }
  | _ => none }
def mergePutsRow : OpenClaim := { program := "ytjdbhemojopnlaa", sum := "9def41ba8a9a1ab28ce2b5ec5d9c8aecf740ff6249d811c270c907108be4db8f", func := "quayside/quaysidelaw52.MergePuts", spec := "mergePuts", unfollowed := true, recurses := true, plainKeys := false, apart := false }
def MergePutsSaid : Prop := mergePutsRow.holds Try.pinned (OpenSpec.ofChange mergePutsSpec)

/-- ITS FALSE NEIGHBOUR: 'it returns false'. Refute it at one input. -/
def mergePutsWrong : ChangeSpec := { name := "mergePuts", fn := fun _ => fun
  | [d] => { results := [.lit (.bool false)], args := [d] }
  | _ => none }
def MergePutsWrongFalsely : Prop := mergePutsRow.holds Try.pinned (OpenSpec.ofChange mergePutsWrong)

/-- 'quaysidelaw52.MergeGaps': WHATEVER THE INPUT: true; the input reads as it did. -/
def mergeGapsSpec : ChangeSpec := { name := "mergeGaps", fn := fun _ => fun
  | [d] => { results := [.lit (.bool true)], args := [d] }
  | _ => none }
def mergeGapsRow : OpenClaim := { program := "ytjdbhemojopnlaa", sum := "9def41ba8a9a1ab28ce2b5ec5d9c8aecf740ff6249d811c270c907108be4db8f", func := "quayside/quaysidelaw52.MergeGaps", spec := "mergeGaps", unfollowed := true, recurses := true, plainKeys := false, apart := false }
def MergeGapsSaid : Prop := mergeGapsRow.holds Try.pinned (OpenSpec.ofChange mergeGapsSpec)

/-- ITS FALSE NEIGHBOUR: 'it returns false'. Refute it at one input. -/
def mergeGapsWrong : ChangeSpec := { name := "mergeGaps", fn := fun _ => fun
  | [d] => { results := [.lit (.bool false)], args := [d] }
  | _ => none }
def MergeGapsWrongFalsely : Prop := mergeGapsRow.holds Try.pinned (OpenSpec.ofChange mergeGapsWrong)

/-- 'quaysidelaw52.MergeTotals': WHATEVER THE INPUT: true; the input reads as it did. -/
def mergeTotalsSpec : ChangeSpec := { name := "mergeTotals", fn := fun _ => fun
  | [d1, d2, d3] => { results := [.lit (.bool true)], args := [d1, d2, d3] }
  | _ => none }
def mergeTotalsRow : OpenClaim := { program := "ytjdbhemojopnlaa", sum := "9def41ba8a9a1ab28ce2b5ec5d9c8aecf740ff6249d811c270c907108be4db8f", func := "quayside/quaysidelaw52.MergeTotals", spec := "mergeTotals", unfollowed := true, recurses := true, plainKeys := false, apart := false }
def MergeTotalsSaid : Prop := mergeTotalsRow.holds Try.pinned (OpenSpec.ofChange mergeTotalsSpec)

/-- ITS FALSE NEIGHBOUR: 'it returns false'. Refute it at one input. -/
def mergeTotalsWrong : ChangeSpec := { name := "mergeTotals", fn := fun _ => fun
  | [d1, d2, d3] => { results := [.lit (.bool false)], args := [d1, d2, d3] }
  | _ => none }
def MergeTotalsWrongFalsely : Prop := mergeTotalsRow.holds Try.pinned (OpenSpec.ofChange mergeTotalsWrong)

/-- 'quaysidelaw52.MergeSplits': WHATEVER THE INPUT: true; the input reads as it did. -/
def mergeSplitsSpec : ChangeSpec := { name := "mergeSplits", fn := fun _ => fun
  | [d1, d2, d3] => { results := [.lit (.bool true)], args := [d1, d2, d3] }
  | _ => none }
def mergeSplitsRow : OpenClaim := { program := "ytjdbhemojopnlaa", sum := "9def41ba8a9a1ab28ce2b5ec5d9c8aecf740ff6249d811c270c907108be4db8f", func := "quayside/quaysidelaw52.MergeSplits", spec := "mergeSplits", unfollowed := true, recurses := true, plainKeys := false, apart := false }
def MergeSplitsSaid : Prop := mergeSplitsRow.holds Try.pinned (OpenSpec.ofChange mergeSplitsSpec)

/-- ITS FALSE NEIGHBOUR: 'it returns false'. Refute it at one input. -/
def mergeSplitsWrong : ChangeSpec := { name := "mergeSplits", fn := fun _ => fun
  | [d1, d2, d3] => { results := [.lit (.bool false)], args := [d1, d2, d3] }
  | _ => none }
def MergeSplitsWrongFalsely : Prop := mergeSplitsRow.holds Try.pinned (OpenSpec.ofChange mergeSplitsWrong)

/-- 'quaysidelaw52.MergeJoins': WHATEVER THE INPUT: true; the input reads as it did. -/
def mergeJoinsSpec : ChangeSpec := { name := "mergeJoins", fn := fun _ => fun
  | [d1, d2] => { results := [.lit (.bool true)], args := [d1, d2] }
  | _ => none }
def mergeJoinsRow : OpenClaim := { program := "ytjdbhemojopnlaa", sum := "9def41ba8a9a1ab28ce2b5ec5d9c8aecf740ff6249d811c270c907108be4db8f", func := "quayside/quaysidelaw52.MergeJoins", spec := "mergeJoins", unfollowed := true, recurses := true, plainKeys := false, apart := false }
def MergeJoinsSaid : Prop := mergeJoinsRow.holds Try.pinned (OpenSpec.ofChange mergeJoinsSpec)

/-- ITS FALSE NEIGHBOUR: 'it returns false'. Refute it at one input. -/
def mergeJoinsWrong : ChangeSpec := { name := "mergeJoins", fn := fun _ => fun
  | [d1, d2] => { results := [.lit (.bool false)], args := [d1, d2] }
  | _ => none }
def MergeJoinsWrongFalsely : Prop := mergeJoinsRow.holds Try.pinned (OpenSpec.ofChange mergeJoinsWrong)

/-- 'quaysidelaw52.MergeOrder': WHATEVER THE INPUT: true; the input reads as it did. -/
def mergeOrderSpec : ChangeSpec := { name := "mergeOrder", fn := fun _ => fun
  | [d1, d2] => { results := [.lit (.bool true)], args := [d1, d2] }
  | _ => none }
def mergeOrderRow : OpenClaim := { program := "ytjdbhemojopnlaa", sum := "9def41ba8a9a1ab28ce2b5ec5d9c8aecf740ff6249d811c270c907108be4db8f", func := "quayside/quaysidelaw52.MergeOrder", spec := "mergeOrder", unfollowed := true, recurses := true, plainKeys := false, apart := false }
def MergeOrderSaid : Prop := mergeOrderRow.holds Try.pinned (OpenSpec.ofChange mergeOrderSpec)

/-- ITS FALSE NEIGHBOUR: 'it returns false'. Refute it at one input. -/
def mergeOrderWrong : ChangeSpec := { name := "mergeOrder", fn := fun _ => fun
  | [d1, d2] => { results := [.lit (.bool false)], args := [d1, d2] }
  | _ => none }
def MergeOrderWrongFalsely : Prop := mergeOrderRow.holds Try.pinned (OpenSpec.ofChange mergeOrderWrong)

/-- 'quaysidelaw52.MergeLaws': WHATEVER THE INPUT: true; the input reads as it did. -/
def mergeLawsSpec : ChangeSpec := { name := "mergeLaws", fn := fun _ => fun
  | [d1, d2, d3] => { results := [.lit (.bool true)], args := [d1, d2, d3] }
  | _ => none }
def mergeLawsRow : OpenClaim := { program := "ytjdbhemojopnlaa", sum := "9def41ba8a9a1ab28ce2b5ec5d9c8aecf740ff6249d811c270c907108be4db8f", func := "quayside/quaysidelaw52.MergeLaws", spec := "mergeLaws", unfollowed := true, recurses := true, plainKeys := false, apart := false }
def MergeLawsSaid : Prop := mergeLawsRow.holds Try.pinned (OpenSpec.ofChange mergeLawsSpec)

/-- ITS FALSE NEIGHBOUR: 'it returns false'. Refute it at one input. -/
def mergeLawsWrong : ChangeSpec := { name := "mergeLaws", fn := fun _ => fun
  | [d1, d2, d3] => { results := [.lit (.bool false)], args := [d1, d2, d3] }
  | _ => none }
def MergeLawsWrongFalsely : Prop := mergeLawsRow.holds Try.pinned (OpenSpec.ofChange mergeLawsWrong)

/-- 'quaysidelaw52.MergeSame': WHATEVER THE INPUT: true; the input reads as it did. -/
def mergeSameSpec : ChangeSpec := { name := "mergeSame", fn := fun _ => fun
  | [d1, d2, d3] => { results := [.lit (.bool true)], args := [d1, d2, d3] }
  | _ => none }
def mergeSameRow : OpenClaim := { program := "ytjdbhemojopnlaa", sum := "9def41ba8a9a1ab28ce2b5ec5d9c8aecf740ff6249d811c270c907108be4db8f", func := "quayside/quaysidelaw52.MergeSame", spec := "mergeSame", unfollowed := true, recurses := true, plainKeys := false, apart := false }
def MergeSameSaid : Prop := mergeSameRow.holds Try.pinned (OpenSpec.ofChange mergeSameSpec)

/-- ITS FALSE NEIGHBOUR: 'it returns false'. Refute it at one input. -/
def mergeSameWrong : ChangeSpec := { name := "mergeSame", fn := fun _ => fun
  | [d1, d2, d3] => { results := [.lit (.bool false)], args := [d1, d2, d3] }
  | _ => none }
def MergeSameWrongFalsely : Prop := mergeSameRow.holds Try.pinned (OpenSpec.ofChange mergeSameWrong)

/- THE SECOND FORM. 'bulk': how many values and letters a reading holds, each counted each time it is reached (what is shared counts as often as it is met; a slice's spare places count too). A statement '..UptoSaid' is the law's where the arguments, and the package variables that the reading takes, are together of bulk at most 1048576: NARROWER than '..Said'. Prove '..Said' where nothing that the law and all that it calls make is longer than what came in: it says more and counts as full. Else prove '..UptoSaid'. A law counts once. -/
mutual
def uptoBulk {H : Type} : DataW H → Nat
  | .lit (.string bytes) => bytes.length + 1
  | .lit _ => 1
  | .nil => 1
  | .ptr d => uptoBulk d + 1
  | .slice elems spare => uptoBulkAll elems + uptoBulkAll spare + 1
  | .agg parts => uptoBulkAll parts + 1
  | .iface _ d => uptoBulk d + 1
  | .map entries => uptoBulkEntries entries + 1
  | .held _ => 1
def uptoBulkAll {H : Type} : List (DataW H) → Nat
  | [] => 0
  | d :: r => uptoBulk d + uptoBulkAll r
def uptoBulkEntries {H : Type} : List (Lit × DataW H) → Nat
  | [] => 0
  | x :: r => uptoBulkEntry x + uptoBulkEntries r
def uptoBulkEntry {H : Type} : Lit × DataW H → Nat
  | (.string bytes, d) => bytes.length + uptoBulk d + 1
  | (_, d) => uptoBulk d + 1
 end
def uptoSmall : (H : Type) → List (DataW H) → Bool := fun _ ds => decide (uptoBulkAll ds ≤ 1048576)
def OpenSpec.upto (s : _root_.Go.ChangeSpec) : _root_.Go.OpenSpec := { _root_.Go.OpenSpec.ofChange s with cond := some uptoSmall }

/-- 'quaysidelaw52.MergePuts', WHERE WHAT IT READS IS OF BULK AT MOST 1048576: true; the input reads as it did. -/
def mergePutsUptoRow : OpenClaim := { program := "ytjdbhemojopnlaa", sum := "9def41ba8a9a1ab28ce2b5ec5d9c8aecf740ff6249d811c270c907108be4db8f", func := "quayside/quaysidelaw52.MergePuts", spec := "mergePuts", unfollowed := true, recurses := true, plainKeys := false, apart := false, narrowed := true }
def MergePutsUptoSaid : Prop := mergePutsUptoRow.holds Try.pinned (OpenSpec.upto mergePutsSpec)

/-- 'quaysidelaw52.MergeGaps', WHERE WHAT IT READS IS OF BULK AT MOST 1048576: true; the input reads as it did. -/
def mergeGapsUptoRow : OpenClaim := { program := "ytjdbhemojopnlaa", sum := "9def41ba8a9a1ab28ce2b5ec5d9c8aecf740ff6249d811c270c907108be4db8f", func := "quayside/quaysidelaw52.MergeGaps", spec := "mergeGaps", unfollowed := true, recurses := true, plainKeys := false, apart := false, narrowed := true }
def MergeGapsUptoSaid : Prop := mergeGapsUptoRow.holds Try.pinned (OpenSpec.upto mergeGapsSpec)

/-- 'quaysidelaw52.MergeTotals', WHERE WHAT IT READS IS OF BULK AT MOST 1048576: true; the input reads as it did. -/
def mergeTotalsUptoRow : OpenClaim := { program := "ytjdbhemojopnlaa", sum := "9def41ba8a9a1ab28ce2b5ec5d9c8aecf740ff6249d811c270c907108be4db8f", func := "quayside/quaysidelaw52.MergeTotals", spec := "mergeTotals", unfollowed := true, recurses := true, plainKeys := false, apart := false, narrowed := true }
def MergeTotalsUptoSaid : Prop := mergeTotalsUptoRow.holds Try.pinned (OpenSpec.upto mergeTotalsSpec)

/-- 'quaysidelaw52.MergeSplits', WHERE WHAT IT READS IS OF BULK AT MOST 1048576: true; the input reads as it did. -/
def mergeSplitsUptoRow : OpenClaim := { program := "ytjdbhemojopnlaa", sum := "9def41ba8a9a1ab28ce2b5ec5d9c8aecf740ff6249d811c270c907108be4db8f", func := "quayside/quaysidelaw52.MergeSplits", spec := "mergeSplits", unfollowed := true, recurses := true, plainKeys := false, apart := false, narrowed := true }
def MergeSplitsUptoSaid : Prop := mergeSplitsUptoRow.holds Try.pinned (OpenSpec.upto mergeSplitsSpec)

/-- 'quaysidelaw52.MergeJoins', WHERE WHAT IT READS IS OF BULK AT MOST 1048576: true; the input reads as it did. -/
def mergeJoinsUptoRow : OpenClaim := { program := "ytjdbhemojopnlaa", sum := "9def41ba8a9a1ab28ce2b5ec5d9c8aecf740ff6249d811c270c907108be4db8f", func := "quayside/quaysidelaw52.MergeJoins", spec := "mergeJoins", unfollowed := true, recurses := true, plainKeys := false, apart := false, narrowed := true }
def MergeJoinsUptoSaid : Prop := mergeJoinsUptoRow.holds Try.pinned (OpenSpec.upto mergeJoinsSpec)

/-- 'quaysidelaw52.MergeOrder', WHERE WHAT IT READS IS OF BULK AT MOST 1048576: true; the input reads as it did. -/
def mergeOrderUptoRow : OpenClaim := { program := "ytjdbhemojopnlaa", sum := "9def41ba8a9a1ab28ce2b5ec5d9c8aecf740ff6249d811c270c907108be4db8f", func := "quayside/quaysidelaw52.MergeOrder", spec := "mergeOrder", unfollowed := true, recurses := true, plainKeys := false, apart := false, narrowed := true }
def MergeOrderUptoSaid : Prop := mergeOrderUptoRow.holds Try.pinned (OpenSpec.upto mergeOrderSpec)

/-- 'quaysidelaw52.MergeLaws', WHERE WHAT IT READS IS OF BULK AT MOST 1048576: true; the input reads as it did. -/
def mergeLawsUptoRow : OpenClaim := { program := "ytjdbhemojopnlaa", sum := "9def41ba8a9a1ab28ce2b5ec5d9c8aecf740ff6249d811c270c907108be4db8f", func := "quayside/quaysidelaw52.MergeLaws", spec := "mergeLaws", unfollowed := true, recurses := true, plainKeys := false, apart := false, narrowed := true }
def MergeLawsUptoSaid : Prop := mergeLawsUptoRow.holds Try.pinned (OpenSpec.upto mergeLawsSpec)

/-- 'quaysidelaw52.MergeSame', WHERE WHAT IT READS IS OF BULK AT MOST 1048576: true; the input reads as it did. -/
def mergeSameUptoRow : OpenClaim := { program := "ytjdbhemojopnlaa", sum := "9def41ba8a9a1ab28ce2b5ec5d9c8aecf740ff6249d811c270c907108be4db8f", func := "quayside/quaysidelaw52.MergeSame", spec := "mergeSame", unfollowed := true, recurses := true, plainKeys := false, apart := false, narrowed := true }
def MergeSameUptoSaid : Prop := mergeSameUptoRow.holds Try.pinned (OpenSpec.upto mergeSameSpec)

end Rows
end Go.Proofs.Ytjdbhemojopnlaa
