/-
  No cell of these rows narrows 'for every input' (looked for: loops, veiled, ifaces, maps, wideKeys, modest, calm, conditions, laid).
  DERIVED. THE GIVEN ROWS OF THIS SEAT. 6 by the template 'for every input the law returns true; each argument reads behind the call as it read before'; 0 by the template 'total and deterministic' (their statements: YtfgjbbpkkbohhaaGreatTotals.lean).
  GIVEN WITH THE SEED: the statements are not yours to turn. If you find one false, say at which input.
  Laid BY PROGRAM, IN A SANDBOX (cutbox-rows.mjs): the forced cells as the released guide's own fill.sh prints them over the translation 8500432cf97c39ef… (all of the seat's roots in one cut). By AI agents, Wed Nov 11 2026. No macro, syntax, notation, axiom, sorry.
-/
import Derived.Test.YtfgjbbpkkbohhaaGreatChecked
import GoSem.Claim
import GoSem.ClaimJoined
import GoSem.ClaimMapViews
import Derived.JoinedTies
import Derived.KernelRfl
namespace Go.Proofs.YtfgjbbpkkbohhaaGreat
/- THE CELL 'sum', in the pinned program and in every row, IS THE sha256 OF THE DUMP (.gsa) THAT YtfgjbbpkkbohhaaGreatProg.lean LOADS. Nothing in Lean hashes anything: it is a label: what it is worth is what the hold of that sum in a sandbox is worth. -/
noncomputable def Tryz.pinned : Pinned := { name := "ytfgjbbpkkbohhaagreat", sum := "8500432cf97c39ef812ec0f3cca0db387d754cab804860185fe18d7380170a85", checked := Tryz.checked }
namespace Rows
def none {H : Type} : Left H := { results := [], args := [] }

/-- 'quaysidelaw24.ShelfKeeps': WHATEVER THE INPUT: true; the input reads as it did. -/
def shelfKeepsSpec : ChangeSpec := { name := "shelfKeeps", fn := fun _ => fun
  | [d1, d2, d3] => { results := [.lit (.bool true)], args := [d1, d2, d3] }
  | _ => none }
def shelfKeepsRow : OpenClaim := { program := "ytfgjbbpkkbohhaagreat", sum := "8500432cf97c39ef812ec0f3cca0db387d754cab804860185fe18d7380170a85", func := "quayside/quaysidelaw24.ShelfKeeps", spec := "shelfKeeps", inPlace := ["slices.overlaps[quayside/queue.item]"], unfollowed := true, recurses := true, apart := false }
def ShelfKeepsSaid : Prop := shelfKeepsRow.holds Tryz.pinned (OpenSpec.ofChange shelfKeepsSpec)

/-- ITS FALSE NEIGHBOUR: 'it returns false'. Refute it at one input. -/
def shelfKeepsWrong : ChangeSpec := { name := "shelfKeeps", fn := fun _ => fun
  | [d1, d2, d3] => { results := [.lit (.bool false)], args := [d1, d2, d3] }
  | _ => none }
def ShelfKeepsWrongFalsely : Prop := shelfKeepsRow.holds Tryz.pinned (OpenSpec.ofChange shelfKeepsWrong)

/-- 'quaysidelaw24.ShelfDrops': WHATEVER THE INPUT: true; the input reads as it did. -/
def shelfDropsSpec : ChangeSpec := { name := "shelfDrops", fn := fun _ => fun
  | [d1, d2, d3] => { results := [.lit (.bool true)], args := [d1, d2, d3] }
  | _ => none }
def shelfDropsRow : OpenClaim := { program := "ytfgjbbpkkbohhaagreat", sum := "8500432cf97c39ef812ec0f3cca0db387d754cab804860185fe18d7380170a85", func := "quayside/quaysidelaw24.ShelfDrops", spec := "shelfDrops", inPlace := ["slices.overlaps[quayside/queue.item]"], unfollowed := true, recurses := true, apart := false }
def ShelfDropsSaid : Prop := shelfDropsRow.holds Tryz.pinned (OpenSpec.ofChange shelfDropsSpec)

/-- ITS FALSE NEIGHBOUR: 'it returns false'. Refute it at one input. -/
def shelfDropsWrong : ChangeSpec := { name := "shelfDrops", fn := fun _ => fun
  | [d1, d2, d3] => { results := [.lit (.bool false)], args := [d1, d2, d3] }
  | _ => none }
def ShelfDropsWrongFalsely : Prop := shelfDropsRow.holds Tryz.pinned (OpenSpec.ofChange shelfDropsWrong)

/-- 'quaysidelaw24.ShelfPlays': WHATEVER THE INPUT: true; the input reads as it did. -/
def shelfPlaysSpec : ChangeSpec := { name := "shelfPlays", fn := fun _ => fun
  | [d1, d2, d3] => { results := [.lit (.bool true)], args := [d1, d2, d3] }
  | _ => none }
def shelfPlaysRow : OpenClaim := { program := "ytfgjbbpkkbohhaagreat", sum := "8500432cf97c39ef812ec0f3cca0db387d754cab804860185fe18d7380170a85", func := "quayside/quaysidelaw24.ShelfPlays", spec := "shelfPlays", inPlace := ["slices.overlaps[quayside/queue.item]"], unfollowed := true, recurses := true, apart := false }
def ShelfPlaysSaid : Prop := shelfPlaysRow.holds Tryz.pinned (OpenSpec.ofChange shelfPlaysSpec)

/-- ITS FALSE NEIGHBOUR: 'it returns false'. Refute it at one input. -/
def shelfPlaysWrong : ChangeSpec := { name := "shelfPlays", fn := fun _ => fun
  | [d1, d2, d3] => { results := [.lit (.bool false)], args := [d1, d2, d3] }
  | _ => none }
def ShelfPlaysWrongFalsely : Prop := shelfPlaysRow.holds Tryz.pinned (OpenSpec.ofChange shelfPlaysWrong)

/-- 'quaysidelaw24.ShelfReads': WHATEVER THE INPUT: true; the input reads as it did. -/
def shelfReadsSpec : ChangeSpec := { name := "shelfReads", fn := fun _ => fun
  | [d1, d2, d3] => { results := [.lit (.bool true)], args := [d1, d2, d3] }
  | _ => none }
def shelfReadsRow : OpenClaim := { program := "ytfgjbbpkkbohhaagreat", sum := "8500432cf97c39ef812ec0f3cca0db387d754cab804860185fe18d7380170a85", func := "quayside/quaysidelaw24.ShelfReads", spec := "shelfReads", inPlace := ["slices.overlaps[quayside/queue.item]"], unfollowed := true, recurses := true, apart := false }
def ShelfReadsSaid : Prop := shelfReadsRow.holds Tryz.pinned (OpenSpec.ofChange shelfReadsSpec)

/-- ITS FALSE NEIGHBOUR: 'it returns false'. Refute it at one input. -/
def shelfReadsWrong : ChangeSpec := { name := "shelfReads", fn := fun _ => fun
  | [d1, d2, d3] => { results := [.lit (.bool false)], args := [d1, d2, d3] }
  | _ => none }
def ShelfReadsWrongFalsely : Prop := shelfReadsRow.holds Tryz.pinned (OpenSpec.ofChange shelfReadsWrong)

/-- 'quaysidelaw24.ShelfForms': WHATEVER THE INPUT: true; the input reads as it did. -/
def shelfFormsSpec : ChangeSpec := { name := "shelfForms", fn := fun _ => fun
  | [d1, d2, d3] => { results := [.lit (.bool true)], args := [d1, d2, d3] }
  | _ => none }
def shelfFormsRow : OpenClaim := { program := "ytfgjbbpkkbohhaagreat", sum := "8500432cf97c39ef812ec0f3cca0db387d754cab804860185fe18d7380170a85", func := "quayside/quaysidelaw24.ShelfForms", spec := "shelfForms", inPlace := ["slices.overlaps[quayside/queue.item]"], unfollowed := true, recurses := true, apart := false }
def ShelfFormsSaid : Prop := shelfFormsRow.holds Tryz.pinned (OpenSpec.ofChange shelfFormsSpec)

/-- ITS FALSE NEIGHBOUR: 'it returns false'. Refute it at one input. -/
def shelfFormsWrong : ChangeSpec := { name := "shelfForms", fn := fun _ => fun
  | [d1, d2, d3] => { results := [.lit (.bool false)], args := [d1, d2, d3] }
  | _ => none }
def ShelfFormsWrongFalsely : Prop := shelfFormsRow.holds Tryz.pinned (OpenSpec.ofChange shelfFormsWrong)

/-- 'quaysidelaw24.ShelfRecovers': WHATEVER THE INPUT: true; the input reads as it did. -/
def shelfRecoversSpec : ChangeSpec := { name := "shelfRecovers", fn := fun _ => fun
  | [d] => { results := [.lit (.bool true)], args := [d] }
  | _ => none }
def shelfRecoversRow : OpenClaim := { program := "ytfgjbbpkkbohhaagreat", sum := "8500432cf97c39ef812ec0f3cca0db387d754cab804860185fe18d7380170a85", func := "quayside/quaysidelaw24.ShelfRecovers", spec := "shelfRecovers", inPlace := ["slices.overlaps[quayside/queue.item]"], unfollowed := true, recurses := true, apart := false }
def ShelfRecoversSaid : Prop := shelfRecoversRow.holds Tryz.pinned (OpenSpec.ofChange shelfRecoversSpec)

/-- ITS FALSE NEIGHBOUR: 'it returns false'. Refute it at one input. -/
def shelfRecoversWrong : ChangeSpec := { name := "shelfRecovers", fn := fun _ => fun
  | [d] => { results := [.lit (.bool false)], args := [d] }
  | _ => none }
def ShelfRecoversWrongFalsely : Prop := shelfRecoversRow.holds Tryz.pinned (OpenSpec.ofChange shelfRecoversWrong)

/- THE SECOND FORM. 'bulk': how many values and letters a reading holds, each counted each time it is reached (what is shared counts as often as it is met; a slice's spare places count too). A statement '..UptoSaid' is the law's where the arguments, and the package variables that the reading takes, are together of bulk at most 1048576: NARROWER than '..Said'. Prove '..Said' where nothing that the law and all that it calls make is longer than what came in: it says more and counts as full. Else prove '..UptoSaid'. A law counts once. -/
mutual
def uptoBulk {H : Type} : DataW H → Nat
  | .lit (.string bytes) => bytes.length + 1
  | .lit _ => 1
  | .nil => 1
  | .ptr d => uptoBulk d + 1
  | .slice elems spare => uptoBulkAll elems + uptoBulkAll spare + 1
  | .agg parts => uptoBulkAll parts + 1
  | .iface _ d => uptoBulk d + 1
  | .map entries => uptoBulkEntries entries + 1
  | .held _ => 1
def uptoBulkAll {H : Type} : List (DataW H) → Nat
  | [] => 0
  | d :: r => uptoBulk d + uptoBulkAll r
def uptoBulkEntries {H : Type} : List (Lit × DataW H) → Nat
  | [] => 0
  | x :: r => uptoBulkEntry x + uptoBulkEntries r
def uptoBulkEntry {H : Type} : Lit × DataW H → Nat
  | (.string bytes, d) => bytes.length + uptoBulk d + 1
  | (_, d) => uptoBulk d + 1
 end
def uptoSmall : (H : Type) → List (DataW H) → Bool := fun _ ds => decide (uptoBulkAll ds ≤ 1048576)
def OpenSpec.upto (s : _root_.Go.ChangeSpec) : _root_.Go.OpenSpec := { _root_.Go.OpenSpec.ofChange s with cond := some uptoSmall }

/-- 'quaysidelaw24.ShelfKeeps', WHERE WHAT IT READS IS OF BULK AT MOST 1048576: true; the input reads as it did. -/
def shelfKeepsUptoRow : OpenClaim := { program := "ytfgjbbpkkbohhaagreat", sum := "8500432cf97c39ef812ec0f3cca0db387d754cab804860185fe18d7380170a85", func := "quayside/quaysidelaw24.ShelfKeeps", spec := "shelfKeeps", inPlace := ["slices.overlaps[quayside/queue.item]"], unfollowed := true, recurses := true, apart := false, narrowed := true }
def ShelfKeepsUptoSaid : Prop := shelfKeepsUptoRow.holds Tryz.pinned (OpenSpec.upto shelfKeepsSpec)

/-- 'quaysidelaw24.ShelfDrops', WHERE WHAT IT READS IS OF BULK AT MOST 1048576: true; the input reads as it did. -/
def shelfDropsUptoRow : OpenClaim := { program := "ytfgjbbpkkbohhaagreat", sum := "8500432cf97c39ef812ec0f3cca0db387d754cab804860185fe18d7380170a85", func := "quayside/quaysidelaw24.ShelfDrops", spec := "shelfDrops", inPlace := ["slices.overlaps[quayside/queue.item]"], unfollowed := true, recurses := true, apart := false, narrowed := true }
def ShelfDropsUptoSaid : Prop := shelfDropsUptoRow.holds Tryz.pinned (OpenSpec.upto shelfDropsSpec)

/-- 'quaysidelaw24.ShelfPlays', WHERE WHAT IT READS IS OF BULK AT MOST 1048576: true; the input reads as it did. -/
def shelfPlaysUptoRow : OpenClaim := { program := "ytfgjbbpkkbohhaagreat", sum := "8500432cf97c39ef812ec0f3cca0db387d754cab804860185fe18d7380170a85", func := "quayside/quaysidelaw24.ShelfPlays", spec := "shelfPlays", inPlace := ["slices.overlaps[quayside/queue.item]"], unfollowed := true, recurses := true, apart := false, narrowed := true }
def ShelfPlaysUptoSaid : Prop := shelfPlaysUptoRow.holds Tryz.pinned (OpenSpec.upto shelfPlaysSpec)

/-- 'quaysidelaw24.ShelfReads', WHERE WHAT IT READS IS OF BULK AT MOST 1048576: true; the input reads as it did. -/
def shelfReadsUptoRow : OpenClaim := { program := "ytfgjbbpkkbohhaagreat", sum := "8500432cf97c39ef812ec0f3cca0db387d754cab804860185fe18d7380170a85", func := "quayside/quaysidelaw24.ShelfReads", spec := "shelfReads", inPlace := ["slices.overlaps[quayside/queue.item]"], unfollowed := true, recurses := true, apart := false, narrowed := true }
def ShelfReadsUptoSaid : Prop := shelfReadsUptoRow.holds Tryz.pinned (OpenSpec.upto shelfReadsSpec)

/-- 'quaysidelaw24.ShelfForms', WHERE WHAT IT READS IS OF BULK AT MOST 1048576: true; the input reads as it did. -/
def shelfFormsUptoRow : OpenClaim := { program := "ytfgjbbpkkbohhaagreat", sum := "8500432cf97c39ef812ec0f3cca0db387d754cab804860185fe18d7380170a85", func := "quayside/quaysidelaw24.ShelfForms", spec := "shelfForms", inPlace := ["slices.overlaps[quayside/queue.item]"], unfollowed := true, recurses := true, apart := false, narrowed := true }
def ShelfFormsUptoSaid : Prop := shelfFormsUptoRow.holds Tryz.pinned (OpenSpec.upto shelfFormsSpec)

/-- 'quaysidelaw24.ShelfRecovers', WHERE WHAT IT READS IS OF BULK AT MOST 1048576: true; the input reads as it did. -/
def shelfRecoversUptoRow : OpenClaim := { program := "ytfgjbbpkkbohhaagreat", sum := "8500432cf97c39ef812ec0f3cca0db387d754cab804860185fe18d7380170a85", func := "quayside/quaysidelaw24.ShelfRecovers", spec := "shelfRecovers", inPlace := ["slices.overlaps[quayside/queue.item]"], unfollowed := true, recurses := true, apart := false, narrowed := true }
def ShelfRecoversUptoSaid : Prop := shelfRecoversUptoRow.holds Tryz.pinned (OpenSpec.upto shelfRecoversSpec)

end Rows
end Go.Proofs.YtfgjbbpkkbohhaaGreat
