/-
  No cell of these rows narrows 'for every input' (looked for: loops, veiled, ifaces, maps, wideKeys, modest, calm, conditions, laid).
  DERIVED. THE GIVEN ROWS OF THIS SEAT. 5 by the template 'for every input the law returns true; each argument reads behind the call as it read before'; 0 by the template 'total and deterministic' (their statements: YtepigkjgjlibcaaTotals.lean).
  GIVEN WITH THE SEED: the statements are not yours to turn. If you find one false, say at which input.
  Laid BY PROGRAM, IN A SANDBOX (cutbox-rows.mjs): the forced cells as the released guide's own fill.sh prints them over the translation 6173668834fbadf9… (all of the seat's roots in one cut). By AI agents, Wed Nov 11 2026. No macro, syntax, notation, axiom, sorry.
-/
import Derived.Test.YtepigkjgjlibcaaChecked
import GoSem.Claim
import GoSem.ClaimJoined
import GoSem.ClaimMapViews
import Derived.JoinedTies
import Derived.KernelRfl
namespace Go.Proofs.Ytepigkjgjlibcaa
/- THE CELL 'sum', in the pinned program and in every row, IS THE sha256 OF THE DUMP (.gsa) THAT YtepigkjgjlibcaaProg.lean LOADS. Nothing in Lean hashes anything: it is a label: what it is worth is what the hold of that sum in a sandbox is worth. -/
noncomputable def Try.pinned : Pinned := { name := "ytepigkjgjlibcaa", sum := "6173668834fbadf98f4c42983ccc71bc7c57d16eb40c760a58aa3e36b95f6c84", checked := Try.checked }
namespace Rows
def none {H : Type} : Left H := { results := [], args := [] }

/-- 'quaysidelaw23.FlashlogMaps': WHATEVER THE INPUT: true; the input reads as it did. -/
def flashlogMapsSpec : ChangeSpec := { name := "flashlogMaps", fn := fun _ => fun
  | [d1, d2] => { results := [.lit (.bool true)], args := [d1, d2] }
  | _ => none }
def flashlogMapsRow : OpenClaim := { program := "ytepigkjgjlibcaa", sum := "6173668834fbadf98f4c42983ccc71bc7c57d16eb40c760a58aa3e36b95f6c84", func := "quayside/quaysidelaw23.FlashlogMaps", spec := "flashlogMaps", unfollowed := true, recurses := true, apart := false }
def FlashlogMapsSaid : Prop := flashlogMapsRow.holds Try.pinned (OpenSpec.ofChange flashlogMapsSpec)

/-- ITS FALSE NEIGHBOUR: 'it returns false'. Refute it at one input. -/
def flashlogMapsWrong : ChangeSpec := { name := "flashlogMaps", fn := fun _ => fun
  | [d1, d2] => { results := [.lit (.bool false)], args := [d1, d2] }
  | _ => none }
def FlashlogMapsWrongFalsely : Prop := flashlogMapsRow.holds Try.pinned (OpenSpec.ofChange flashlogMapsWrong)

/-- 'quaysidelaw23.FlashlogRoom': WHATEVER THE INPUT: true; the input reads as it did. -/
def flashlogRoomSpec : ChangeSpec := { name := "flashlogRoom", fn := fun _ => fun
  | [d1, d2, d3] => { results := [.lit (.bool true)], args := [d1, d2, d3] }
  | _ => none }
def flashlogRoomRow : OpenClaim := { program := "ytepigkjgjlibcaa", sum := "6173668834fbadf98f4c42983ccc71bc7c57d16eb40c760a58aa3e36b95f6c84", func := "quayside/quaysidelaw23.FlashlogRoom", spec := "flashlogRoom", unfollowed := true, recurses := true, apart := false }
def FlashlogRoomSaid : Prop := flashlogRoomRow.holds Try.pinned (OpenSpec.ofChange flashlogRoomSpec)

/-- ITS FALSE NEIGHBOUR: 'it returns false'. Refute it at one input. -/
def flashlogRoomWrong : ChangeSpec := { name := "flashlogRoom", fn := fun _ => fun
  | [d1, d2, d3] => { results := [.lit (.bool false)], args := [d1, d2, d3] }
  | _ => none }
def FlashlogRoomWrongFalsely : Prop := flashlogRoomRow.holds Try.pinned (OpenSpec.ofChange flashlogRoomWrong)

/-- 'quaysidelaw23.FlashlogOpens': WHATEVER THE INPUT: true; the input reads as it did. -/
def flashlogOpensSpec : ChangeSpec := { name := "flashlogOpens", fn := fun _ => fun
  | [d1, d2, d3] => { results := [.lit (.bool true)], args := [d1, d2, d3] }
  | _ => none }
def flashlogOpensRow : OpenClaim := { program := "ytepigkjgjlibcaa", sum := "6173668834fbadf98f4c42983ccc71bc7c57d16eb40c760a58aa3e36b95f6c84", func := "quayside/quaysidelaw23.FlashlogOpens", spec := "flashlogOpens", unfollowed := true, recurses := true, apart := false }
def FlashlogOpensSaid : Prop := flashlogOpensRow.holds Try.pinned (OpenSpec.ofChange flashlogOpensSpec)

/-- ITS FALSE NEIGHBOUR: 'it returns false'. Refute it at one input. -/
def flashlogOpensWrong : ChangeSpec := { name := "flashlogOpens", fn := fun _ => fun
  | [d1, d2, d3] => { results := [.lit (.bool false)], args := [d1, d2, d3] }
  | _ => none }
def FlashlogOpensWrongFalsely : Prop := flashlogOpensRow.holds Try.pinned (OpenSpec.ofChange flashlogOpensWrong)

/-- 'quaysidelaw23.FlashlogSynced': WHATEVER THE INPUT: true; the input reads as it did. -/
def flashlogSyncedSpec : ChangeSpec := { name := "flashlogSynced", fn := fun _ => fun
  | [d1, d2, d3] => { results := [.lit (.bool true)], args := [d1, d2, d3] }
  | _ => none }
def flashlogSyncedRow : OpenClaim := { program := "ytepigkjgjlibcaa", sum := "6173668834fbadf98f4c42983ccc71bc7c57d16eb40c760a58aa3e36b95f6c84", func := "quayside/quaysidelaw23.FlashlogSynced", spec := "flashlogSynced", unfollowed := true, recurses := true, apart := false }
def FlashlogSyncedSaid : Prop := flashlogSyncedRow.holds Try.pinned (OpenSpec.ofChange flashlogSyncedSpec)

/-- ITS FALSE NEIGHBOUR: 'it returns false'. Refute it at one input. -/
def flashlogSyncedWrong : ChangeSpec := { name := "flashlogSynced", fn := fun _ => fun
  | [d1, d2, d3] => { results := [.lit (.bool false)], args := [d1, d2, d3] }
  | _ => none }
def FlashlogSyncedWrongFalsely : Prop := flashlogSyncedRow.holds Try.pinned (OpenSpec.ofChange flashlogSyncedWrong)

/-- 'quaysidelaw23.FlashlogCrashes': WHATEVER THE INPUT: true; the input reads as it did. -/
def flashlogCrashesSpec : ChangeSpec := { name := "flashlogCrashes", fn := fun _ => fun
  | [d1, d2] => { results := [.lit (.bool true)], args := [d1, d2] }
  | _ => none }
def flashlogCrashesRow : OpenClaim := { program := "ytepigkjgjlibcaa", sum := "6173668834fbadf98f4c42983ccc71bc7c57d16eb40c760a58aa3e36b95f6c84", func := "quayside/quaysidelaw23.FlashlogCrashes", spec := "flashlogCrashes", unfollowed := true, recurses := true, apart := false }
def FlashlogCrashesSaid : Prop := flashlogCrashesRow.holds Try.pinned (OpenSpec.ofChange flashlogCrashesSpec)

/-- ITS FALSE NEIGHBOUR: 'it returns false'. Refute it at one input. -/
def flashlogCrashesWrong : ChangeSpec := { name := "flashlogCrashes", fn := fun _ => fun
  | [d1, d2] => { results := [.lit (.bool false)], args := [d1, d2] }
  | _ => none }
def FlashlogCrashesWrongFalsely : Prop := flashlogCrashesRow.holds Try.pinned (OpenSpec.ofChange flashlogCrashesWrong)

/- THE SECOND FORM. 'bulk': how many values and letters a reading holds, each counted each time it is reached (what is shared counts as often as it is met; a slice's spare places count too). A statement '..UptoSaid' is the law's where the arguments, and the package variables that the reading takes, are together of bulk at most 1048576: NARROWER than '..Said'. Prove '..Said' where nothing that the law and all that it calls make is longer than what came in: it says more and counts as full. Else prove '..UptoSaid'. A law counts once. -/
mutual
def uptoBulk {H : Type} : DataW H → Nat
  | .lit (.string bytes) => bytes.length + 1
  | .lit _ => 1
  | .nil => 1
  | .ptr d => uptoBulk d + 1
  | .slice elems spare => uptoBulkAll elems + uptoBulkAll spare + 1
  | .agg parts => uptoBulkAll parts + 1
  | .iface _ d => uptoBulk d + 1
  | .map entries => uptoBulkEntries entries + 1
  | .held _ => 1
def uptoBulkAll {H : Type} : List (DataW H) → Nat
  | [] => 0
  | d :: r => uptoBulk d + uptoBulkAll r
def uptoBulkEntries {H : Type} : List (Lit × DataW H) → Nat
  | [] => 0
  | x :: r => uptoBulkEntry x + uptoBulkEntries r
def uptoBulkEntry {H : Type} : Lit × DataW H → Nat
  | (.string bytes, d) => bytes.length + uptoBulk d + 1
  | (_, d) => uptoBulk d + 1
 end
def uptoSmall : (H : Type) → List (DataW H) → Bool := fun _ ds => decide (uptoBulkAll ds ≤ 1048576)
def OpenSpec.upto (s : _root_.Go.ChangeSpec) : _root_.Go.OpenSpec := { _root_.Go.OpenSpec.ofChange s with cond := some uptoSmall }

/-- 'quaysidelaw23.FlashlogMaps', WHERE WHAT IT READS IS OF BULK AT MOST 1048576: true; the input reads as it did. -/
def flashlogMapsUptoRow : OpenClaim := { program := "ytepigkjgjlibcaa", sum := "6173668834fbadf98f4c42983ccc71bc7c57d16eb40c760a58aa3e36b95f6c84", func := "quayside/quaysidelaw23.FlashlogMaps", spec := "flashlogMaps", unfollowed := true, recurses := true, apart := false, narrowed := true }
def FlashlogMapsUptoSaid : Prop := flashlogMapsUptoRow.holds Try.pinned (OpenSpec.upto flashlogMapsSpec)

/-- 'quaysidelaw23.FlashlogRoom', WHERE WHAT IT READS IS OF BULK AT MOST 1048576: true; the input reads as it did. -/
def flashlogRoomUptoRow : OpenClaim := { program := "ytepigkjgjlibcaa", sum := "6173668834fbadf98f4c42983ccc71bc7c57d16eb40c760a58aa3e36b95f6c84", func := "quayside/quaysidelaw23.FlashlogRoom", spec := "flashlogRoom", unfollowed := true, recurses := true, apart := false, narrowed := true }
def FlashlogRoomUptoSaid : Prop := flashlogRoomUptoRow.holds Try.pinned (OpenSpec.upto flashlogRoomSpec)

/-- 'quaysidelaw23.FlashlogOpens', WHERE WHAT IT READS IS OF BULK AT MOST 1048576: true; the input reads as it did. -/
def flashlogOpensUptoRow : OpenClaim := { program := "ytepigkjgjlibcaa", sum := "6173668834fbadf98f4c42983ccc71bc7c57d16eb40c760a58aa3e36b95f6c84", func := "quayside/quaysidelaw23.FlashlogOpens", spec := "flashlogOpens", unfollowed := true, recurses := true, apart := false, narrowed := true }
def FlashlogOpensUptoSaid : Prop := flashlogOpensUptoRow.holds Try.pinned (OpenSpec.upto flashlogOpensSpec)

/-- 'quaysidelaw23.FlashlogSynced', WHERE WHAT IT READS IS OF BULK AT MOST 1048576: true; the input reads as it did. -/
def flashlogSyncedUptoRow : OpenClaim := { program := "ytepigkjgjlibcaa", sum := "6173668834fbadf98f4c42983ccc71bc7c57d16eb40c760a58aa3e36b95f6c84", func := "quayside/quaysidelaw23.FlashlogSynced", spec := "flashlogSynced", unfollowed := true, recurses := true, apart := false, narrowed := true }
def FlashlogSyncedUptoSaid : Prop := flashlogSyncedUptoRow.holds Try.pinned (OpenSpec.upto flashlogSyncedSpec)

/-- 'quaysidelaw23.FlashlogCrashes', WHERE WHAT IT READS IS OF BULK AT MOST 1048576: true; the input reads as it did. -/
def flashlogCrashesUptoRow : OpenClaim := { program := "ytepigkjgjlibcaa", sum := "6173668834fbadf98f4c42983ccc71bc7c57d16eb40c760a58aa3e36b95f6c84", func := "quayside/quaysidelaw23.FlashlogCrashes", spec := "flashlogCrashes", unfollowed := true, recurses := true, apart := false, narrowed := true }
def FlashlogCrashesUptoSaid : Prop := flashlogCrashesUptoRow.holds Try.pinned (OpenSpec.upto flashlogCrashesSpec)

end Rows
end Go.Proofs.Ytepigkjgjlibcaa
