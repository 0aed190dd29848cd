/- Chapter 20: the small functions: ref09.Piece, piece of a text, Text. -/
import Derived.Test.YtfgjbbpkkbohhaaGreatProg
import Derived.Test.YtfgjbbpkkbohhaaGreatKit
import Derived.Test.YtfgjbbpkkbohhaaGreatBase
import Derived.Test.YtfgjbbpkkbohhaaGreatRow
import Derived.Handy
namespace Go.Proofs.YtfgjbbpkkbohhaaGreat
open Go.RowKit

/-- the number of pieces of a body of len bytes; where a piece ends -/
def npc (len : Nat) : Nat := (len + 255) / 256
def pto (i len : Nat) : Nat := min ((i + 1) * 256) len
abbrev rngV (a b : Int) : Value := .agg #[.int .i64 a, .int .i64 b]
theorem ret_rng {a b c d : Int} {v : Value} (h : a = c) (k : b = d) : Ending.returned (.tuple #[rngV a b, v]) = .returned (.tuple #[rngV c d, v]) := by rw [h, k]
set_option maxRecDepth 100000 in
theorem piece9_in (i len : Nat) (hl : len ≤ 65536) (hi : i * 256 < len) (w : World) :
    Calls Tryz.prog 53 #[.int .i64 i, .int .i64 len] w fun e w' => e = .returned (.tuple #[rngV (i * 256 : Nat) (pto i len : Nat), .bool true]) ∧ Ext w w' := by
  have a1 : ¬ ((65536 : Int) < len) := by omega
  have a2 : ¬ ((i : Int) < 0) := by omega
  have a3 : ¬ ((len : Int) ≤ i) := by omega
  have a4 : ¬ ((len : Int) ≤ (i : Int) * 256) := by omega
  have a5 : ¬ ((len : Int) < 0) := by omega
  go_enter Tryz.func53, Tryz.ntmps53
  go_wp2_with fail
  all_goals go_returns
  all_goals exact ⟨ret_rng (by omega) (by unfold pto; omega), (Ext.refl w).alloc _⟩
set_option maxRecDepth 100000 in
theorem piece9_out (i len : Nat) (hl : len ≤ 65536) (hi : len ≤ i * 256) (h1 : i ≤ 9223372036854775807) (w : World) :
    Calls Tryz.prog 53 #[.int .i64 i, .int .i64 len] w fun e w' => e = .returned (.tuple #[rngV 0 0, .bool false]) ∧ Ext w w' := by
  have a1 : ¬ ((65536 : Int) < len) := by omega
  have a2 : ¬ ((i : Int) < 0) := by omega
  have a5 : ¬ ((len : Int) < 0) := by omega
  rcases Nat.lt_or_ge i len with h | h
  · have a3 : ¬ ((len : Int) ≤ i) := by omega
    have a4 : ((len : Int) ≤ (i : Int) * 256) := by omega
    go_enter Tryz.func53, Tryz.ntmps53
    go_wp2_with fail
    all_goals go_returns
    all_goals exact ⟨rfl, (Ext.refl w).alloc _⟩
  · have a3 : ((len : Int) ≤ i) := by omega
    go_enter Tryz.func53, Tryz.ntmps53
    go_wp2_with fail
    all_goals go_returns
    all_goals exact ⟨rfl, (Ext.refl w).alloc _⟩

/-- the bytes of piece i of a text -/
def pcS (t : ByteArray) (i : Nat) : ByteArray := t.extract (i * 256) (pto i t.size)
theorem pcS_size (t : ByteArray) (i : Nat) (hi : i * 256 < t.size) : (pcS t i).size = pto i t.size - i * 256 := by
  unfold pcS pto
  rw [ByteArray.size_extract]
  omega
end Go.Proofs.YtfgjbbpkkbohhaaGreat
