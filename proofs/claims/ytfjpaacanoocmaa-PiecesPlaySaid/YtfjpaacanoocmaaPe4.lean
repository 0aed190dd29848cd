/- Chapter 20: the program's Put refused: no such piece, or a wrong size. -/
import Derived.Test.YtfjpaacanoocmaaPcD
namespace Go.Proofs.Ytfjpaacanoocmaa
open Go.RowKit Go.Deep Go.Sort
set_option maxRecDepth 100000 in
theorem put_range {w : World} {B b l len : Nat} {A : Nat → Prop} {tag : ByteArray} {D : Nat → Option ByteArray} (h : BodyAt w B A b l tag len D) (i : Int) (hi : i < 0 ∨ (npc len : Int) ≤ i) (p : Option Addr) (n cap : Nat) :
    Calls Try.prog 16 #[.pointer (some ⟨b, 0, none⟩), .int .i64 i, .slice p n cap] w fun e w' => e = .returned (errV 1) ∧ Ext w w' := by
  have c1 := h.c1
  have c2 := h.c2
  rcases Int.lt_or_le i 0 with h0 | h0
  · have q1 : decide (i < 0) = true := by simp [h0]
    clear hi
    go_enter Try.func16, Try.ntmps16
    go_wp2_with fail
    go_ret
    exact ⟨rfl, Ext.refl w⟩
  · have h1 : (npc len : Int) ≤ i := by omega
    have q1 : decide (i < 0) = false := by simp; omega
    have q2 : decide ((npc len : Int) ≤ i) = true := by simp [h1]
    clear hi
    go_enter Try.func16, Try.ntmps16
    go_wp2_with fail
    go_ret
    exact ⟨rfl, Ext.refl w⟩
set_option maxRecDepth 100000 in
theorem put_form {w : World} {B b l len : Nat} {A : Nat → Prop} {tag : ByteArray} {D : Nat → Option ByteArray} (h : BodyAt w B A b l tag len D) (hl : len ≤ 65536) (i : Nat) (hi : i < npc len) (p : Option Addr) (n cap : Nat) (_hn0 : n ≤ 1000000) (hz : n ≠ pto i len - i * 256) :
    Calls Try.prog 16 #[.pointer (some ⟨b, 0, none⟩), .int .i64 i, .slice p n cap] w fun e w' => e = .returned (errV 2) ∧ Ext w w' := by
  have hn : npc len ≤ 256 := by unfold npc; omega
  have hi2 : i * 256 < len := by unfold npc at hi; omega
  have c1 := h.c1
  have c2 := h.c2
  obtain ⟨z, hzz⟩ : ∃ z : Nat, z = pto i len - i * 256 := ⟨_, rfl⟩
  have key : ((len : Int) - (i : Int) * 256 < 256 ∧ (len : Int) - (i : Int) * 256 = (z : Int)) ∨ (¬ (len : Int) - (i : Int) * 256 < 256 ∧ (z : Int) = 256) := by
    rw [hzz]; unfold pto; omega
  have q1 : decide ((i : Int) < 0) = false := by simp
  have q2 : decide (npc len ≤ i) = false := by simp; omega
  rw [← hzz] at hz
  clear hzz h
  go_enter Try.func16, Try.ntmps16
  rcases key with ⟨e1, e2⟩ | ⟨e1, e2⟩
  · have q3 : ((n : Int) != (z : Int)) = true := by rw [bne_iff_ne]; omega
    clear hz
    go_wp2_with fail
    go_ret
    exact ⟨rfl, Ext.refl w⟩
  · have q3 : ((n : Int) != 256) = true := by rw [bne_iff_ne]; omega
    clear hz e2
    go_wp2_with fail
    go_ret
    exact ⟨rfl, Ext.refl w⟩
end Go.Proofs.Ytfjpaacanoocmaa
