/- Chapter 20: the reference's Has. -/
import Derived.Test.YtfjpaacanoocmaaPcL
namespace Go.Proofs.Ytfjpaacanoocmaa
open Go.RowKit Go.Deep Go.Sort
theorem rhas_out {w : World} {d t len : Nat} {tag : ByteArray} (i : Int) (hi : i < 0 ∨ (npc len : Int) ≤ i) : Calls Try.prog 27 #[refV tag len d t, .int .i64 i] w fun e w' => e = .returned (.bool false) ∧ Ext w w' := by
  rcases Int.lt_or_le i 0 with h | h
  · have q1 : decide (i < 0) = true := by simp [h]
    have q2 : decide (0 ≤ i) = false := by simp; omega
    clear hi
    go_enter Try.func27, Try.ntmps27
    go_wp2_with fail
    go_ret
    exact ⟨rfl, (Ext.refl w).alloc _⟩
  · have h1 : (npc len : Int) ≤ i := by omega
    have q2 : decide (0 ≤ i) = true := by simp; omega
    have q3 : decide (i < (npc len : Int)) = false := by simp; omega
    clear hi
    go_enter Try.func27, Try.ntmps27
    go_wp2_with fail
    go_ret
    exact ⟨rfl, (Ext.refl w).alloc _⟩
theorem rhas_in {w : World} {d t len : Nat} {tag : ByteArray} {D : Nat → Option ByteArray} (h : RefAt w d t len D) (hl : len ≤ 65536) (i : Nat) (hi : i < npc len) : Calls Try.prog 27 #[refV tag len d t, .int .i64 i] w fun e w' => e = .returned (.bool (D i).isSome) ∧ Ext w w' := by
  have hn : npc len ≤ 256 := by unfold npc; omega
  have hc := h.there.cell hi
  have hc1 : ∀ o, (w.alloc o).cell? ⟨t, i, none⟩ = some (.bool (D i).isSome) := fun o => ((Ext.refl w).alloc o).cell hc
  have q2 : decide ((0 : Int) ≤ (i : Int)) = true := by simp
  have q3 : decide ((i : Int) < (npc len : Int)) = true := by simp; omega
  clear hc h
  go_enter Try.func27, Try.ntmps27
  go_wp2_with fail
  go_ret
  exact ⟨rfl, (Ext.refl w).alloc _⟩
end Go.Proofs.Ytfjpaacanoocmaa
