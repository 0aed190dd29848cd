/- Chapter 20: Put of other bytes; Whole. -/
import Derived.Test.YtfgjbbpkkbohhaaGreatPcC
import Derived.LoopTactic
import Derived.Sort.WalkA
namespace Go.Proofs.YtfgjbbpkkbohhaaGreat
open Go.RowKit Go.Deep Go.Sort

set_option maxRecDepth 100000 in
/-- a Put of a piece that is there with other bytes -/
theorem put_mixed {w : World} {B b l len : Nat} {A : Nat → Prop} {tag : ByteArray} {D : Nat → Option ByteArray} (h : BodyAt w B A b l tag len D) (hl : len ≤ 65536) (i : Nat) (hi : i < npc len) (g cap : Nat) (s t : ByteArray)
    (hs : BytesAt w g s) (hz : s.size = pto i len - i * 256) (hD : D i = some t) (hne : ¬ t = s) :
    Calls Tryz.prog 52 #[.pointer (some ⟨b, 0, none⟩), .int .i64 i, .slice (some ⟨g, 0, none⟩) s.size cap] w fun e w' => e = .returned (errV 20) ∧ w = w' := by
  have hn : npc len ≤ 256 := by unfold npc; omega
  have hi2 : i * 256 < len := by unfold npc at hi; omega
  have c1 := h.c1
  have c2 := h.c2
  obtain ⟨f, hf, hp⟩ := h.row
  have hc := hf.cell hi
  have hpi := hp i hi
  rw [hD] at hpi
  obtain ⟨gt, capt, ht1, -, -, -, -, ht⟩ := hpi
  rw [ht1] at hc
  have hs6 : s.size ≤ 256 := by rw [hz]; unfold pto; omega
  have key : ((len : Int) - (i : Int) * 256 < 256 ∧ (len : Int) - (i : Int) * 256 = (s.size : Int)) ∨ (¬ (len : Int) - (i : Int) * 256 < 256 ∧ (s.size : Int) = 256) := by
    rw [hz]; unfold pto; omega
  clear hz hp ht1
  have q1 : decide ((i : Int) < 0) = false := by simp
  have q2 : decide (npc len ≤ i) = false := by simp; omega
  go_enter Tryz.func52, Tryz.ntmps52
  rcases key with ⟨e1, e2⟩ | ⟨e1, e2⟩
  all_goals go_wp2_with (go_at_call 100; refine (equal_any _ gt g capt cap t s ht hs).mono ?_; rintro e w' ⟨rfl, rfl⟩)
  all_goals go_ret
  all_goals exact ⟨rfl, rfl⟩
set_option maxRecDepth 100000 in
theorem whole_any {w : World} {B b l len : Nat} {A : Nat → Prop} {tag : ByteArray} {D : Nat → Option ByteArray} (h : BodyAt w B A b l tag len D) (hl : len ≤ 65536) :
    Calls Tryz.prog 75 #[.pointer (some ⟨b, 0, none⟩)] w fun e w' => e = .returned (.bool (decide (∀ i, i < npc len → (D i).isSome = true))) ∧ w = w' := by
  have hn : npc len ≤ 256 := by unfold npc; omega
  have c2 := h.c2
  obtain ⟨f, hf, hp⟩ := h.row
  have hq : ∀ W, (binOp .eql 36 (.slice none 0 0) (.slice none 0 0)).run Tryz.prog W = .ok (.bool true) W := fun _ => by kernel_rfl
  have hq2 : ∀ W a n c, (binOp .eql 36 (.slice (some a) n c) (.slice none 0 0)).run Tryz.prog W = .ok (.bool false) W := fun _ _ _ _ => by kernel_rfl
  go_enter Tryz.func75, Tryz.ntmps75
  go_wp2_with fail
  go_loopw [12] (fun i wr => ∃ k : Nat, k ≤ npc len ∧ i = .int .i64 k ∧ wr = w ∧ ∀ j, j < k → (D j).isSome = true) (fun i _ => npc len - (intOf i).toNat)
  case atStart => exact ⟨0, by omega, rfl, rfl, fun j hj => by omega⟩
  case round =>
    obtain ⟨k, hk, rfl, rfl, hall⟩ := hrel
    by_cases hlt : k < npc len
    · have hc := hf.cell hlt
      have hpi := hp k hlt
      have hki : (k : Int) < (npc len : Int) := by omega
      cases hD : D k with
      | none =>
        rw [hD] at hpi
        rw [show f k = .slice none 0 0 from hpi] at hc
        have hres : decide (∀ i, i < npc len → (D i).isSome = true) = false := by
          rw [decide_eq_false_iff_not]
          intro hh
          have := hh k hlt
          rw [hD] at this
          cases this
        clear hpi hp hall hD
        go_wp2_with fail
        go_ret
        exact ⟨ret_bool hres.symm, rfl⟩
      | some s =>
        rw [hD] at hpi
        obtain ⟨gs, caps, e, -⟩ := hpi
        rw [e] at hc
        have hall2 : ∀ j, j < k + 1 → (D j).isSome = true := by
          intro j hj
          by_cases ej : j = k
          · rw [ej, hD]; rfl
          · exact hall j (by omega)
        have HA := Lib.hid hall2
        clear hall hall2 hp hD e
        go_wp2_with fail
        go_roundw
        case rel => exact ⟨k + 1, by omega, by go_num, trivial, HA.out⟩
        case measure => simp [intOf]; omega
    · obtain rfl : k = npc len := by omega
      have hres : decide (∀ i, i < npc len → (D i).isSome = true) = true := by rw [decide_eq_true_eq]; exact hall
      clear hall hp
      go_wp2_with fail
      go_ret
      exact ⟨ret_bool hres.symm, rfl⟩
end Go.Proofs.YtfgjbbpkkbohhaaGreat
