/- Chapter 20: nil bodies; New refused; Merge of nothing; Held of a body without pieces. -/
import Derived.Test.YtfgjbbpkkbohhaaGreatPcQ
namespace Go.Proofs.YtfgjbbpkkbohhaaGreat
open Go.RowKit Go.Deep Go.Sort

theorem new_bad (tag : ByteArray) (n : Int) (h : n < 0 ∨ 65536 < n) (w : World) : Calls Tryz.prog 48 #[.string tag, .int .i64 n] w fun e w' => e = .returned (.tuple #[.pointer none, errV 1]) ∧ w = w' := by
  rcases Int.lt_or_le n 0 with h0 | h0
  · clear h
    go_enter Tryz.func48, Tryz.ntmps48
    go_wp2_with fail
    go_ret2
    exact ⟨rfl, rfl⟩
  · have h1 : (65536 : Int) < n := by omega
    clear h
    go_enter Tryz.func48, Tryz.ntmps48
    go_wp2_with fail
    go_ret2
    exact ⟨rfl, rfl⟩
theorem put_nil (i : Int) (v : Value) (w : World) : Calls Tryz.prog 52 #[.pointer none, .int .i64 i, v] w fun e w' => e = .returned (errV 3) ∧ w = w' := by
  go_enter Tryz.func52, Tryz.ntmps52
  go_wp2_with fail
  go_ret
  exact ⟨rfl, rfl⟩
theorem has_nil (i : Int) (w : World) : Calls Tryz.prog 107 #[.pointer none, .int .i64 i] w fun e w' => e = .returned (.bool false) ∧ w = w' := by
  go_enter Tryz.func107, Tryz.ntmps107
  go_wp2_with fail
  go_ret
  exact ⟨rfl, rfl⟩
theorem missing_nil (F T : Int) (w : World) : Calls Tryz.prog 57 #[.pointer none, rngV F T] w fun e w' => e = .returned (.slice none 0 0) ∧ Ext w w' := by
  go_enter Tryz.func57, Tryz.ntmps57
  go_wp2_with fail
  go_ret
  exact ⟨rfl, (Ext.refl w).alloc _⟩
theorem read_nil (F T : Int) (w : World) : Calls Tryz.prog 74 #[.pointer none, rngV F T] w fun e w' => e = .returned (.tuple #[.slice none 0 0, errV 3]) ∧ Ext w w' := by
  go_enter Tryz.func74, Tryz.ntmps74
  go_wp2_with fail
  go_returns
  exact ⟨rfl, (Ext.refl w).alloc _⟩
theorem whole_nil (w : World) : Calls Tryz.prog 75 #[.pointer none] w fun e w' => e = .returned (.bool false) ∧ w = w' := by
  go_enter Tryz.func75, Tryz.ntmps75
  go_wp2_with fail
  go_ret
  exact ⟨rfl, rfl⟩
theorem held_nil (w : World) : Calls Tryz.prog 90 #[.pointer none] w fun e w' => e = .returned (.slice none 0 0) ∧ w = w' := by
  go_enter Tryz.func90, Tryz.ntmps90
  go_wp2_with fail
  go_ret
  exact ⟨rfl, rfl⟩
set_option maxRecDepth 100000 in
theorem clone_nil (w : World) : Calls Tryz.prog 167 #[.slice none 0 0] w fun e w' => e = .returned (.slice none 0 0) ∧ w = w' := by
  have hq : ∀ W, (binOp .eql 174 (.slice none 0 0) (.slice none 0 0)).run Tryz.prog W = .ok (.bool true) W := fun _ => by kernel_rfl
  go_enter Tryz.func167, Tryz.ntmps167
  go_wp2_with fail
  go_ret
  exact ⟨rfl, rfl⟩
set_option maxRecDepth 100000 in
theorem len64_zero (w : World) : Calls Tryz.prog 156 #[.int .u64 0] w fun e w' => e = .returned (.int .i64 0) ∧ w = w' := by
  go_enter Tryz.func156, Tryz.ntmps156
  go_wp2_with fail
  go_ret
  exact ⟨ret_int (by kernel_rfl), rfl⟩
set_option maxRecDepth 100000 in
theorem len_zero (w : World) : Calls Tryz.prog 111 #[.int .u64 0] w fun e w' => e = .returned (.int .i64 0) ∧ w = w' := by
  go_enter Tryz.func111, Tryz.ntmps111
  go_wp2_with (go_at_call 156; refine (len64_zero _).mono ?_; rintro e w' ⟨rfl, rfl⟩)
  go_ret
  exact ⟨rfl, rfl⟩
set_option maxRecDepth 100000 in
theorem insert_nil (fn : Value) (w : World) : Calls Tryz.prog 194 #[.slice none 0 0, .int .i64 0, .int .i64 0, fn] w fun e w' => e = .returned (.tuple #[]) ∧ w = w' := by
  go_enter Tryz.func194, Tryz.ntmps194
  go_wp2_with fail
  refine wp_loop_rounds 1 ?_
  rw [rounds_succ]
  go_wp2_with fail
  go_returns
  exact ⟨rfl, rfl⟩
set_option maxRecDepth 100000 in
theorem pdq_nil (k : Int) (fn : Value) (w : World) : Calls Tryz.prog 187 #[.slice none 0 0, .int .i64 0, .int .i64 0, .int .i64 k, fn] w fun e w' => e = .returned (.tuple #[]) ∧ w = w' := by
  go_enter Tryz.func187, Tryz.ntmps187
  go_wp2_with fail
  refine wp_loop_rounds 1 ?_
  rw [rounds_succ]
  go_wp2_with (go_at_call 194; refine (insert_nil _ _).mono ?_; rintro e w' ⟨rfl, rfl⟩)
  go_returns
  exact ⟨rfl, rfl⟩
theorem sort_nil (fn : Value) (w : World) : Calls Tryz.prog 168 #[.slice none 0 0, fn] w fun e w' => e = .returned (.tuple #[]) ∧ w = w' := by
  go_enter Tryz.func168, Tryz.ntmps168
  go_wp2_with (first | (go_at_call 111; refine (len_zero _).mono ?_; rintro e w' ⟨rfl, rfl⟩) | (go_at_call 187; refine (pdq_nil _ _ _).mono ?_; rintro e w' ⟨rfl, rfl⟩))
  go_returns
  exact ⟨rfl, rfl⟩
set_option maxRecDepth 100000 in
theorem merge_nil (w : World) : Calls Tryz.prog 132 #[.slice none 0 0] w fun e w' => e = .returned (.slice none 0 0) ∧ Ext w w' := by
  go_enter Tryz.func132, Tryz.ntmps132
  go_wp2_with (first | (go_at_call 167; refine (clone_nil _).mono ?_; rintro e w' ⟨rfl, rfl⟩) | (go_at_call 168; refine (sort_nil _ _).mono ?_; rintro e w' ⟨rfl, rfl⟩))
  refine wp_loop_rounds 1 ?_
  rw [rounds_succ]
  go_wp2_with fail
  go_ret
  exact ⟨rfl, Ext.refl w⟩
set_option maxRecDepth 100000 in
theorem held_none {w : World} {B b l len : Nat} {A : Nat → Prop} {tag : ByteArray} (h : BodyAt w B A b l tag len fun _ => none) (hl : len ≤ 65536) : Calls Tryz.prog 90 #[.pointer (some ⟨b, 0, none⟩)] w fun e w' => e = .returned (.slice none 0 0) ∧ Ext w w' := by
  have hn : npc len ≤ 256 := by unfold npc; omega
  have c2 := h.c2
  obtain ⟨f, hf, hp⟩ := h.row
  go_enter Tryz.func90, Tryz.ntmps90
  go_wp2_with fail
  go_loopw [3, 13] (fun v i wr => ∃ k : Nat, k ≤ npc len ∧ i = .int .i64 k ∧ v = .slice none 0 0 ∧ wr = w) (fun _ i _ => npc len - (intOf i).toNat)
  case atStart => exact ⟨0, by omega, rfl, rfl, rfl⟩
  case round =>
    obtain ⟨k, hk, rfl, rfl, rfl⟩ := hrel
    by_cases hlt : k < npc len
    · have hki : (k : Int) < (npc len : Int) := by omega
      have hc := hf.cell hlt
      rw [show f k = .slice none 0 0 from hp k hlt] at hc
      clear hp
      go_wp2_with fail
      go_roundw
      case rel => exact ⟨k + 1, by omega, by go_num, rfl, by first | rfl | trivial⟩
      case measure => simp [intOf]; omega
    · obtain rfl : k = npc len := by omega
      clear hp
      go_wp2_with (go_at_call 132; refine (merge_nil _).mono ?_; rintro e w' ⟨rfl, hx⟩)
      go_ret
      exact ⟨rfl, hx⟩
theorem is_any (k : Int) (n : Int) (w : World) (hk : k ≠ n) : Calls Tryz.prog 37 #[errV k, .int .i64 n] w fun e w' => e = .returned (.bool false) ∧ w = w' := by
  have hk2 : (k == n) = false := by rw [beq_eq_false_iff_ne]; exact hk
  go_enter Tryz.func37, Tryz.ntmps37
  go_wp2_with (go_at_call 36; refine (num_err _ _).mono ?_; rintro e w' ⟨rfl, rfl⟩)
  go_ret
  exact ⟨rfl, rfl⟩
end Go.Proofs.YtfgjbbpkkbohhaaGreat
