/- Walks of package quaysidebase: Num, Is, Clip, Time. -/
import Derived.Test.YtfgjbbpkkbohhaaGreatProg
import Derived.Test.YtfgjbbpkkbohhaaGreatKit
namespace Go.Proofs.YtfgjbbpkkbohhaaGreat
open Go.RowKit
abbrev errV (n : Int) : Value := .iface 81 (.int .i64 n)

theorem num_nil (w : World) : Calls Tryz.prog 36 #[.nilIface] w fun e w' => e = .returned (.int .i64 0) ∧ w = w' := by
  go_enter Tryz.func36, Tryz.ntmps36
  go_wp2_with fail
  go_ret
  exact ⟨rfl, rfl⟩
theorem ta_err (k : Int) : ∀ w : World, (Instr.typeAssert (errV k) 28 81 true).run Tryz.prog w = .ok (.tuple #[.int .i64 k, .bool true]) w := fun _ => by kernel_rfl
theorem num_err (k : Int) (w : World) : Calls Tryz.prog 36 #[errV k] w fun e w' => e = .returned (.int .i64 k) ∧ w = w' := by
  have ht := ta_err k
  go_enter Tryz.func36, Tryz.ntmps36
  go_wp2_with fail
  go_ret
  exact ⟨rfl, rfl⟩
theorem is_err (k : Int) (w : World) (hk : k ≠ 0) : Calls Tryz.prog 37 #[errV k, .int .i64 k] w fun e w' => e = .returned (.bool true) ∧ w = w' := by
  have hk2 : (k != 0) = true := by rw [bne_iff_ne]; exact hk
  go_enter Tryz.func37, Tryz.ntmps37
  go_wp2_with (go_at_call 36; refine (num_err _ _).mono ?_; rintro e w' ⟨rfl, rfl⟩)
  go_ret
  exact ⟨rfl, rfl⟩
theorem is_nil (k : Int) (w : World) (hk : k ≠ 0) : Calls Tryz.prog 37 #[.nilIface, .int .i64 k] w fun e w' => e = .returned (.bool false) ∧ w = w' := by
  have hk2 : ((0 : Int) == k) = false := by rw [beq_eq_false_iff_ne]; exact fun h => hk h.symm
  go_enter Tryz.func37, Tryz.ntmps37
  go_wp2_with (go_at_call 36; refine (num_nil _).mono ?_; rintro e w' ⟨rfl, rfl⟩)
  go_ret
  exact ⟨rfl, rfl⟩

theorem clip_any (n a b : Int) (w : World) : Calls Tryz.prog 28 #[.int .i64 n, .int .i64 a, .int .i64 b] w fun e w' => e = .returned (.int .i64 (max a (min n b))) ∧ w = w' := by
  go_enter Tryz.func28, Tryz.ntmps28
  go_wp2
  all_goals go_ret
  all_goals exact ⟨ret_int (by omega), rfl⟩
end Go.Proofs.YtfgjbbpkkbohhaaGreat
