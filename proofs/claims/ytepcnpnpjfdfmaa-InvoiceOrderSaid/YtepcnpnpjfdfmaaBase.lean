/- Walks of package quaysidebase: Num, Is, Clip, Time. -/
import Derived.Test.YtepcnpnpjfdfmaaProg
import Derived.Test.YtepcnpnpjfdfmaaKit
namespace Go.Proofs.Ytepcnpnpjfdfmaa
open Go.RowKit
abbrev errV (n : Int) : Value := .iface 31 (.int .i64 n)

theorem num_nil (w : World) : Calls Try.prog 17 #[.nilIface] w fun e w' => e = .returned (.int .i64 0) ∧ w = w' := by
  go_enter Try.func17, Try.ntmps17
  go_wp2_with fail
  go_ret
  exact ⟨rfl, rfl⟩
theorem ta_err (k : Int) : ∀ w : World, (Instr.typeAssert (errV k) 27 31 true).run Try.prog w = .ok (.tuple #[.int .i64 k, .bool true]) w := fun _ => by kernel_rfl
theorem num_err (k : Int) (w : World) : Calls Try.prog 17 #[errV k] w fun e w' => e = .returned (.int .i64 k) ∧ w = w' := by
  have ht := ta_err k
  go_enter Try.func17, Try.ntmps17
  go_wp2_with fail
  go_ret
  exact ⟨rfl, rfl⟩
theorem is_err (k : Int) (w : World) (hk : k ≠ 0) : Calls Try.prog 14 #[errV k, .int .i64 k] w fun e w' => e = .returned (.bool true) ∧ w = w' := by
  have hk2 : (k != 0) = true := by rw [bne_iff_ne]; exact hk
  go_enter Try.func14, Try.ntmps14
  go_wp2_with (go_at_call 17; refine (num_err _ _).mono ?_; rintro e w' ⟨rfl, rfl⟩)
  go_ret
  exact ⟨rfl, rfl⟩
theorem is_nil (k : Int) (w : World) (hk : k ≠ 0) : Calls Try.prog 14 #[.nilIface, .int .i64 k] w fun e w' => e = .returned (.bool false) ∧ w = w' := by
  have hk2 : ((0 : Int) == k) = false := by rw [beq_eq_false_iff_ne]; exact fun h => hk h.symm
  go_enter Try.func14, Try.ntmps14
  go_wp2_with (go_at_call 17; refine (num_nil _).mono ?_; rintro e w' ⟨rfl, rfl⟩)
  go_ret
  exact ⟨rfl, rfl⟩

theorem clip_any (n a b : Int) (w : World) : Calls Try.prog 19 #[.int .i64 n, .int .i64 a, .int .i64 b] w fun e w' => e = .returned (.int .i64 (max a (min n b))) ∧ w = w' := by
  go_enter Try.func19, Try.ntmps19
  go_wp2
  all_goals go_ret
  all_goals exact ⟨ret_int (by omega), rfl⟩
end Go.Proofs.Ytepcnpnpjfdfmaa
