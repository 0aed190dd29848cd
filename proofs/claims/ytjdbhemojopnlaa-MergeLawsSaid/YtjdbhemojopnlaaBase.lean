/- Walks of package quaysidebase: Num, Is, Clip, Time. -/
import Derived.Test.YtjdbhemojopnlaaProg
import Derived.Test.YtjdbhemojopnlaaKit
namespace Go.Proofs.Ytjdbhemojopnlaa
open Go.RowKit
abbrev errV (n : Int) : Value := .iface 52 (.int .i64 n)

theorem num_nil (w : World) : Calls Try.prog 28 #[.nilIface] w fun e w' => e = .returned (.int .i64 0) ∧ w = w' := by
  go_enter Try.func28, Try.ntmps28
  go_wp2_with fail
  go_ret
  exact ⟨rfl, rfl⟩
theorem ta_err (k : Int) : ∀ w : World, (Instr.typeAssert (errV k) 43 52 true).run Try.prog w = .ok (.tuple #[.int .i64 k, .bool true]) w := fun _ => by kernel_rfl
theorem num_err (k : Int) (w : World) : Calls Try.prog 28 #[errV k] w fun e w' => e = .returned (.int .i64 k) ∧ w = w' := by
  have ht := ta_err k
  go_enter Try.func28, Try.ntmps28
  go_wp2_with fail
  go_ret
  exact ⟨rfl, rfl⟩
theorem is_err (k : Int) (w : World) (hk : k ≠ 0) : Calls Try.prog 23 #[errV k, .int .i64 k] w fun e w' => e = .returned (.bool true) ∧ w = w' := by
  have hk2 : (k != 0) = true := by rw [bne_iff_ne]; exact hk
  go_enter Try.func23, Try.ntmps23
  go_wp2_with (go_at_call 28; refine (num_err _ _).mono ?_; rintro e w' ⟨rfl, rfl⟩)
  go_ret
  exact ⟨rfl, rfl⟩
theorem is_nil (k : Int) (w : World) (hk : k ≠ 0) : Calls Try.prog 23 #[.nilIface, .int .i64 k] w fun e w' => e = .returned (.bool false) ∧ w = w' := by
  have hk2 : ((0 : Int) == k) = false := by rw [beq_eq_false_iff_ne]; exact fun h => hk h.symm
  go_enter Try.func23, Try.ntmps23
  go_wp2_with (go_at_call 28; refine (num_nil _).mono ?_; rintro e w' ⟨rfl, rfl⟩)
  go_ret
  exact ⟨rfl, rfl⟩

end Go.Proofs.Ytjdbhemojopnlaa
