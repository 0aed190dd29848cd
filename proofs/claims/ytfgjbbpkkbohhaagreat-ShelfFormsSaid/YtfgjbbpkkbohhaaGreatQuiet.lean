/- The built-ins max and min of two integers inside a region that draws its order. -/
import Derived.Test.YtfgjbbpkkbohhaaGreatKit
import Derived.Lib.MinMax
namespace Go.Proofs.YtfgjbbpkkbohhaaGreat
open Go.RowKit

section
variable {P : Program} {ops : Array Oper} {rest : List Oper} {o : Oper} {C : World → Prop} {Q : Act → Prop} {a : Act}
theorem wpQuiet_max (hg : o.guard = none) (x y : Operand) (ts : Array TypeId) (ho : o.op = .call { callee := .builtin .max, args := #[x, y], argTypes := ts }) (k l : IntKind) (X Y : Int)
    (hx : a.eval x = .int k X) (hy : a.eval y = .int l Y) (h : wpQuiet P ops C Q rest (a.put o.dst (.int k (max X Y)))) : wpQuiet P ops C Q (o :: rest) a := by
  have hw : Region.wanted o (yielded ops a.tmps) = true := by simp [Region.wanted, hg]
  refine wpQuiet_step fun K hK => ?_
  rw [if_pos hw]
  refine ⟨_, fun w _ => ?_, hK _ h⟩
  unfold Oper.quietAt execOp
  simp only [ho, resolve, invoke, builtin, Sem.run_bind, Sem.run_pure, Result.andThen_ok, List.map_toArray, List.map_cons, List.map_nil, hx, hy, Lib.run_max_ints]
  exact ⟨rfl, rfl⟩
theorem wpQuiet_min (hg : o.guard = none) (x y : Operand) (ts : Array TypeId) (ho : o.op = .call { callee := .builtin .min, args := #[x, y], argTypes := ts }) (k l : IntKind) (X Y : Int)
    (hx : a.eval x = .int k X) (hy : a.eval y = .int l Y) (h : wpQuiet P ops C Q rest (a.put o.dst (.int k (min X Y)))) : wpQuiet P ops C Q (o :: rest) a := by
  have hw : Region.wanted o (yielded ops a.tmps) = true := by simp [Region.wanted, hg]
  refine wpQuiet_step fun K hK => ?_
  rw [if_pos hw]
  refine ⟨_, fun w _ => ?_, hK _ h⟩
  unfold Oper.quietAt execOp
  simp only [ho, resolve, invoke, builtin, Sem.run_bind, Sem.run_pure, Result.andThen_ok, List.map_toArray, List.map_cons, List.map_nil, hx, hy, Lib.run_min_ints]
  exact ⟨rfl, rfl⟩
end
end Go.Proofs.YtfgjbbpkkbohhaaGreat
