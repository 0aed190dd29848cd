/- append of a slice of another slice type (a named one). -/
import Derived.Test.YtfgjbbpkkbohhaaGreatApp
namespace Go.Proofs.YtfgjbbpkkbohhaaGreat
open Go.RowKit
theorem append_types {P : Program} {t t2 e e2 : TypeId} (h1 : P.underlying t = some (.slice e)) (h2 : P.underlying t2 = some (.slice e2)) {i : TypeInfo} (hi : P.info? e = some i) (ty : TypeId) (v x : Value) (w : World) :
    (Builtin.append_ #[t, t2] ty #[v, x]).run P w = (Builtin.append_ #[t, t] ty #[v, x]).run P w := by
  cases v <;> simp [Builtin.append_, Sem.run_bind, run_underlying h1, run_underlying h2, sizeOf, typeInfo, hi]
section
variable {P : Program} (w : World)
theorem wpList_append_any2 {ops : Array Oper} {rest : List Oper} {o : Oper} {a : Act} {Q : Exit → Act → World → Prop} (hgd : o.guard = none) (s x : Operand) (t t2 e2 : TypeId) (h2 : P.underlying t2 = some (.slice e2))
    (ho : o.op = .call { callee := .builtin .append, args := #[s, x], argTypes := #[t, t2] })
    (base : Nat) (e : TypeId) (i : TypeInfo) (z : Value) (size bytes : Nat) (ht : P.underlying t = some (.slice e)) (hi : P.info? e = some i) (hz : i.zero = some z)
    (hsize : i.size = size) (hby : i.bytes = bytes) (hzs : z.cells.size = size) (hsz : 0 < size)
    (v : Value) (n : Nat) (xs : List Value) (hs : a.eval s = v) (hown : w.ownsRow base e size v n xs)
    (B : Nat) (A : Option Addr) (m c : Nat) (news : List Value) (hx : a.eval x = .slice A m c) (hr : Reads w B size A m news) (h1 : ∀ u ∈ news, u.oneCell' = true)
    (h63 : n + m ≤ maxLen) (hbytes : (n + m) * bytes ≤ 140737488355328) (hbase : base ≤ w.heap.size)
    (h : ∀ v' w', w'.ownsRow base e size v' (n + m) (xs ++ news) → w.grownBy w' v.ownBlock → (v'.ownBlock = v.ownBlock ∨ v'.ownBlock = some w.heap.size) → wpList P ops Q rest (a.put o.dst v') w') : wpList P ops Q (o :: rest) a w := by
  refine wpList_plain hgd fun _ hK => ?_
  obtain ⟨v', w', hrun, h2', h3, h4⟩ := run_append_any (P := P) w base t o.type e i z size bytes ht hi hz hsize hby hzs hsz v n xs hown B A m c news hr h1 h63 hbytes hbase
  rw [← append_types ht h2 hi] at hrun
  unfold Oper.wp execOp
  simp only [ho, resolve, invoke, builtin, Sem.run_bind, Sem.run_pure, Result.andThen_ok, List.map_toArray, List.map_cons, List.map_nil, hs, hx, hrun]
  exact hK _ _ (h v' w' h2' h3 h4)
end
end Go.Proofs.YtfgjbbpkkbohhaaGreat
