/- Opening a tariff and small arrays that come in. -/
import Derived.Test.YtepcnpnpjfdfmaaInvB
import Derived.Test.YtepcnpnpjfdfmaaLift
import Derived.Lib.SmallJoins
namespace Go.Proofs.Ytepcnpnpjfdfmaa
open Go.RowKit Go.ChangeShapes Go.WideShapes

def intOfV (v : Value) : Int := match v with | .int _ n => n | _ => 0
set_option maxRecDepth 100000 in
theorem open_tar {H : Type} {enc : TypeId × Value → H} {w : World} {base b0 : Nat} {r : Reach} {held : Bool} {v : Value} {d : DataW H} {p : List MemPlace}
    (hv : Value.okWide Try.prog w r b0 24 v) (h : DataW.Trod enc Try.prog w base (fun _ => true) held 24 v d p) :
    ∃ (q : Option Addr) (n cap : Nat) (unit hit least : Int) (up pr : Nat → Int), v = tarV q n cap unit hit least ∧ Tar w q n cap up pr := by
  obtain ⟨v0, v1, v2, v3, y0, y1, y2, y3, m, rfl, -, -, h0, h1, h2, h3⟩ := Go.Joins.open_agg4 Try.underlying24 (by kernel_rfl) (by kernel_rfl) hv h
  obtain ⟨z1, e1, -, -⟩ := DataW.trod_int Try.underlying3 h1
  obtain ⟨z2, e2, -, -⟩ := DataW.trod_int Try.underlying3 h2
  obtain ⟨z3, e3, -, -⟩ := DataW.trod_int Try.underlying3 h3
  obtain rfl := List.singleton_inj.1 e1
  obtain rfl := List.singleton_inj.1 e2
  obtain rfl := List.singleton_inj.1 e3
  rcases Go.Deep.open_slice_pairs Try.underlying22 Try.underlying42 (by kernel_rfl) rfl rfl (by kernel_rfl) (by kernel_rfl) h0 with ⟨e0, -⟩ | ⟨a, len, cap, m', k, V0, V1, D0, D1, P0, P1, e0, -, hle, hlim, hm, -, hx⟩
  · obtain rfl := List.singleton_inj.1 e0
    exact ⟨none, 0, 0, z1, z2, z3, fun _ => 0, fun _ => 0, rfl, ⟨Nat.le_refl _, by decide, fun i hi => by omega⟩⟩
  · obtain rfl := List.singleton_inj.1 e0
    refine ⟨some a, len, cap, z1, z2, z3, fun i => intOfV (V0 i), fun i => intOfV (V1 i), rfl, ⟨hle, by unfold maxLen at hlim; omega, fun i hi => ⟨a, rfl, ?_⟩⟩⟩
    have hmm : m' = cap := by simpa using hm
    obtain ⟨c0, c1, t0, t1⟩ := hx i (by omega)
    obtain ⟨n0, f0, -, -⟩ := DataW.trod_int Try.underlying3 t0
    obtain ⟨n1, f1, -, -⟩ := DataW.trod_int Try.underlying3 t1
    have g0 := List.singleton_inj.1 f0
    have g1 := List.singleton_inj.1 f1
    rw [g0] at c0
    rw [g1] at c1
    refine ⟨by rw [c0, g0]; rfl, ?_⟩
    rw [g1]
    show _ = some (Value.int .i64 n1)
    rw [← c1]
    cases i with
    | zero => rw [Nat.zero_mul, Addr.add_zero', Addr.add_succ']
    | succ j => rw [show (j + 1) * 2 = (2 * j + 1) + 1 from by omega, Addr.add_succ', show 2 * j + 1 + 1 + 1 = (2 * j + 2) + 1 from by omega, Addr.add_succ']; rfl

set_option maxRecDepth 100000 in
theorem tar_cells {H : Type} {enc : TypeId × Value → H} {w : World} {base : Nat} {held : Bool} {c0 c1 c2 c3 : Value} {m : Nat} {y : DataW H × List MemPlace}
    (h : DataW.trod enc Try.prog w base (fun _ => true) held m 24 [c0, c1, c2, c3] = some y) :
    ∃ (q : Option Addr) (n cap : Nat) (unit hit least : Int) (up pr : Nat → Int), (c0 = .slice q n cap ∧ c1 = .int .i64 unit ∧ c2 = .int .i64 hit ∧ c3 = .int .i64 least) ∧ Tar w q n cap up pr := by
  obtain ⟨y0, y1, y2, y3, m', -, -, h0, h1, h2, h3⟩ := Go.Joins.trod_struct4 Try.underlying24 h
  obtain ⟨z1, e1, -, -⟩ := DataW.trod_int (cs := [c1]) Try.underlying3 h1
  obtain ⟨z2, e2, -, -⟩ := DataW.trod_int (cs := [c2]) Try.underlying3 h2
  obtain ⟨z3, e3, -, -⟩ := DataW.trod_int (cs := [c3]) Try.underlying3 h3
  obtain rfl := List.singleton_inj.1 e1
  obtain rfl := List.singleton_inj.1 e2
  obtain rfl := List.singleton_inj.1 e3
  have h0' : DataW.trod enc Try.prog w base (fun _ => true) held m' 22 [c0] = some y0 := h0
  clear h0
  rcases Go.Deep.open_slice_pairs Try.underlying22 Try.underlying42 (by kernel_rfl) rfl rfl (by kernel_rfl) (by kernel_rfl) h0' with ⟨e0, -⟩ | ⟨a, len, cap, m', k, V0, V1, D0, D1, P0, P1, e0, -, hle, hlim, hm, -, hx⟩
  · obtain rfl := List.singleton_inj.1 e0
    exact ⟨none, 0, 0, z1, z2, z3, fun _ => 0, fun _ => 0, ⟨rfl, rfl, rfl, rfl⟩, ⟨Nat.le_refl _, by decide, fun i hi => by omega⟩⟩
  · obtain rfl := List.singleton_inj.1 e0
    refine ⟨some a, len, cap, z1, z2, z3, fun i => intOfV (V0 i), fun i => intOfV (V1 i), ⟨rfl, rfl, rfl, rfl⟩, ⟨hle, by unfold maxLen at hlim; omega, fun i hi => ⟨a, rfl, ?_⟩⟩⟩
    have hmm : m' = cap := by simpa using hm
    obtain ⟨c0, c1, t0, t1⟩ := hx i (by omega)
    obtain ⟨n0, f0, -, -⟩ := DataW.trod_int Try.underlying3 t0
    obtain ⟨n1, f1, -, -⟩ := DataW.trod_int Try.underlying3 t1
    have g0 := List.singleton_inj.1 f0
    have g1 := List.singleton_inj.1 f1
    rw [g0] at c0
    rw [g1] at c1
    refine ⟨by rw [c0, g0]; rfl, ?_⟩
    rw [g1]
    show _ = some (Value.int .i64 n1)
    rw [← c1]
    cases i with
    | zero => rw [Nat.zero_mul, Addr.add_zero', Addr.add_succ']
    | succ j => rw [show (j + 1) * 2 = (2 * j + 1) + 1 from by omega, Addr.add_succ', show 2 * j + 1 + 1 + 1 = (2 * j + 2) + 1 from by omega, Addr.add_succ']; rfl

end Go.Proofs.Ytepcnpnpjfdfmaa
