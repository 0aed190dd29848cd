/- Chapter 20: a struct of four arrays of two that comes in. -/
import Derived.Test.YtfjpaacanoocmaaProg
import Derived.Test.YtfjpaacanoocmaaLift
import Derived.Test.YtfjpaacanoocmaaKit
namespace Go.Proofs.Ytfjpaacanoocmaa
open Go.ChangeShapes Go.WideShapes Go.ChangeAt Go.RowKit
section
variable {H : Type} {enc : TypeId × Value → H} {P : Program} {w : World} {base : Nat} {sp : Nat → Bool} {held : Bool}
theorem open_pair {t e : TypeId} {m : Nat} {a b : Value} {y : DataW H × List MemPlace} (ht : P.underlying t = some (.array 2 e)) (hce : P.cellsOf e = 1)
    (h : DataW.trod enc P w base sp held m t [a, b] = some y) : ∃ (n : Nat) (u v : DataW H × List MemPlace), DataW.trod enc P w base sp held n e [a] = some u ∧ DataW.trod enc P w base sp held n e [b] = some v := by
  obtain ⟨xs, n, _, _, _, hl, hall⟩ := DataW.trod_array ht h
  have h0 := hall 0 (by omega)
  have h1 := hall 1 (by omega)
  rw [List.getElem?_eq_getElem (by omega)] at h0 h1
  rw [hce] at h0 h1
  exact ⟨n, _, _, by simpa using h0, by simpa using h1⟩
end
set_option maxRecDepth 100000 in
theorem open_pairs {H : Type} {enc : TypeId × Value → H} {w : World} {base b0 : Nat} {r : Reach} {held : Bool} {v : Value} {d : DataW H} {p : List MemPlace}
    (hv : Value.okWide Try.prog w r b0 76 v) (h : DataW.Trod enc Try.prog w base (fun _ => true) held 76 v d p) :
    ∃ (T0 T1 : ByteArray) (L0 L1 S0 S1 B0 B1 : Nat), v = .agg #[.string T0, .string T1, .int .u16 L0, .int .u16 L1, .int .u8 S0, .int .u8 S1, .int .u8 B0, .int .u8 B1] ∧ L0 < 65536 ∧ L1 < 65536 ∧ B0 < 256 ∧ B1 < 256 := by
  obtain ⟨cs, rfl, hs⟩ := okWide_struct Try.underlying76 hv
  rw [show Try.prog.cellsOf 76 = 8 by kernel_rfl] at hs
  obtain ⟨l⟩ := cs
  match l, hs with
  | [a0, a1, a2, a3, a4, a5, a6, a7], _ =>
    obtain ⟨n, hn⟩ := h
    obtain ⟨xs, m, _, _, _, hl, hall⟩ := DataW.trod_struct Try.underlying76 hn
    have h0 := hall 0 _ rfl
    have h1 := hall 1 _ rfl
    have h2 := hall 2 _ rfl
    have h3 := hall 3 _ rfl
    have hl4 : xs.length = 4 := hl
    rw [List.getElem?_eq_getElem (by omega)] at h0 h1 h2 h3
    simp only [Value.cells] at h0 h1 h2 h3
    obtain ⟨n0, u0, v0, p0, q0⟩ := open_pair Try.underlying74 (by kernel_rfl) h0
    obtain ⟨n1, u1, v1, p1, q1⟩ := open_pair Try.underlying46 (by kernel_rfl) h1
    obtain ⟨n2, u2, v2, p2, q2⟩ := open_pair Try.underlying45 (by kernel_rfl) h2
    obtain ⟨n3, u3, v3, p3, q3⟩ := open_pair Try.underlying45 (by kernel_rfl) h3
    obtain ⟨T0, f0, -, -⟩ := DataW.trod_string Try.underlying9 p0
    obtain ⟨T1, f1, -, -⟩ := DataW.trod_string Try.underlying9 q0
    obtain ⟨L0, f2, -, g2⟩ := DataW.trod_int Try.underlying22 p1
    obtain ⟨L1, f3, -, g3⟩ := DataW.trod_int Try.underlying22 q1
    obtain ⟨S0, f4, -, g4⟩ := DataW.trod_int Try.underlying5 p2
    obtain ⟨S1, f5, -, g5⟩ := DataW.trod_int Try.underlying5 q2
    obtain ⟨B0, f6, -, g6⟩ := DataW.trod_int Try.underlying5 p3
    obtain ⟨B1, f7, -, g7⟩ := DataW.trod_int Try.underlying5 q3
    obtain rfl := List.singleton_inj.1 f0
    obtain rfl := List.singleton_inj.1 f1
    obtain rfl := List.singleton_inj.1 f2
    obtain rfl := List.singleton_inj.1 f3
    obtain rfl := List.singleton_inj.1 f4
    obtain rfl := List.singleton_inj.1 f5
    obtain rfl := List.singleton_inj.1 f6
    obtain rfl := List.singleton_inj.1 f7
    have k2 := wf_u16 g2
    have k3 := wf_u16 g3
    have k4 := wf_u8 g4
    have k5 := wf_u8 g5
    have k6 := wf_u8 g6
    have k7 := wf_u8 g7
    exact ⟨T0, T1, L0.toNat, L1.toNat, S0.toNat, S1.toNat, B0.toNat, B1.toNat, by
      rw [Int.toNat_of_nonneg k2.1, Int.toNat_of_nonneg k3.1, Int.toNat_of_nonneg k4.1, Int.toNat_of_nonneg k5.1, Int.toNat_of_nonneg k6.1, Int.toNat_of_nonneg k7.1], by omega, by omega, by omega, by omega⟩
end Go.Proofs.Ytfjpaacanoocmaa
