/- Plain: what the shifts, the masks and the 'or' of bits.Div64 come to. -/
import Derived.Test.YtepcnpnpjfdfmaaKit
import Derived.Test.YtepcnpnpjfdfmaaDiv
import Derived.Lib.BitFns
namespace Go.Proofs.Ytepcnpnpjfdfmaa.Dv
open Go.RowKit

theorem aux_spec : ∀ (f x : Nat), x < 2 ^ f → Lib.bitLenAux f x ≤ f ∧ x < 2 ^ Lib.bitLenAux f x ∧ (x ≠ 0 → 1 ≤ Lib.bitLenAux f x ∧ 2 ^ (Lib.bitLenAux f x - 1) ≤ x)
  | 0, x, h => by simp at h; subst h; simp [Lib.bitLenAux]
  | f + 1, x, h => by
    unfold Lib.bitLenAux
    by_cases h0 : x = 0
    · simp [h0]
    · rw [if_neg h0]
      have ih := aux_spec f (x / 2) (by rw [Nat.pow_succ] at h; omega)
      obtain ⟨i1, i2, i3⟩ := ih
      refine ⟨by omega, ?_, fun _ => ⟨by omega, ?_⟩⟩
      · rw [Nat.add_comm, Nat.pow_succ]; omega
      · by_cases h1 : x / 2 = 0
        · rw [h1]
          have : Lib.bitLenAux f 0 = 0 := by cases f <;> simp [Lib.bitLenAux]
          rw [this]
          simp
          omega
        · obtain ⟨j1, j2⟩ := i3 h1
          have e : 1 + Lib.bitLenAux f (x / 2) - 1 = (Lib.bitLenAux f (x / 2) - 1) + 1 := by omega
          rw [e, Nat.pow_succ]
          omega

theorem bitLen_spec {y : Nat} (h0 : 0 < y) (h : y < 18446744073709551616) : 1 ≤ Lib.bitLen y ∧ Lib.bitLen y ≤ 64 ∧ y < 2 ^ Lib.bitLen y ∧ 2 ^ (Lib.bitLen y - 1) ≤ y := by
  obtain ⟨a, b, c⟩ := aux_spec 64 y h
  exact ⟨(c (by omega)).1, a, b, (c (by omega)).2⟩

structure Prep (hi lo y L Y y1 y0 L1 u1 u0 U : Nat) : Prop where
  l1 : 1 ≤ L
  l2 : L ≤ 64
  Ydef : Y = y * 2 ^ (64 - L)
  Ylo : 9223372036854775808 ≤ Y
  Yhi : Y < 18446744073709551616
  f1 : IntKind.u64.wrap ((y : Int) * 2 ^ (64 - L)) = (Y : Int)
  f2 : IntKind.u64.wrap ((lo : Int) * 2 ^ (64 - L)) = (L1 : Int)
  L1hi : L1 < 18446744073709551616
  f3 : (Y : Int) / 4294967296 = (y1 : Int)
  f4 : bits BinOp.and IntKind.u64 (Y : Int) 4294967295 = (y0 : Int)
  f5 : (L1 : Int) / 4294967296 = (u1 : Int)
  f6 : bits BinOp.and IntKind.u64 (L1 : Int) 4294967295 = (u0 : Int)
  Ysplit : Y = y1 * 4294967296 + y0
  y0lt : y0 < 4294967296
  y1lo : 2147483648 ≤ y1
  y1hi : y1 < 4294967296
  u1lt : u1 < 4294967296
  u0lt : u0 < 4294967296
  f7 : bits BinOp.or IntKind.u64 (IntKind.u64.wrap ((hi : Int) * 2 ^ (64 - L))) ((lo : Int) / 2 ^ (64 - (64 - L))) = (U : Int)
  Ult : U < Y
  whole : (hi * 18446744073709551616 + lo) * 2 ^ (64 - L) = (U * 4294967296 + u1) * 4294967296 + u0

theorem cast_shl (a k : Nat) : (a : Int) * 2 ^ k = ((a * 2 ^ k : Nat) : Int) := by simp

theorem prep {hi lo y : Nat} (h1 : hi < y) (h2 : y < 18446744073709551616) (h3 : lo < 18446744073709551616) :
    ∃ Y y1 y0 L1 u1 u0 U, Prep hi lo y (Lib.bitLen y) Y y1 y0 L1 u1 u0 U := by
  obtain ⟨l1, l2, l3, l4⟩ := bitLen_spec (by omega) h2
  generalize Lib.bitLen y = L at *
  have hP : 0 < 2 ^ (64 - L) := Nat.two_pow_pos _
  have hPL : 2 ^ L * 2 ^ (64 - L) = 18446744073709551616 := by rw [← Nat.pow_add, show L + (64 - L) = 64 from by omega]
  have hPL1 : 2 ^ (L - 1) * 2 ^ (64 - L) = 9223372036854775808 := by rw [← Nat.pow_add, show L - 1 + (64 - L) = 63 from by omega]
  have hLL : 0 < 2 ^ L := Nat.two_pow_pos _
  have e64 : 64 - (64 - L) = L := by omega
  have q0 : lo / 2 ^ L < 2 ^ (64 - L) := by rw [Nat.div_lt_iff_lt_mul hLL, Nat.mul_comm, hPL]; exact h3
  have Yhi : y * 2 ^ (64 - L) < 18446744073709551616 := by rw [← hPL]; exact Nat.mul_lt_mul_of_pos_right l3 hP
  have Ylo : 9223372036854775808 ≤ y * 2 ^ (64 - L) := by rw [← hPL1]; exact Nat.mul_le_mul_right _ l4
  have hiP : hi * 2 ^ (64 - L) + 2 ^ (64 - L) ≤ y * 2 ^ (64 - L) := by
    have := Nat.mul_le_mul_right (2 ^ (64 - L)) h1
    rw [Nat.succ_mul] at this
    exact this
  have loP : lo * 2 ^ (64 - L) / 18446744073709551616 = lo / 2 ^ L := by
    rw [← hPL]
    exact Nat.mul_div_mul_right _ _ hP
  have hw : ∀ n : Nat, IntKind.u64.wrap (n : Int) = ((n % 18446744073709551616 : Nat) : Int) := fun n => by rw [IntKind.wrap_u64]; omega
  refine ⟨y * 2 ^ (64 - L), y * 2 ^ (64 - L) / 4294967296, y * 2 ^ (64 - L) % 4294967296, lo * 2 ^ (64 - L) % 18446744073709551616, lo * 2 ^ (64 - L) % 18446744073709551616 / 4294967296,
    lo * 2 ^ (64 - L) % 18446744073709551616 % 4294967296, hi * 2 ^ (64 - L) + lo / 2 ^ L, ⟨l1, l2, rfl, Ylo, Yhi, ?_, ?_, ?_, ?_, ?_, ?_, ?_, ?_, ?_, ?_, ?_, ?_, ?_, ?_, ?_, ?_⟩⟩
  · rw [cast_shl, hw, Nat.mod_eq_of_lt Yhi]
  · rw [cast_shl, hw]
  · exact Nat.mod_lt _ (by omega)
  · exact (Int.natCast_ediv _ _).symm
  · rw [show (4294967295 : Int) = ((4294967295 : Nat) : Int) from rfl, u64_and_nat _ _ Yhi (by omega)]
    congr 1
    exact Nat.and_two_pow_sub_one_eq_mod _ 32
  · exact (Int.natCast_ediv _ _).symm
  · rw [show (4294967295 : Int) = ((4294967295 : Nat) : Int) from rfl, u64_and_nat _ _ (Nat.mod_lt _ (by omega)) (by omega)]
    congr 1
    exact Nat.and_two_pow_sub_one_eq_mod _ 32
  · omega
  · exact Nat.mod_lt _ (by omega)
  · omega
  · omega
  · omega
  · exact Nat.mod_lt _ (by omega)
  · have hh : hi * 2 ^ (64 - L) < 18446744073709551616 := by omega
    have e1 : ((lo : Int) / 2 ^ (64 - (64 - L))) = ((lo / 2 ^ L : Nat) : Int) := by rw [e64]; simp
    rw [cast_shl, hw, Nat.mod_eq_of_lt hh, e1, u64_or_nat _ _ hh (by omega)]
    congr 1
    exact nat_join (64 - L) _ _ (Nat.mul_mod_left _ _) q0
  · omega
  · have e : lo * 2 ^ (64 - L) = lo / 2 ^ L * 18446744073709551616 + lo * 2 ^ (64 - L) % 18446744073709551616 := by
      rw [← loP]; omega
    generalize lo * 2 ^ (64 - L) % 18446744073709551616 = M at *
    rw [Nat.add_mul, e]
    have e2 : hi * 18446744073709551616 * 2 ^ (64 - L) = hi * 2 ^ (64 - L) * 18446744073709551616 := by rw [Nat.mul_assoc, Nat.mul_assoc, Nat.mul_comm 18446744073709551616]
    rw [e2]
    generalize hi * 2 ^ (64 - L) = A at *
    generalize lo / 2 ^ L = D at *
    omega
end Go.Proofs.Ytepcnpnpjfdfmaa.Dv
