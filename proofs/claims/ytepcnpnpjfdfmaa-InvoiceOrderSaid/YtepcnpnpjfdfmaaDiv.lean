/- Plain arithmetic: the division of a number of two words by one of one word, digit by digit (Knuth's algorithm D at two digits). -/
namespace Go.Proofs.Ytepcnpnpjfdfmaa.Dv

/-- the digit of the quotient: N = U * B + u, y = y1 * B + y0; q is not above it iff q * y0 ≤ rhat * B + u, where rhat = U - q * y1 -/
theorem over_iff {B U u y1 y0 q r : Nat} (hr : q * y1 + r = U) : (r * B + u < q * y0) ↔ (U * B + u < q * (y1 * B + y0)) := by
  subst hr
  have e1 : (q * y1 + r) * B + u = q * (y1 * B) + (r * B + u) := by rw [Nat.add_mul, Nat.mul_assoc]; omega
  have e2 : q * (y1 * B + y0) = q * (y1 * B) + q * y0 := Nat.mul_add _ _ _
  rw [e1, e2]
  omega

/-- the first guess is at most two too great -/
theorem guess_le {B U y1 y0 : Nat} (hU : U < y1 * B + y0) (h0 : y0 < B) (hn : B ≤ 2 * y1) (hB : 0 < B) : U / y1 ≤ B + 1 := by
  have hy1 : 0 < y1 := by omega
  have : U < (B + 2) * y1 := by
    have : (B + 2) * y1 = y1 * B + 2 * y1 := by rw [Nat.add_mul, Nat.mul_comm B y1]
    omega
  have := (Nat.div_lt_iff_lt_mul hy1).2 this
  omega
/-- .. and never too small -/
theorem guess_ge {B U u y1 y0 : Nat} (hu : u < B) (hy1 : 0 < y1) (hB : 0 < B) : (U * B + u) / (y1 * B + y0) ≤ U / y1 := by
  have h1 : (U * B + u) / (y1 * B + y0) ≤ (U * B + u) / (y1 * B) := Nat.div_le_div_left (by omega) (Nat.mul_pos hy1 hB)
  have h2 : (U * B + u) / (y1 * B) = U / y1 := by
    rw [Nat.mul_comm y1 B, ← Nat.div_div_eq_div_mul]
    congr 1
    rw [Nat.mul_comm, Nat.mul_add_div hB, Nat.div_eq_of_lt hu, Nat.add_zero]
  omega

/-- what holds at the loop's head: q is not below the digit, r is what is left -/
structure Inv (B U u y1 y0 q r : Nat) : Prop where
  left : q * y1 + r = U
  ge : (U * B + u) / (y1 * B + y0) ≤ q
  le : q ≤ B + 1

theorem digit_lt {B U u y : Nat} (hU : U < y) (hu : u < B) : (U * B + u) / y < B := by
  rw [Nat.div_lt_iff_lt_mul (by omega)]
  calc U * B + u < U * B + B := by omega
    _ = (U + 1) * B := by rw [Nat.add_mul, Nat.one_mul]
    _ ≤ y * B := Nat.mul_le_mul_right B hU
    _ = B * y := Nat.mul_comm _ _

/-- the loop's test says no: the digit is found -/
theorem stop {B U u y1 y0 q r : Nat} (h : Inv B U u y1 y0 q r) (hy : 0 < y1 * B + y0) (ht : ¬ (r * B + u < q * y0)) : q = (U * B + u) / (y1 * B + y0) := by
  have h2 : ¬ (U * B + u < q * (y1 * B + y0)) := fun c => ht ((over_iff h.left).2 c)
  have h3 := (Nat.le_div_iff_mul_le hy).2 (Nat.le_of_not_lt h2)
  have := h.ge
  omega
/-- it says yes: one less -/
theorem go {B U u y1 y0 q r : Nat} (h : Inv B U u y1 y0 q r) (hU : U < y1 * B + y0) (hu : u < B) (ht : B ≤ q ∨ r * B + u < q * y0) : 1 ≤ q ∧ Inv B U u y1 y0 (q - 1) (r + y1) ∧ q - 1 ≤ B := by
  have hd := digit_lt hU hu
  have hy : 0 < y1 * B + y0 := by omega
  have hq : (U * B + u) / (y1 * B + y0) < q := by
    rcases ht with ht | ht
    · exact Nat.lt_of_lt_of_le hd ht
    · exact (Nat.div_lt_iff_lt_mul hy).2 ((over_iff h.left).1 ht)
  have h1 : 1 ≤ q := Nat.lt_of_le_of_lt (Nat.zero_le _) hq
  refine ⟨h1, ⟨?_, Nat.le_sub_one_of_lt hq, by have := h.le; omega⟩, by have := h.le; omega⟩
  have e : (q - 1) * y1 + (r + y1) = (q - 1 + 1) * y1 + r := by rw [Nat.add_mul, Nat.one_mul]; omega
  rw [e, Nat.sub_add_cancel h1]
  exact h.left
/-- what is left has grown past a digit: found, too -/
theorem stop_big {B U u y1 y0 q r : Nat} (h : Inv B U u y1 y0 q r) (hq : q ≤ B) (h0 : y0 < B) (hr : B ≤ r) (hy : 0 < y1 * B + y0) : q = (U * B + u) / (y1 * B + y0) := by
  refine stop h hy ?_
  have a : q * y0 ≤ B * y0 := Nat.mul_le_mul_right _ hq
  have b : B * y0 ≤ B * B := Nat.mul_le_mul_left _ (by omega)
  have c : B * B ≤ r * B := Nat.mul_le_mul_right _ hr
  omega

/-- two digits make the quotient -/
theorem two_digits {B U u1 u0 y q1 q0 r1 : Nat} (hy : 0 < y) (e1 : q1 = (U * B + u1) / y) (er : r1 = (U * B + u1) % y) (e0 : q0 = (r1 * B + u0) / y) :
    q1 * B + q0 = ((U * B + u1) * B + u0) / y ∧ (r1 * B + u0) % y = ((U * B + u1) * B + u0) % y := by
  have h := Nat.div_add_mod (U * B + u1) y
  rw [← e1, ← er] at h
  have e : (U * B + u1) * B + u0 = y * (q1 * B) + (r1 * B + u0) := by
    rw [← h, Nat.add_mul, Nat.mul_assoc]; omega
  constructor
  · rw [e, Nat.mul_add_div hy, e0]
  · rw [e, Nat.mul_add_mod]

/-- a common power of two changes no quotient -/
theorem shifted {N y k : Nat} (hk : 0 < k) : (N * k) / (y * k) = N / y ∧ (N * k) % (y * k) / k = N % y := by
  constructor
  · exact Nat.mul_div_mul_right _ _ hk
  · rw [Nat.mul_mod_mul_right, Nat.mul_div_cancel _ hk]
end Go.Proofs.Ytepcnpnpjfdfmaa.Dv
