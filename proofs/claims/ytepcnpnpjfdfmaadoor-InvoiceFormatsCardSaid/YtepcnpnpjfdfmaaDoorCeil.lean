/- Quotients rounded up. -/
import Derived.Test.YtepcnpnpjfdfmaaDoorInvB
namespace Go.Proofs.YtepcnpnpjfdfmaaDoor
theorem ceil_yes {a n : Nat} (hn : 1 ≤ n) (h : 0 < a % n) : a / n + 1 = (a + n - 1) / n := by
  have e := Nat.div_add_mod a n
  have hm := Nat.mod_lt a hn
  have : a + n - 1 = n * (a / n + 1) + (a % n - 1) := by
    rw [Nat.mul_add, Nat.mul_one]; omega
  rw [this, Nat.mul_add_div (by omega), Nat.div_eq_of_lt (show a % n - 1 < n by omega), Nat.add_zero]
theorem ceil_no {a n : Nat} (hn : 1 ≤ n) (h : a % n = 0) : a / n = (a + n - 1) / n := by
  have e := Nat.div_add_mod a n
  have : a + n - 1 = n * (a / n) + (n - 1) := by omega
  rw [this, Nat.mul_add_div (by omega), Nat.div_eq_of_lt (show n - 1 < n by omega), Nat.add_zero]

end Go.Proofs.YtepcnpnpjfdfmaaDoor
