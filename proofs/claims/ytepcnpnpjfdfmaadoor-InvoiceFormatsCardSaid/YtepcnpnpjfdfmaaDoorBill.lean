/- Walks of invoice.Format and of the specification's Format. -/
import Derived.Test.YtepcnpnpjfdfmaaDoorAmR
import Derived.Test.YtepcnpnpjfdfmaaDoorTail
import Derived.Test.YtepcnpnpjfdfmaaDoorRow
namespace Go.Proofs.YtepcnpnpjfdfmaaDoor
open Go.RowKit Go.Sort

def okI (n : Int) : Prop := -9223372036854775808 ≤ n ∧ n ≤ 9223372036854775807
theorem amount_any (c : Int) (hc : okI c) (w : World) (htab : PowT w) : Calls Tryd.prog 11 #[.int .i64 c] w fun e w' => e = .returned (.string (amtS c)) ∧ Ext w w' := by
  obtain ⟨c0, c1⟩ := hc
  by_cases h : c < 0
  · obtain ⟨u, rfl⟩ : ∃ u : Nat, c = -(u : Int) := ⟨c.natAbs, by omega⟩
    have e : amtS (-(u : Int)) = ⟨([45] ++ amtL u).toArray⟩ := by unfold amtS sgnL; rw [if_pos h, Int.natAbs_neg, Int.natAbs_natCast]
    rw [e]
    exact amount_neg u (by omega) (by omega) w htab
  · obtain ⟨u, rfl⟩ : ∃ u : Nat, c = (u : Int) := ⟨c.natAbs, by omega⟩
    have e : amtS (u : Int) = ⟨([] ++ amtL u).toArray⟩ := by unfold amtS sgnL; rw [if_neg h, Int.natAbs_natCast]
    rw [e]
    exact amount_pos u (by omega) w htab
theorem ramount_any (c : Int) (hc : okI c) (w : World) : Calls Tryd.prog 14 #[.int .i64 c] w fun e w' => e = .returned (.string (amtS c)) ∧ Ext w w' := by
  obtain ⟨c0, c1⟩ := hc
  by_cases h : c < 0
  · obtain ⟨u, rfl⟩ : ∃ u : Nat, c = -(u : Int) := ⟨c.natAbs, by omega⟩
    have e : amtS (-(u : Int)) = ⟨([45] ++ amtL u).toArray⟩ := by unfold amtS sgnL; rw [if_pos h, Int.natAbs_neg, Int.natAbs_natCast]
    rw [e]
    exact ramount_neg u (by omega) (by omega) w
  · obtain ⟨u, rfl⟩ : ∃ u : Nat, c = (u : Int) := ⟨c.natAbs, by omega⟩
    have e : amtS (u : Int) = ⟨([] ++ amtL u).toArray⟩ := by unfold amtS sgnL; rw [if_neg h, Int.natAbs_natCast]
    rw [e]
    exact ramount_pos u (by omega) w
theorem amtL_len (u : Nat) (h : u ≤ 9223372036854775808) : (amtL u).length ≤ 23 := by
  unfold amtL
  rw [List.length_append, Lib.decDigits_length]
  have := Lib.nDigits_le20 (u / 100) (by omega)
  simp
  omega
theorem amtS_size (c : Int) (hc : okI c) : (sgnL c ++ amtL c.natAbs).length ≤ 24 := by
  obtain ⟨c0, c1⟩ := hc
  rw [List.length_append]
  have h1 := amtL_len c.natAbs (by omega)
  have h2 : (sgnL c).length ≤ 1 := by unfold sgnL; split <;> simp
  omega

/-- the lines of a bill in memory -/
structure Lines (w : World) (p : Option Addr) (n cap : Nat) (T H B C : Nat → Int) : Prop where
  le : n ≤ cap
  lim : (cap : Int) ≤ 9223372036854775807
  cell : ∀ i, i < n → ∃ a, p = some a ∧ w.cell? (a.add (i * 4)) = some (.int .i64 (T i)) ∧ w.cell? ⟨(a.add (i * 4)).block, (a.add (i * 4)).off + 1, none⟩ = some (.int .i64 (H i)) ∧
    w.cell? ⟨(a.add (i * 4)).block, (a.add (i * 4)).off + 2, none⟩ = some (.int .i64 (B i)) ∧ w.cell? ⟨(a.add (i * 4)).block, (a.add (i * 4)).off + 3, none⟩ = some (.int .i64 (C i))
  ok : ∀ i, i < n → okI (T i) ∧ okI (H i) ∧ okI (B i) ∧ okI (C i)
theorem Lines.ext {w w' : World} {p : Option Addr} {n cap : Nat} {T H B C : Nat → Int} (h : Lines w p n cap T H B C) (he : Ext w w') : Lines w' p n cap T H B C :=
  ⟨h.le, h.lim, fun i hi => by
    obtain ⟨a, ha, h1, h2, h3, h4⟩ := h.cell i hi
    exact ⟨a, ha, he.cell h1, he.cell h2, he.cell h3, he.cell h4⟩, h.ok⟩

def lineL (t h b c : Int) : List UInt8 := [116, 101, 110, 97, 110, 116, 32] ++ Lib.itoa t ++ [58, 32] ++ Lib.itoa h ++ [32, 104, 105, 116, 115, 44, 32] ++ Lib.itoa b ++ [32, 98, 121, 116, 101, 115, 44, 32] ++ (sgnL c ++ amtL c.natAbs) ++ [10]
def bodyL (T H B C : Nat → Int) : Nat → List UInt8
  | 0 => []
  | k + 1 => bodyL T H B C k ++ lineL (T k) (H k) (B k) (C k)
def billL (T H B C : Nat → Int) (n : Nat) (total : Int) : List UInt8 := bodyL T H B C n ++ ([116, 111, 116, 97, 108, 32] ++ (sgnL total ++ amtL total.natAbs) ++ [10])
theorem lineL_len {t h b c : Int} (ht : okI t) (hh : okI h) (hb : okI b) (hc : okI c) : (lineL t h b c).length ≤ 112 := by
  have h1 := Lib.itoa_length_le t ht.1 ht.2
  have h2 := Lib.itoa_length_le h hh.1 hh.2
  have h3 := Lib.itoa_length_le b hb.1 hb.2
  have h4 := amtS_size c hc
  unfold lineL
  simp only [List.length_append, List.length_cons, List.length_nil] at h4 ⊢
  omega
theorem bodyL_len {T H B C : Nat → Int} (n : Nat) (ok : ∀ i, i < n → okI (T i) ∧ okI (H i) ∧ okI (B i) ∧ okI (C i)) (k : Nat) (hk : k ≤ n) : (bodyL T H B C k).length ≤ k * 112 := by
  induction k with
  | zero => exact Nat.le_refl 0
  | succ k ih =>
    obtain ⟨a, b, c, d⟩ := ok k (by omega)
    have h := lineL_len a b c d
    have h2 := ih (by omega)
    unfold bodyL
    rw [List.length_append]
    omega
end Go.Proofs.YtepcnpnpjfdfmaaDoor
