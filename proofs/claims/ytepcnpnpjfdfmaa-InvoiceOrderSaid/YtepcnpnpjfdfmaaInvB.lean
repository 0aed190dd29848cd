/- Walks of package invoice and of the specification: Check, Valid. -/
import Derived.Test.YtepcnpnpjfdfmaaInvA
import Derived.Deep.SlicePairs
import Derived.Deep.RegionWith
import Derived.Deep.DeepCutAuto
import Derived.Deep.CutBlock
namespace Go.Proofs.Ytepcnpnpjfdfmaa
open Go.RowKit

theorem price_is {n : Int} {b : Bool} (h : okB n = b) (w : World) : Calls Try.prog 28 #[.int .i64 n] w fun e w' => e = .returned (.bool b) ∧ w = w' := by
  subst h
  exact price_any n w

/-- the tiers of a tariff in memory -/
structure Tar (w : World) (p : Option Addr) (n cap : Nat) (up pr : Nat → Int) : Prop where
  le : n ≤ cap
  lim : (cap : Int) ≤ 9223372036854775807
  cell : ∀ i, i < n → ∃ a, p = some a ∧ w.cell? (a.add (i * 2)) = some (.int .i64 (up i)) ∧ w.cell? ⟨(a.add (i * 2)).block, (a.add (i * 2)).off + 1, none⟩ = some (.int .i64 (pr i))
theorem Tar.ext {w w' : World} {p : Option Addr} {n cap : Nat} {up pr : Nat → Int} (h : Tar w p n cap up pr) (he : Ext w w') : Tar w' p n cap up pr :=
  ⟨h.le, h.lim, fun i hi => by
    obtain ⟨a, ha, h1, h2⟩ := h.cell i hi
    exact ⟨a, ha, he.cell h1, he.cell h2⟩⟩
abbrev tarV (p : Option Addr) (n cap : Nat) (unit hit least : Int) : Value := .agg #[.slice p n cap, .int .i64 unit, .int .i64 hit, .int .i64 least]

def bel (up : Nat → Int) (k : Nat) : Int := if k = 0 then 0 else up (k - 1)
theorem bel_zero (up : Nat → Int) : bel up 0 = 0 := rfl
theorem bel_succ (up : Nat → Int) (k : Nat) : bel up (k + 1) = up k := rfl
def okT (n : Nat) (up pr : Nat → Int) (k : Nat) : Prop := okB (pr k) = true ∧ okB (up k) = true ∧ (k + 1 = n → up k = 0) ∧ (k + 1 < n → bel up k < up k)
def okTar (n : Nat) (unit hit least : Int) (up pr : Nat → Int) : Prop := 1 ≤ n ∧ n ≤ 16 ∧ 1 ≤ unit ∧ unit ≤ 1048576 ∧ okB hit = true ∧ okB least = true ∧ ∀ k, k < n → okT n up pr k

theorem head_ways (n : Nat) (unit hit least : Int) : (n = 0) ∨ (17 ≤ n) ∨ (1 ≤ n ∧ n ≤ 16 ∧ unit < 1) ∨ (1 ≤ n ∧ n ≤ 16 ∧ 1048576 < unit) ∨ (1 ≤ n ∧ n ≤ 16 ∧ 1 ≤ unit ∧ unit ≤ 1048576 ∧ okB hit = false) ∨
    (1 ≤ n ∧ n ≤ 16 ∧ 1 ≤ unit ∧ unit ≤ 1048576 ∧ okB hit = true ∧ okB least = false) ∨ (1 ≤ n ∧ n ≤ 16 ∧ 1 ≤ unit ∧ unit ≤ 1048576 ∧ okB hit = true ∧ okB least = true) := by
  cases okB hit <;> cases okB least <;> simp <;> omega

theorem tier_ways (n k : Nat) (u p b : Int) (hk : k < n) : okB p = false ∨ (okB p = true ∧ okB u = false) ∨ (okB p = true ∧ okB u = true ∧ k + 1 = n ∧ u ≠ 0) ∨ (okB p = true ∧ okB u = true ∧ k + 1 = n ∧ u = 0) ∨
    (okB p = true ∧ okB u = true ∧ k + 1 < n ∧ u ≤ b) ∨ (okB p = true ∧ okB u = true ∧ k + 1 < n ∧ b < u) := by
  cases okB p <;> cases okB u <;> simp <;> omega

def CheckPost (n : Nat) (unit hit least : Int) (up pr : Nat → Int) (e : Ending) : Prop :=
  (okTar n unit hit least up pr ∧ e = .returned .nilIface) ∨ (¬ okTar n unit hit least up pr ∧ e = .returned (errV 2))

set_option maxHeartbeats 1000000 in
theorem check_any (w : World) (p : Option Addr) (n cap : Nat) (unit hit least : Int) (up pr : Nat → Int) (ht : Tar w p n cap up pr) :
    Calls Try.prog 12 #[tarV p n cap unit hit least] w fun e w' => CheckPost n unit hit least up pr e ∧ Ext w w' := by
  have hx := ht.le
  have hm := ht.lim
  rcases head_ways n unit hit least with h | h | ⟨h1, h2, h3⟩ | ⟨h1, h2, h3⟩ | ⟨h1, h2, h3, h4, h5⟩ | ⟨h1, h2, h3, h4, h5, h6⟩ | ⟨h1, h2, h3, h4, h5, h6⟩
  · subst h
    go_enter Try.func12, Try.ntmps12
    go_wp2_with fail
    go_ret
    exact ⟨.inr ⟨fun h => by have := h.1; omega, rfl⟩, (Ext.refl w).alloc _⟩
  · have hn : (n : Int) - 1 ≥ 16 := by omega
    go_enter Try.func12, Try.ntmps12
    go_wp2_with fail
    go_ret
    exact ⟨.inr ⟨fun h => by have := h.2.1; omega, rfl⟩, (Ext.refl w).alloc _⟩
  · have hn : ¬ (n : Int) - 1 ≥ 16 := by omega
    have hn0 : ¬ (n : Int) - 1 < 0 := by omega
    go_enter Try.func12, Try.ntmps12
    go_wp2_with fail
    go_ret
    exact ⟨.inr ⟨fun h => by have := h.2.2.1; omega, rfl⟩, (Ext.refl w).alloc _⟩
  · have hn : ¬ (n : Int) - 1 ≥ 16 := by omega
    have hn0 : ¬ (n : Int) - 1 < 0 := by omega
    have hu : ¬ unit < 1 := by omega
    go_enter Try.func12, Try.ntmps12
    go_wp2_with fail
    go_ret
    exact ⟨.inr ⟨fun h => by have := h.2.2.2.1; omega, rfl⟩, (Ext.refl w).alloc _⟩
  · have hn : ¬ (n : Int) - 1 ≥ 16 := by omega
    have hn0 : ¬ (n : Int) - 1 < 0 := by omega
    go_enter Try.func12, Try.ntmps12
    go_wp2_with (go_at_call 28; refine (price_is h5 _).mono ?_; rintro e w' ⟨rfl, rfl⟩)
    go_ret
    exact ⟨.inr ⟨fun h => by have := h.2.2.2.2.1; simp [h5] at this, rfl⟩, (Ext.refl w).alloc _⟩
  · have hn : ¬ (n : Int) - 1 ≥ 16 := by omega
    have hn0 : ¬ (n : Int) - 1 < 0 := by omega
    go_enter Try.func12, Try.ntmps12
    go_wp2_with (first | (go_at_call_of 28 (Value.int .i64 hit); refine (price_is h5 _).mono ?_; rintro e w' ⟨rfl, rfl⟩) | (go_at_call_of 28 (Value.int .i64 least); refine (price_is h6 _).mono ?_; rintro e w' ⟨rfl, rfl⟩))
    go_ret
    exact ⟨.inr ⟨fun h => by have := h.2.2.2.2.2.1; simp [h6] at this, rfl⟩, (Ext.refl w).alloc _⟩
  · obtain ⟨m, rfl⟩ : ∃ m, n = m + 1 := ⟨n - 1, by omega⟩
    have hn : ¬ (m : Int) ≥ 16 := by omega
    have hn0 : ¬ (m : Int) < 0 := by omega
    go_enter Try.func12, Try.ntmps12
    go_wp2_with (first | (go_at_call_of 28 (Value.int .i64 hit); refine (price_is h5 _).mono ?_; rintro e w' ⟨rfl, rfl⟩) | (go_at_call_of 28 (Value.int .i64 least); refine (price_is h6 _).mono ?_; rintro e w' ⟨rfl, rfl⟩))
    obtain ⟨a, rfl, -⟩ := ht.cell 0 h1
    go_loopw [4, 43] (fun b i wr => ∃ k : Nat, k ≤ m + 1 ∧ i = .int .i64 k ∧ b = .int .i64 (bel up k) ∧ Hid (∀ j, j < k → okT (m + 1) up pr j) ∧ Ext w wr) (fun _ i _ => m + 1 - (intOf i).toNat)
    case atStart => exact ⟨0, by omega, rfl, rfl, Lib.hid (fun j hj => by omega), (Ext.refl w).alloc _⟩
    case round =>
      obtain ⟨k, hk, rfl, rfl, HA, hX⟩ := hrel
      by_cases hlt : k < m + 1
      · obtain ⟨a', hp, c1, c2⟩ := ht.cell k hlt
        obtain rfl := Option.some.inj hp
        clear hp
        replace c1 := hX.cell c1
        replace c2 := hX.cell c2
        obtain ⟨u, hu⟩ : ∃ u, u = up k := ⟨_, rfl⟩
        obtain ⟨r, hr⟩ : ∃ r, r = pr k := ⟨_, rfl⟩
        obtain ⟨b, hb⟩ : ∃ b, b = bel up k := ⟨_, rfl⟩
        rw [← hu] at c1
        rw [← hr] at c2
        rw [← hb]
        have HU := Lib.hid hu
        have HR := Lib.hid hr
        have HB := Lib.hid hb
        clear hu hr hb
        rcases tier_ways (m + 1) k u r b hlt with g1 | ⟨g1, g2⟩ | ⟨g1, g2, g3, g4⟩ | ⟨g1, g2, g3, g4⟩ | ⟨g1, g2, g3, g4⟩ | ⟨g1, g2, g3, g4⟩
        · go_wp2_with (go_at_call_of 28 (Value.int .i64 r); refine (price_is g1 _).mono ?_; rintro e w' ⟨rfl, rfl⟩)
          go_ret
          exact ⟨.inr ⟨fun h => (by have := (h.2.2.2.2.2.2 k hlt).1; rw [← HR.out, g1] at this; cases this), rfl⟩, hX.alloc _⟩
        · go_wp2_with (first | (go_at_call_of 28 (Value.int .i64 r); refine (price_is g1 _).mono ?_; rintro e w' ⟨rfl, rfl⟩) | (go_at_call_of 28 (Value.int .i64 u); refine (price_is g2 _).mono ?_; rintro e w' ⟨rfl, rfl⟩))
          go_ret
          exact ⟨.inr ⟨fun h => (by have := (h.2.2.2.2.2.2 k hlt).2.1; rw [← HU.out, g2] at this; cases this), rfl⟩, hX.alloc _⟩
        · have g3' : m = k := by omega
          subst g3'
          go_wp2_with (first | (go_at_call_of 28 (Value.int .i64 r); refine (price_is g1 _).mono ?_; rintro e w' ⟨rfl, rfl⟩) | (go_at_call_of 28 (Value.int .i64 u); refine (price_is g2 _).mono ?_; rintro e w' ⟨rfl, rfl⟩))
          go_ret
          exact ⟨.inr ⟨fun h => by have := (h.2.2.2.2.2.2 _ hlt).2.2.1 rfl; rw [← HU.out] at this; exact g4 this, rfl⟩, hX.alloc _⟩
        · have g3' : m = k := by omega
          subst g3'
          subst g4
          go_wp2_with (first | (go_at_call_of 28 (Value.int .i64 r); refine (price_is g1 _).mono ?_; rintro e w' ⟨rfl, rfl⟩) | (go_at_call_of 28 (Value.int .i64 0); refine (price_is g2 _).mono ?_; rintro e w' ⟨rfl, rfl⟩))
          go_roundw
          case rel => exact ⟨m + 1, by omega, by go_num, by rw [bel_succ, HU.out], Lib.hid (fun j hj => by
            by_cases hjk : j = m
            · subst hjk; exact ⟨by rw [← HR.out]; exact g1, by rw [← HU.out]; exact g2, fun _ => HU.out.symm, fun h => by omega⟩
            · exact HA.out j (by omega)), hX.alloc _⟩
          case measure => simp [intOf]

        · have hq : ¬ (k : Int) = (m : Int) := by omega
          have hq2 : (k : Int) < (m : Int) := by omega
          go_wp2_with (first | (go_at_call_of 28 (Value.int .i64 r); refine (price_is g1 _).mono ?_; rintro e w' ⟨rfl, rfl⟩) | (go_at_call_of 28 (Value.int .i64 u); refine (price_is g2 _).mono ?_; rintro e w' ⟨rfl, rfl⟩))
          go_ret
          exact ⟨.inr ⟨fun h => by have := (h.2.2.2.2.2.2 k hlt).2.2.2 g3; rw [← HU.out, ← HB.out] at this; omega, rfl⟩, hX.alloc _⟩
        · have hq : ¬ (k : Int) = (m : Int) := by omega
          have hq2 : (k : Int) < (m : Int) := by omega
          have hq3 : ¬ u ≤ b := by omega
          go_wp2_with (first | (go_at_call_of 28 (Value.int .i64 r); refine (price_is g1 _).mono ?_; rintro e w' ⟨rfl, rfl⟩) | (go_at_call_of 28 (Value.int .i64 u); refine (price_is g2 _).mono ?_; rintro e w' ⟨rfl, rfl⟩))
          go_roundw
          case rel => exact ⟨k + 1, by omega, by go_num, by rw [bel_succ, HU.out], Lib.hid (fun j hj => by
            by_cases hjk : j = k
            · subst hjk; exact ⟨by rw [← HR.out]; exact g1, by rw [← HU.out]; exact g2, fun h => by omega, fun _ => by rw [← HU.out, ← HB.out]; exact g4⟩
            · exact HA.out j (by omega)), hX.alloc _⟩
          case measure => simp [intOf]; omega
      · have g3' : m + 1 = k := by omega
        subst g3'
        go_wp2_with fail
        go_ret
        exact ⟨.inl ⟨⟨h1, h2, h3, h4, h5, h6, HA.out⟩, rfl⟩, hX⟩
end Go.Proofs.Ytepcnpnpjfdfmaa
