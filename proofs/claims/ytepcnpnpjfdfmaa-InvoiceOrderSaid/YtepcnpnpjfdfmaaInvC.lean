/- Walk of the specification's Valid. -/
import Derived.Test.YtepcnpnpjfdfmaaInvB
namespace Go.Proofs.Ytepcnpnpjfdfmaa
open Go.RowKit

theorem right_any (n : Int) (w : World) : Calls Try.prog 29 #[.int .i64 n] w fun e w' => e = .returned (.bool (okB n)) ∧ w = w' := by
  cases h : okB n
  · rcases okB_no h with h | h
    · go_enter Try.func29, Try.ntmps29
      go_wp2_with fail
      go_ret
      exact ⟨rfl, rfl⟩
    · have h0 : 0 ≤ n := by omega
      have h1 : decide (n ≤ 1099511627776) = false := by simp; omega
      go_enter Try.func29, Try.ntmps29
      go_wp2_with fail
      go_ret
      exact ⟨rfl, rfl⟩
  · obtain ⟨h0, h1⟩ := okB_yes h
    go_enter Try.func29, Try.ntmps29
    go_wp2_with fail
    go_ret
    exact ⟨rfl, rfl⟩
theorem right_is {n : Int} {b : Bool} (h : okB n = b) (w : World) : Calls Try.prog 29 #[.int .i64 n] w fun e w' => e = .returned (.bool b) ∧ w = w' := by
  subst h
  exact right_any n w

def ValidPost (n : Nat) (unit hit least : Int) (up pr : Nat → Int) (e : Ending) : Prop :=
  (okTar n unit hit least up pr ∧ e = .returned (.bool true)) ∨ (¬ okTar n unit hit least up pr ∧ e = .returned (.bool false))

theorem valid_ways (m k : Nat) (u p : Int) (up : Nat → Int) (hk : k < m + 1) : okB u = false ∨ (okB u = true ∧ okB p = false) ∨ (okB u = true ∧ okB p = true ∧ m = k ∧ u ≠ 0) ∨ (okB u = true ∧ okB p = true ∧ m = k ∧ u = 0) ∨
    (okB u = true ∧ okB p = true ∧ k < m ∧ u ≤ 0) ∨ (okB u = true ∧ okB p = true ∧ k < m ∧ 0 < u ∧ k = 0) ∨ (∃ j, okB u = true ∧ okB p = true ∧ k < m ∧ 0 < u ∧ k = j + 1 ∧ u ≤ up j) ∨ (∃ j, okB u = true ∧ okB p = true ∧ k < m ∧ 0 < u ∧ k = j + 1 ∧ up j < u) := by
  cases okB p <;> cases okB u <;> simp
  by_cases h1 : k < m
  · by_cases h2 : u ≤ 0
    · right; right; left; exact ⟨h1, h2⟩
    · rcases k with _ | j
      · omega
      · by_cases h3 : u ≤ up j
        · right; right; right; right; left; exact ⟨h1, by omega, j, rfl, h3⟩
        · right; right; right; right; right; exact ⟨h1, by omega, j, rfl, by omega⟩
  · omega

theorem bel_nonneg {n : Nat} {up pr : Nat → Int} {k : Nat} (h : ∀ j, j < k → okT n up pr j) (_ : True) : 0 ≤ bel up k := by
  unfold bel
  split
  · exact Int.le_refl 0
  · exact (okB_yes (h (k - 1) (by omega)).2.1).1

set_option maxHeartbeats 20000000 in
theorem valid_any (w : World) (p : Option Addr) (n cap : Nat) (unit hit least : Int) (up pr : Nat → Int) (ht : Tar w p n cap up pr) :
    Calls Try.prog 13 #[tarV p n cap unit hit least] w fun e w' => ValidPost n unit hit least up pr e ∧ Ext w w' := by
  have hx := ht.le
  have hm := ht.lim
  rcases head_ways n unit hit least with h | h | ⟨h1, h2, h3⟩ | ⟨h1, h2, h3⟩ | ⟨h1, h2, h3, h4, h5⟩ | ⟨h1, h2, h3, h4, h5, h6⟩ | ⟨h1, h2, h3, h4, h5, h6⟩
  · subst h
    go_enter Try.func13, Try.ntmps13
    go_wp2_with fail
    go_ret
    exact ⟨.inr ⟨fun h => by have := h.1; omega, rfl⟩, (Ext.refl w).alloc _⟩
  · have hn : (n : Int) > 16 := by omega
    go_enter Try.func13, Try.ntmps13
    go_wp2_with fail
    go_ret
    exact ⟨.inr ⟨fun h => by have := h.2.1; omega, rfl⟩, (Ext.refl w).alloc _⟩
  · have hn : ¬ (n : Int) > 16 := by omega
    have hn0 : ¬ (n : Int) < 1 := by omega
    go_enter Try.func13, Try.ntmps13
    go_wp2_with fail
    go_ret
    exact ⟨.inr ⟨fun h => by have := h.2.2.1; omega, rfl⟩, (Ext.refl w).alloc _⟩
  · have hn : ¬ (n : Int) > 16 := by omega
    have hn0 : ¬ (n : Int) < 1 := by omega
    have hu : ¬ unit < 1 := by omega
    go_enter Try.func13, Try.ntmps13
    go_wp2_with fail
    go_ret
    exact ⟨.inr ⟨fun h => by have := h.2.2.2.1; omega, rfl⟩, (Ext.refl w).alloc _⟩
  · have hn : ¬ (n : Int) > 16 := by omega
    have hn0 : ¬ (n : Int) < 1 := by omega
    go_enter Try.func13, Try.ntmps13
    go_wp2_with (go_at_call 29; refine (right_is h5 _).mono ?_; rintro e w' ⟨rfl, rfl⟩)
    go_ret
    exact ⟨.inr ⟨fun h => by have := h.2.2.2.2.1; simp [h5] at this, rfl⟩, (Ext.refl w).alloc _⟩
  · have hn : ¬ (n : Int) > 16 := by omega
    have hn0 : ¬ (n : Int) < 1 := by omega
    go_enter Try.func13, Try.ntmps13
    go_wp2_with (first | (go_at_call_of 29 (Value.int .i64 hit); refine (right_is h5 _).mono ?_; rintro e w' ⟨rfl, rfl⟩) | (go_at_call_of 29 (Value.int .i64 least); refine (right_is h6 _).mono ?_; rintro e w' ⟨rfl, rfl⟩))
    go_ret
    exact ⟨.inr ⟨fun h => by have := h.2.2.2.2.2.1; simp [h6] at this, rfl⟩, (Ext.refl w).alloc _⟩
  · obtain ⟨m, rfl⟩ : ∃ m, n = m + 1 := ⟨n - 1, by omega⟩
    have hn : ¬ (m : Int) + 1 > 16 := by omega
    have hn0 : ¬ (m : Int) + 1 < 1 := by omega
    have hwm := IntWalk.i64_in (m : Int) (by omega)
    go_enter Try.func13, Try.ntmps13
    go_wp2_with (first | (go_at_call_of 29 (Value.int .i64 hit); refine (right_is h5 _).mono ?_; rintro e w' ⟨rfl, rfl⟩) | (go_at_call_of 29 (Value.int .i64 least); refine (right_is h6 _).mono ?_; rintro e w' ⟨rfl, rfl⟩))
    obtain ⟨a, rfl, -⟩ := ht.cell 0 h1
    go_loopw [40] (fun i wr => ∃ k : Nat, k ≤ m + 1 ∧ i = .int .i64 k ∧ Hid (∀ j, j < k → okT (m + 1) up pr j) ∧ wr.cell? ⟨w.heap.size, 0, none⟩ = some (.slice (some a) (m + 1) cap) ∧ w.heap.size < wr.heap.size ∧ Ext w wr) (fun i _ => m + 1 - (intOf i).toNat)
    case atStart => exact ⟨0, by omega, rfl, Lib.hid (fun j hj => by omega), by simp, by simp, (Ext.refl w).alloc _⟩
    case round =>
      obtain ⟨k, hk, rfl, HA, hbx, hbs, hX⟩ := hrel
      by_cases hlt : k < m + 1
      · obtain ⟨a', hp, c1, c2⟩ := ht.cell k hlt
        obtain rfl := Option.some.inj hp
        clear hp
        replace c1 := hX.cell c1
        replace c2 := hX.cell c2
        obtain ⟨u, hu⟩ : ∃ u, u = up k := ⟨_, rfl⟩
        obtain ⟨r, hr⟩ : ∃ r, r = pr k := ⟨_, rfl⟩
        rw [← hu] at c1
        rw [← hr] at c2
        have HU := Lib.hid hu
        have HR := Lib.hid hr
        rcases valid_ways m k u r up hlt with g1 | ⟨g1, g2⟩ | ⟨g1, g2, g3, g4⟩ | ⟨g1, g2, g3, g4⟩ | ⟨g1, g2, g3, g4⟩ | ⟨g1, g2, g3, g4, g5⟩ | ⟨j, g1, g2, g3, g4, g5, g6⟩ | ⟨j, g1, g2, g3, g4, g5, g6⟩
        · clear hu hr
          go_wp2_with (go_at_call_of 29 (Value.int .i64 u); refine (right_is g1 _).mono ?_; rintro e w' ⟨rfl, rfl⟩)
          go_ret
          exact ⟨.inr ⟨fun h => (by have := (h.2.2.2.2.2.2 k hlt).2.1; rw [← HU.out, g1] at this; cases this), rfl⟩, hX.alloc _⟩
        · clear hu hr
          go_wp2_with (first | (go_at_call_of 29 (Value.int .i64 u); refine (right_is g1 _).mono ?_; rintro e w' ⟨rfl, rfl⟩) | (go_at_call_of 29 (Value.int .i64 r); refine (right_is g2 _).mono ?_; rintro e w' ⟨rfl, rfl⟩))
          go_ret
          exact ⟨.inr ⟨fun h => (by have := (h.2.2.2.2.2.2 k hlt).1; rw [← HR.out, g2] at this; cases this), rfl⟩, hX.alloc _⟩
        · clear hu hr
          subst g3
          have g5 : (u != 0) = true := by rw [bne_iff_ne]; exact g4
          have G4 := Lib.hid g4
          clear g4
          go_wp2_with (first | (go_at_call_of 29 (Value.int .i64 u); refine (right_is g1 _).mono ?_; rintro e w' ⟨rfl, rfl⟩) | (go_at_call_of 29 (Value.int .i64 r); refine (right_is g2 _).mono ?_; rintro e w' ⟨rfl, rfl⟩))
          go_quiet (fail)
          go_wp2_with fail
          go_ret
          exact ⟨.inr ⟨fun h => by have := (h.2.2.2.2.2.2 _ hlt).2.2.1 rfl; rw [← HU.out] at this; exact G4.out this, rfl⟩, (hX.alloc _).drewN nq⟩
        · clear hu hr
          subst g3
          subst g4
          rcases Nat.eq_zero_or_pos m with hz | hz
          · have hk0 : decide (0 < m) = false := by simp; omega
            clear hz
            go_wp2_with (first | (go_at_call_of 29 (Value.int .i64 0); refine (right_is g1 _).mono ?_; rintro e w' ⟨rfl, rfl⟩) | (go_at_call_of 29 (Value.int .i64 r); refine (right_is g2 _).mono ?_; rintro e w' ⟨rfl, rfl⟩))
            go_quiet (fail)
            go_wp2_with fail
            go_roundw
            case rel => exact ⟨m + 1, by omega, by go_num, Lib.hid (fun i hi => by
              by_cases hik : i = m
              · subst hik; exact ⟨by rw [← HR.out]; exact g2, by rw [← HU.out]; exact g1, fun _ => HU.out.symm, fun h => by omega⟩
              · exact HA.out i (by omega)), ((Ext.refl wr).alloc _ |>.drewN nq).cell hbx, by simp [World.drewN]; omega, (hX.alloc _).drewN nq⟩
            case measure => simp [intOf]
          · have hk0 : 0 < m := hz
            clear hz
            go_wp2_with (first | (go_at_call_of 29 (Value.int .i64 0); refine (right_is g1 _).mono ?_; rintro e w' ⟨rfl, rfl⟩) | (go_at_call_of 29 (Value.int .i64 r); refine (right_is g2 _).mono ?_; rintro e w' ⟨rfl, rfl⟩))
            go_quiet (fail)
            go_wp2_with fail
            go_roundw
            case rel => exact ⟨m + 1, by omega, by go_num, Lib.hid (fun i hi => by
              by_cases hik : i = m
              · subst hik; exact ⟨by rw [← HR.out]; exact g2, by rw [← HU.out]; exact g1, fun _ => HU.out.symm, fun h => by omega⟩
              · exact HA.out i (by omega)), ((Ext.refl wr).alloc _ |>.drewN nq).cell hbx, by simp [World.drewN]; omega, (hX.alloc _).drewN nq⟩
            case measure => simp [intOf]
        · clear hu hr
          have hq : ((k : Int) == (m : Int)) = false := by simp; omega
          go_wp2_with (first | (go_at_call_of 29 (Value.int .i64 u); refine (right_is g1 _).mono ?_; rintro e w' ⟨rfl, rfl⟩) | (go_at_call_of 29 (Value.int .i64 r); refine (right_is g2 _).mono ?_; rintro e w' ⟨rfl, rfl⟩))
          go_quiet (fail)
          go_wp2_with fail
          go_ret
          exact ⟨.inr ⟨fun h => (by have := (h.2.2.2.2.2.2 _ hlt).2.2.2 (by omega); rw [← HU.out] at this; have hb := bel_nonneg HA.out trivial; omega), rfl⟩, (hX.alloc _).drewN nq⟩
        · clear hu hr
          have hq : ((k : Int) == (m : Int)) = false := by simp; omega
          have hk0 : decide (0 < k) = false := by simp; omega
          have hu0 : decide (u ≤ 0) = false := by simp; omega
          have G5 := Lib.hid g5
          clear g5
          go_wp2_with (first | (go_at_call_of 29 (Value.int .i64 u); refine (right_is g1 _).mono ?_; rintro e w' ⟨rfl, rfl⟩) | (go_at_call_of 29 (Value.int .i64 r); refine (right_is g2 _).mono ?_; rintro e w' ⟨rfl, rfl⟩))
          go_quiet (fail)
          go_wp2_with fail
          go_roundw
          case rel => exact ⟨k + 1, by omega, by go_num, Lib.hid (fun i hi => by
            by_cases hik : i = k
            · subst hik; exact ⟨by rw [← HR.out]; exact g2, by rw [← HU.out]; exact g1, fun h => by omega, fun _ => by rw [← HU.out, G5.out, bel_zero]; exact g4⟩
            · exact HA.out i (by omega)), ((Ext.refl wr).alloc _ |>.drewN nq).cell hbx, by simp [World.drewN]; omega, (hX.alloc _).drewN nq⟩
          case measure => simp [intOf]; omega
        · clear hu hr
          subst g5
          have hq : ((j : Int) + 1 == (m : Int)) = false := by simp; omega
          have hwj := IntWalk.i64_in (j : Int) (by omega)
          have hl : (j : Int) + 1 < (m : Int) := by omega
          have hp0 : (0 : Int) < (j : Int) + 1 := by omega
          have hu0 : decide (u ≤ 0) = false := by simp; omega
          have hjm : (j : Int) < (m : Int) + 1 := by omega
          obtain ⟨a', hp, c3, -⟩ := ht.cell j (by omega)
          obtain rfl := Option.some.inj hp
          clear hp
          replace c3 := ((Ext.refl wr).alloc (.cells #[.int .i64 u, .int .i64 r] 42)).cell (hX.cell c3)
          go_wp2_with (first | (go_at_call_of 29 (Value.int .i64 u); refine (right_is g1 _).mono ?_; rintro e w' ⟨rfl, rfl⟩) | (go_at_call_of 29 (Value.int .i64 r); refine (right_is g2 _).mono ?_; rintro e w' ⟨rfl, rfl⟩))
          go_quiet (fail)
          go_wp2_with fail
          go_ret
          exact ⟨.inr ⟨fun h => by have := (h.2.2.2.2.2.2 _ hlt).2.2.2 (by omega); rw [← HU.out, bel_succ] at this; omega, rfl⟩, (hX.alloc _).drewN nq⟩
        · clear hu hr
          subst g5
          have hq : ((j : Int) + 1 == (m : Int)) = false := by simp; omega
          have hwj := IntWalk.i64_in (j : Int) (by omega)
          have hl : (j : Int) + 1 < (m : Int) := by omega
          have hp0 : (0 : Int) < (j : Int) + 1 := by omega
          have hu0 : decide (u ≤ 0) = false := by simp; omega
          have hjm : (j : Int) < (m : Int) + 1 := by omega
          obtain ⟨a', hp, c3, -⟩ := ht.cell j (by omega)
          obtain rfl := Option.some.inj hp
          clear hp
          replace c3 := ((Ext.refl wr).alloc (.cells #[.int .i64 u, .int .i64 r] 42)).cell (hX.cell c3)
          have g6' : ¬ u ≤ up j := by omega
          go_wp2_with (first | (go_at_call_of 29 (Value.int .i64 u); refine (right_is g1 _).mono ?_; rintro e w' ⟨rfl, rfl⟩) | (go_at_call_of 29 (Value.int .i64 r); refine (right_is g2 _).mono ?_; rintro e w' ⟨rfl, rfl⟩))
          go_quiet (fail)
          go_wp2_with fail
          go_roundw
          case rel => exact ⟨(j + 1) + 1, by omega, by go_num, Lib.hid (fun i hi => by
            by_cases hik : i = (j + 1)
            · subst hik; exact ⟨by rw [← HR.out]; exact g2, by rw [← HU.out]; exact g1, fun h => by omega, fun _ => by rw [← HU.out, bel_succ]; exact g6⟩
            · exact HA.out i (by omega)), ((Ext.refl wr).alloc _ |>.drewN nq).cell hbx, by simp [World.drewN]; omega, (hX.alloc _).drewN nq⟩
          case measure => simp [intOf]; omega
      · have g3' : m + 1 = k := by omega
        subst g3'
        go_wp2_with fail
        go_ret
        exact ⟨.inl ⟨⟨h1, h2, h3, h4, h5, h6, HA.out⟩, rfl⟩, hX⟩
end Go.Proofs.Ytepcnpnpjfdfmaa
