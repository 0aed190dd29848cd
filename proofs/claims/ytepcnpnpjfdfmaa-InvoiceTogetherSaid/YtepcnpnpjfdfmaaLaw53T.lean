/- The law InvoiceTogether, walked. -/
import Derived.Test.YtepcnpnpjfdfmaaLaw53G
import Derived.Deep.RegionHeld3
import Derived.Deep.DrawnRows
import Derived.Deep.DeepCutAuto
namespace Go.Proofs.Ytepcnpnpjfdfmaa
open Go.RowKit
attribute [local go_sem ↓] Go.wp_at_zero Go.wp_at_succ

def Falls (n : Nat) (pr : Nat → Int) : Prop := ∀ k, k + 1 < n → pr (k + 1) ≤ pr k
def FallPost (n : Nat) (pr : Nat → Int) (e : Ending) : Prop := (Falls n pr ∧ e = .returned (.bool true)) ∨ (¬ Falls n pr ∧ e = .returned (.bool false))

set_option maxHeartbeats 2000000 in
theorem falling_any (w : World) (p : Option Addr) (n cap : Nat) (unit hit least : Int) (up pr : Nat → Int) (ht : Tar w p n cap up pr) :
    Calls Try.prog 20 #[tarV p n cap unit hit least] w fun e w' => FallPost n pr e ∧ Ext w w' := by
  have hx := ht.le
  have hm := ht.lim
  obtain ⟨v0, hv0⟩ : ∃ v, v = w.alloc (.cells #[.slice p n cap, .int .i64 unit, .int .i64 hit, .int .i64 least] 24) := ⟨_, rfl⟩
  have q0 : v0.cell? ⟨w.heap.size, 0, none⟩ = some (.slice p n cap) := by rw [hv0]; simp
  have hwv : Ext w v0 := by rw [hv0]; exact (Ext.refl w).alloc _
  have HV := Lib.hid hv0
  clear hv0
  go_enter Try.func20, Try.ntmps20
  go_wp2_with fail
  rw [← HV.out]
  go_loopw [3] (fun i wr => ∃ k : Nat, (k ≤ n ∨ n = 0) ∧ k ≤ n + 1 ∧ i = .int .i64 ((k : Int) + 1) ∧ Hid (∀ j, j < k → j + 1 < n → pr (j + 1) ≤ pr j) ∧ Ext v0 wr) (fun i _ => (n + 1 - intOf i).toNat)
  case atStart => exact ⟨0, by omega, by omega, rfl, Lib.hid (fun j hj => by omega), Ext.refl _⟩
  case round =>
    obtain ⟨k, hk0, hk, rfl, HI, hX⟩ := hrel
    have r0 := hX.cell q0
    by_cases hlt : k + 1 < n
    · obtain ⟨a, hp, -, c1⟩ := ht.cell k (by omega)
      obtain ⟨a', hp', -, c2⟩ := ht.cell (k + 1) hlt
      subst hp
      obtain rfl := Option.some.inj hp'
      clear hp'
      replace c1 := (hwv.trans hX).cell c1
      replace c2 := (hwv.trans hX).cell c2
      obtain ⟨x, hx1⟩ : ∃ x, x = pr k := ⟨_, rfl⟩
      obtain ⟨y, hy1⟩ : ∃ y, y = pr (k + 1) := ⟨_, rfl⟩
      rw [← hx1] at c1
      rw [← hy1] at c2
      have HX := Lib.hid hx1
      have HY := Lib.hid hy1
      clear hx1 hy1
      have i1 : (k : Int) + 1 < (n : Int) := by omega
      have i2 : (k : Int) < (n : Int) := by omega
      have i3 : k < n := by omega
      have i4 : (0 : Int) ≤ (k : Int) + 1 := by omega
      have i5 : ((k : Int) + 1).toNat = k + 1 := by omega
      have hw1 := IntWalk.i64_in (k : Int) (by omega)
      by_cases hgt : y > x
      · go_wp2_with fail
        go_quiet (fail)
        go_wp2_with fail
        go_ret
        exact ⟨.inr ⟨fun h => by have := h k hlt; rw [← HX.out, ← HY.out] at this; omega, rfl⟩, hwv.trans (hX.drewN nq)⟩
      · go_wp2_with fail
        go_quiet (fail)
        go_wp2_with fail
        go_roundw
        case rel => exact ⟨k + 1, by omega, by omega, by go_num, Lib.hid (fun j hj h2 => by
          by_cases e : j = k
          · subst e; rw [← HX.out, ← HY.out]; omega
          · exact HI.out j (by omega) h2), hX.drewN nq⟩
        case measure => simp [intOf]; omega
    · have i1 : ¬ (k : Int) + 1 < (n : Int) := by omega
      go_wp2_with fail
      go_ret
      exact ⟨.inl ⟨fun j hj => HI.out j (by omega) hj, rfl⟩, hwv.trans hX⟩

theorem chg_bd {n : Nat} {unit hit least : Int} {up pr : Nat → Int} {h b c code : Int} (g : ChgP n unit hit least up pr h b c code) : 0 ≤ c ∧ c ≤ 1125899906842624 := by
  unfold ChgP at g
  rcases g with ⟨-, rfl, -⟩ | ⟨-, -, rfl, -⟩ | ⟨-, -, -, rfl, -⟩ | ⟨-, -, -, -, -, rfl, -⟩ | ⟨hk, -, -, -, h1, rfl, -⟩
  · omega
  · omega
  · omega
  · omega
  · have := okB_yes hk.2.2.2.2.2.1
    omega

set_option maxRecDepth 100000 in
set_option maxHeartbeats 8000000 in
theorem together_main (w : World) (p : Option Addr) (n cap : Nat) (unit hit least : Int) (up pr : Nat → Int) (ht : Tar w p n cap up pr) (hn : n ≤ 100) (hf : Falls n pr) (a0 a1 b0 b1 : Int) :
    Calls Try.prog 7 #[tarV p n cap unit hit least, .agg #[.int .i64 a0, .int .i64 a1], .agg #[.int .i64 b0, .int .i64 b1]] w fun e w' => e = .returned (.bool true) ∧ Ext w w' := by
  have hx := ht.le
  have hm := ht.lim
  have hn' : ¬ (n : Int) > 100 := by omega
  obtain ⟨v0, hv0⟩ : ∃ v, v = w.alloc (.cells #[.slice p n cap, .int .i64 unit, .int .i64 hit, .int .i64 least] 24) := ⟨_, rfl⟩
  have q0 : v0.cell? ⟨w.heap.size, 0, none⟩ = some (.slice p n cap) := by rw [hv0]; simp
  have q1 : v0.cell? ⟨w.heap.size, 1, none⟩ = some (.int .i64 unit) := by rw [hv0]; simp
  have q2 : v0.cell? ⟨w.heap.size, 2, none⟩ = some (.int .i64 hit) := by rw [hv0]; simp
  have q3 : v0.cell? ⟨w.heap.size, 3, none⟩ = some (.int .i64 least) := by rw [hv0]; simp
  have hz0 : v0.heap.size = w.heap.size + 1 := by rw [hv0]; simp
  have hwv : Ext w v0 := by rw [hv0]; exact (Ext.refl w).alloc _
  obtain ⟨v1, hv1⟩ : ∃ v, v = (v0.alloc (.cells #[.int .i64 a0, .int .i64 a1] 45)).alloc (.cells #[.int .i64 b0, .int .i64 b1] 45) := ⟨_, rfl⟩
  have R1 : RowB v1 (w.heap.size + 1) 45 [.int .i64 a0, .int .i64 a1] := by rw [hv1]; exact (RowB.laid_at (xs := [.int .i64 a0, .int .i64 a1]) hz0).ext ((Ext.refl _).alloc _)
  have R2 : RowB v1 (w.heap.size + 1 + 1) 45 [.int .i64 b0, .int .i64 b1] := by rw [hv1]; exact RowB.laid_at (xs := [.int .i64 b0, .int .i64 b1]) (by simp [hz0])
  have hv01 : Ext v0 v1 := by rw [hv1]; exact ((Ext.refl _).alloc _).alloc _
  rw [hv0] at hv1
  have HV := Lib.hid hv1
  have HZ0 := Lib.hid hz0
  clear hv0 hv1 hz0
  obtain ⟨A0, hA0⟩ : ∃ h, max 0 (min a0 549755813888) = h := ⟨_, rfl⟩
  obtain ⟨A1, hA1⟩ : ∃ h, max 0 (min a1 549755813888) = h := ⟨_, rfl⟩
  obtain ⟨B0, hB0⟩ : ∃ h, max 0 (min b0 549755813888) = h := ⟨_, rfl⟩
  obtain ⟨B1, hB1⟩ : ∃ h, max 0 (min b1 549755813888) = h := ⟨_, rfl⟩
  have BD := Lib.hid (show (0 ≤ A0 ∧ A0 ≤ 549755813888) ∧ (0 ≤ A1 ∧ A1 ≤ 549755813888) ∧ (0 ≤ B0 ∧ B0 ≤ 549755813888) ∧ (0 ≤ B1 ∧ B1 ≤ 549755813888) by omega)
  have EA0 := Lib.hid hA0
  have EA1 := Lib.hid hA1
  have EB0 := Lib.hid hB0
  have EB1 := Lib.hid hB1
  have HF := Lib.hid hf
  have HT := Lib.hid ht
  clear hA0 hA1 hB0 hB1 hf ht
  go_enter Try.func7, Try.ntmps7
  go_wp2_with fail
  rw [← HV.out]
  refine (falling_any _ _ _ _ _ _ _ _ _ (HT.out.ext (hwv.trans hv01))).mono ?_
  rintro e w1 ⟨hP, h1⟩
  rcases hP with ⟨-, rfl⟩ | ⟨h, -⟩
  case inr => exact absurd HF.out h
  go_wp2_with fail
  refine (awake_any _).mono ?_
  rintro e w2 ⟨rfl, h2⟩
  have X2 : Ext v1 w2 := h1.trans h2
  have S1 := R1.ext X2
  have S2 := R2.ext X2
  go_wp2_with fail
  have hz1 : v0.heap.size ≤ w.heap.size + 1 := Nat.le_of_eq HZ0.out
  have hz2 : v0.heap.size ≤ w.heap.size + 1 + 1 := by omega
  go_loopw [28] (fun s28 wr => ∃ (k : Int) (y0 y1 z0 z1 : Int), (k = 0 ∧ y0 = a0 ∧ y1 = a1 ∧ z0 = b0 ∧ z1 = b1 ∨ k = 1 ∧ y0 = A0 ∧ y1 = a1 ∧ z0 = B0 ∧ z1 = b1 ∨ k = 2 ∧ y0 = A0 ∧ y1 = A1 ∧ z0 = B0 ∧ z1 = B1) ∧ s28 = .int .i64 k ∧
    RowB wr (w.heap.size + 1) 45 [.int .i64 y0, .int .i64 y1] ∧ RowB wr (w.heap.size + 1 + 1) 45 [.int .i64 z0, .int .i64 z1] ∧ Ext v0 wr) (fun i _ => (2 - intOf i).toNat)
  case atStart => exact ⟨0, a0, a1, b0, b1, .inl ⟨rfl, rfl, rfl, rfl, rfl⟩, rfl, S1, S2, hv01.trans X2⟩
  case round =>
    obtain ⟨k, y0, y1, z0, z1, hk, rfl, Z1, Z2, X3⟩ := hrel
    rcases hk with ⟨rfl, rfl, rfl, rfl, rfl⟩ | ⟨rfl, rfl, rfl, rfl, rfl⟩ | ⟨rfl, rfl, rfl, rfl, rfl⟩
    · have e1 := Z1.cell (j := 0) rfl
      have e2 := Z2.cell (j := 0) rfl
      have e3 := Z1.frozen (j := 0) (by simp)
      have e4 := Z2.frozen (j := 0) (by simp)
      go_wp2_with fail
      go_region_with (first
        | (go_at_call_of 19 (Value.int .i64 y0); refine (clip_is EA0.out _).mono ?_; rintro e w' ⟨rfl, rfl⟩)
        | (go_at_call_of 19 (Value.int .i64 z0); refine (clip_is EB0.out _).mono ?_; rintro e w' ⟨rfl, rfl⟩))
      all_goals go_wp2_with fail
      all_goals go_roundw
      all_goals first
        | exact ⟨1, A0, _, B0, _, .inr (.inl ⟨rfl, rfl, rfl, rfl, rfl⟩), rfl, ((Z1.set 0 _ (by simp)).other (by omega) 0 _).ext ((Ext.refl _).drew), ((Z2.other (by omega) 0 _).set 0 _ (by simp)).ext ((Ext.refl _).drew), ((X3.setCell hz1 _).setCell hz2 _).drew⟩
        | simp [intOf]
    · have e1 := Z1.cell (j := 1) rfl
      have e2 := Z2.cell (j := 1) rfl
      have e3 := Z1.frozen (j := 1) (by simp)
      have e4 := Z2.frozen (j := 1) (by simp)
      go_wp2_with fail
      go_region_with (first
        | (go_at_call_of 19 (Value.int .i64 y1); refine (clip_is EA1.out _).mono ?_; rintro e w' ⟨rfl, rfl⟩)
        | (go_at_call_of 19 (Value.int .i64 z1); refine (clip_is EB1.out _).mono ?_; rintro e w' ⟨rfl, rfl⟩))
      all_goals go_wp2_with fail
      all_goals go_roundw
      all_goals first
        | exact ⟨2, _, A1, _, B1, .inr (.inr ⟨rfl, rfl, rfl, rfl, rfl⟩), rfl, ((Z1.set 1 _ (by simp)).other (by omega) 1 _).ext ((Ext.refl _).drew), ((Z2.other (by omega) 1 _).set 1 _ (by simp)).ext ((Ext.refl _).drew), ((X3.setCell hz1 _).setCell hz2 _).drew⟩
        | simp [intOf]
    have U1 := Z1
    have U2 := Z2
    have X4 := X3
    have c0 := X4.cell q0
    have c1 := X4.cell q1
    have c2 := X4.cell q2
    have c3 := X4.cell q3
    have d0 := U1.cell (j := 0) rfl
    have d1 := U1.cell (j := 1) rfl
    go_wp2_with fail
    refine (charge_two _ _ _ _ _ _ _ _ _ (HT.out.ext (hwv.trans X4)) y0 y1).mono ?_
    rintro e w5 ⟨hP, h5⟩
    have Y5 : Ext v0 w5 := X4.trans h5
    have V1 := U1.ext h5
    have V2 := U2.ext h5
    clear c0 c1 c2 c3 d0 d1
    have c0 := Y5.cell q0
    have c1 := Y5.cell q1
    have c2 := Y5.cell q2
    have c3 := Y5.cell q3
    have d0 := V2.cell (j := 0) rfl
    have d1 := V2.cell (j := 1) rfl
    rcases hP with ⟨c, hc, rfl⟩ | ⟨code, h0, hc, rfl⟩
    all_goals
      have HC := Lib.hid hc
      clear hc
      go_wp2_with fail
      refine (charge_two _ _ _ _ _ _ _ _ _ (HT.out.ext (hwv.trans Y5)) z0 z1).mono ?_
      rintro e w6 ⟨hP, h6⟩
      have Y6 : Ext v0 w6 := Y5.trans h6
      have W1 := V1.ext h6
      have W2 := V2.ext h6
      clear c0 c1 c2 c3 d0 d1
      have c0 := Y6.cell q0
      have c1 := Y6.cell q1
      have c2 := Y6.cell q2
      have c3 := Y6.cell q3
      have d0 := W1.cell (j := 0) rfl
      have d1 := W1.cell (j := 1) rfl
      have d2 := W2.cell (j := 0) rfl
      have d3 := W2.cell (j := 1) rfl
      obtain ⟨⟨bd1, bd2⟩, ⟨bd3, bd4⟩, ⟨bd5, bd6⟩, ⟨bd7, bd8⟩⟩ := BD.out
      have hs1 := IntWalk.i64_in (y0 + z0) (by omega)
      rcases hP with ⟨d, hd, rfl⟩ | ⟨code', h0', hd, rfl⟩
      all_goals
        have HD := Lib.hid hd
        clear hd
        go_wp2_with fail
        refine (charge_two _ _ _ _ _ _ _ _ _ (HT.out.ext (hwv.trans Y6)) (y0 + z0) (y1 + z1)).mono ?_
        rintro e w7 ⟨hP, h7⟩
        clear hs1 bd2 bd4 bd6 bd8
    · rcases hP with ⟨t, htt, rfl⟩ | ⟨code'', h0'', htt, rfl⟩
      · have hle := chg_together HF.out BD.out.1.1 BD.out.2.1.1 BD.out.2.2.1.1 BD.out.2.2.2.1 HC.out HD.out htt rfl rfl rfl
        have hcb : 0 ≤ c ∧ c ≤ 1125899906842624 := chg_bd HC.out
        have hdb : 0 ≤ d ∧ d ≤ 1125899906842624 := chg_bd HD.out
        clear htt
        go_wp2_with fail
        go_ret
        exact ⟨rfl, hwv.trans (Y6.trans h7)⟩
      · clear htt
        go_wp2_with fail
        go_ret
        exact ⟨rfl, hwv.trans (Y6.trans h7)⟩
    all_goals
      rcases hP with ⟨t, htt, rfl⟩ | ⟨code'', h0'', htt, rfl⟩
      all_goals
        clear htt
        go_wp2_with fail
        go_ret
        exact ⟨rfl, hwv.trans (Y6.trans h7)⟩


set_option maxHeartbeats 1000000 in
theorem together_law (w : World) (p : Option Addr) (n cap : Nat) (unit hit least : Int) (up pr : Nat → Int) (ht : Tar w p n cap up pr) (a0 a1 b0 b1 : Int) :
    Calls Try.prog 7 #[tarV p n cap unit hit least, .agg #[.int .i64 a0, .int .i64 a1], .agg #[.int .i64 b0, .int .i64 b1]] w fun e w' => e = .returned (.bool true) ∧ Ext w w' := by
  have hx := ht.le
  have hm := ht.lim
  rcases Nat.lt_or_ge 100 n with hn | hn
  · have hn' : (n : Int) > 100 := by omega
    go_enter Try.func7, Try.ntmps7
    go_wp2_with fail
    refine (awake_any _).mono ?_
    rintro e w1 ⟨rfl, h1⟩
    go_wp2_with fail
    go_ret
    exact ⟨rfl, ((((Ext.refl w).alloc _).alloc _).alloc _).trans h1⟩
  · by_cases hf : Falls n pr
    · exact together_main w p n cap unit hit least up pr ht hn hf a0 a1 b0 b1
    · have hn' : ¬ (n : Int) > 100 := by omega
      have HF := Lib.hid hf
      clear hf
      go_enter Try.func7, Try.ntmps7
      go_wp2_with fail
      refine (falling_any _ _ _ _ _ _ _ _ _ (ht.ext ((((Ext.refl w).alloc _).alloc _).alloc _))).mono ?_
      rintro e w1 ⟨hP, h1⟩
      rcases hP with ⟨h, -⟩ | ⟨-, rfl⟩
      case inl => exact absurd h HF.out
      go_wp2_with fail
      refine (awake_any _).mono ?_
      rintro e w2 ⟨rfl, h2⟩
      go_wp2_with fail
      go_ret
      exact ⟨rfl, (((((Ext.refl w).alloc _).alloc _).alloc _).trans h1).trans h2⟩
end Go.Proofs.Ytepcnpnpjfdfmaa
