/- The law InvoiceExact, walked. -/
import Derived.Test.YtepcnpnpjfdfmaaLaw53G
namespace Go.Proofs.Ytepcnpnpjfdfmaa
open Go.RowKit

set_option maxHeartbeats 1000000 in
theorem up_any (a b : Nat) (w : World) (hb : 1 ≤ b) (ha : a ≤ 1152921504606846976) (hb2 : b ≤ 1099511627776) :
    Calls Try.prog 18 #[.int .i64 a, .int .i64 b] w fun e w' => e = .returned (.int .i64 (ceilD a b : Nat)) ∧ w = w' := by
  obtain ⟨q, hq⟩ : ∃ q : Nat, q = a / b := ⟨_, rfl⟩
  have hd : (a : Int) / (b : Int) = (q : Int) := by rw [hq]; exact (Int.natCast_ediv _ _).symm
  have hdm := Nat.div_add_mod a b
  have hmm := Nat.mod_lt a hb
  rw [← hq] at hdm
  have hqa : q ≤ a := by rw [hq]; exact Nat.div_le_self _ _
  obtain ⟨m, hm⟩ : ∃ m : Nat, m = b * q := ⟨_, rfl⟩
  have hmul : (q : Int) * (b : Int) = (m : Int) := by rw [hm, Nat.mul_comm]; simp
  rw [← hm] at hdm
  have hma : m ≤ a := by omega
  have hc1 : m < a → ceilD a b = q + 1 := fun h => by
    have h1 := ceil_iff (a := a) (n := b) (q := q + 1) hb
    have h2 := ceil_iff (a := a) (n := b) (q := q) hb
    rw [Nat.add_mul, Nat.one_mul, Nat.mul_comm q b, ← hm] at h1
    rw [Nat.mul_comm q b, ← hm] at h2
    omega
  have hc0 : m = a → ceilD a b = q := fun h => by
    have h1 := ceil_iff (a := a) (n := b) (q := q) hb
    rw [Nat.mul_comm q b, ← hm] at h1
    have h3 := Nat.eq_zero_or_pos q
    rcases h3 with h3 | h3
    · omega
    · obtain ⟨q', rfl⟩ : ∃ q', q = q' + 1 := ⟨q - 1, by omega⟩
      have h2 := ceil_iff (a := a) (n := b) (q := q') hb
      rw [Nat.mul_add, Nat.mul_one] at hm
      rw [Nat.mul_comm q' b] at h2
      omega
  have HC1 := Lib.hid hc1
  have HC0 := Lib.hid hc0
  have hb1 : (1 : Int) ≤ (b : Int) := by omega
  clear hq hdm hmm hm hc1 hc0
  rcases Nat.lt_or_ge m a with hlt | hge
  · have hl : (m : Int) < (a : Int) := by omega
    have HL := Lib.hid hlt
    clear hlt
    go_enter Try.func18, Try.ntmps18
    go_wp2_with fail
    go_ret
    exact ⟨ret_int (by rw [HC1.out HL.out]; simp), rfl⟩
  · have hl : ¬ (m : Int) < (a : Int) := by omega
    have HL := Lib.hid (show m = a by omega)
    clear hge
    go_enter Try.func18, Try.ntmps18
    go_wp2_with fail
    go_ret
    exact ⟨ret_int (by rw [HC0.out HL.out]), rfl⟩

theorem chg_exact {P H U X Y : Nat} (hP : P ≤ 4294967295) (hH : H ≤ 4294967295) (hU1 : 1 ≤ U) (hU : U ≤ 200) (hX : X ≤ 65535) (hY : Y ≤ 65535) {c code : Int}
    (g : ChgP 1 U H 0 (fun _ => 0) (fun _ => (P : Int)) X Y c code) : c = (ceilD (P * Y + H * X * U) (U * 1000000) : Nat) ∧ code = 0 := by
  have hk : okTar 1 U H 0 (fun _ => 0) (fun _ => (P : Int)) := by
    refine ⟨by omega, by omega, by omega, by omega, ?_, rfl, fun k hk => ?_⟩
    · unfold okB; simp only [decide_eq_true_eq]; omega
    · refine ⟨?_, rfl, fun _ => rfl, fun h => by omega⟩
      unfold okB; simp only [decide_eq_true_eq]; omega
  have hcost : cost 1 U H (fun _ => 0) (fun _ => (P : Int)) (max X 0) (max Y 0) = P * Y + H * X * U := by
    have e1 : max (X : Int) 0 = X := by omega
    have e2 : max (Y : Int) 0 = Y := by omega
    have e3 : ins 1 (fun _ => 0) 0 (Y : Int) = Y := by unfold ins bel; simp
    rw [e1, e2]
    unfold cost
    show _ + (0 + (P : Int).toNat * (ins 1 (fun _ => 0) 0 (Y : Int)).toNat) = _
    rw [e3]
    simp only [Int.toNat_natCast]
    omega
  have hb1 : P * Y ≤ 4294967295 * 65535 := Nat.mul_le_mul hP hY
  have hb2 : H * X * U ≤ 4294967295 * 65535 * U := Nat.mul_le_mul_right U (Nat.mul_le_mul hH hX)
  have hc : ceilD (P * Y + H * X * U) (U * 1000000) ≤ 1125899906842624 := (ceil_iff (by omega)).2 (by omega)
  have h0 : X = 0 → Y = 0 → ceilD (P * Y + H * X * U) (U * 1000000) = 0 := by
    rintro rfl rfl
    rw [Nat.mul_zero, Nat.mul_zero, Nat.zero_mul]
    exact ceil_zero (by omega)
  unfold ChgP at g
  rw [hcost, Int.toNat_natCast] at g
  clear hb1 hb2 hcost
  simp only [hk, not_true, false_and, true_and, false_or] at g
  generalize ceilD (P * Y + H * X * U) (U * 1000000) = C at *
  omega

set_option maxRecDepth 100000 in
set_option maxHeartbeats 4000000 in
theorem exact_law (w : World) (P H : Nat) (k : Nat) (X Y : Nat) (hP : P ≤ 4294967295) (hH : H ≤ 4294967295) (hk : k ≤ 255) (hX : X ≤ 65535) (hY : Y ≤ 65535) :
    Calls Try.prog 5 #[.int .u32 P, .int .u32 H, .int .u8 k, .agg #[.int .u16 X, .int .u16 Y]] w fun e w' => e = .returned (.bool true) ∧ Ext w w' := by
  obtain ⟨U, hU⟩ : ∃ U : Nat, (k : Int) % 200 + 1 = (U : Int) := ⟨k % 200 + 1, by omega⟩
  have hU1 : (1 : Int) ≤ (U : Int) := by omega
  have hU2 : (U : Int) ≤ 200 := by omega
  obtain ⟨PY, hPY⟩ : ∃ n : Nat, n = P * Y := ⟨_, rfl⟩
  obtain ⟨HX, hHX⟩ : ∃ n : Nat, n = H * X := ⟨_, rfl⟩
  obtain ⟨HXU, hHXU⟩ : ∃ n : Nat, n = HX * U := ⟨_, rfl⟩
  have e1 : (P : Int) * (Y : Int) = (PY : Int) := by rw [hPY]; simp
  have e2 : (H : Int) * (X : Int) = (HX : Int) := by rw [hHX]; simp
  have e3 : (HX : Int) * (U : Int) = (HXU : Int) := by rw [hHXU]; simp
  have b1 : PY ≤ 4294967295 * 65535 := by rw [hPY]; exact Nat.mul_le_mul hP hY
  have b2 : HX ≤ 4294967295 * 65535 := by rw [hHX]; exact Nat.mul_le_mul hH hX
  have b3 : HXU ≤ 4294967295 * 65535 * 200 := by rw [hHXU]; exact Nat.mul_le_mul b2 (by omega)
  have b1' : (PY : Int) ≤ 281470681677825 := by omega
  have b2' : (HX : Int) ≤ 281470681677825 := by omega
  have b3' : (HXU : Int) ≤ 56294136335565000 := by omega
  have E := Lib.hid (And.intro hPY (And.intro hHX hHXU))
  have B := Lib.hid (And.intro hP (And.intro hH (And.intro hX hY)))
  have B3 := Lib.hid (And.intro b1 (And.intro b2 b3))
  obtain ⟨M, hM⟩ : ∃ n : Nat, n = PY + HXU := ⟨_, rfl⟩
  obtain ⟨D, hD⟩ : ∃ n : Nat, n = U * 1000000 := ⟨_, rfl⟩
  have e4 : (PY : Int) + (HXU : Int) = (M : Int) := by rw [hM]; simp
  have e5 : (U : Int) * 1000000 = (D : Int) := by rw [hD]; simp
  have EM := Lib.hid hM
  have ED := Lib.hid hD
  have b4 : (D : Int) ≤ 200000000 := by omega
  have BM : Hid (M ≤ 1152921504606846976) := Lib.hid (by omega)
  have BD : Hid (1 ≤ D ∧ D ≤ 1099511627776) := Lib.hid (by omega)
  have UB : Hid (1 ≤ U ∧ U ≤ 200) := Lib.hid (by omega)
  clear hM hD
  have u0 : (X : Int) ≤ 65535 := by omega
  have u1 : (Y : Int) ≤ 65535 := by omega
  have u2 : (P : Int) ≤ 4294967295 := by omega
  have u3 : (H : Int) ≤ 4294967295 := by omega
  have u4 : (k : Int) ≤ 255 := by omega
  clear hPY hHX hHXU b1 b2 b3 hP hH hX hY hk
  go_enter Try.func5, Try.ntmps5
  go_wp2_with fail
  refine (awake_any _).mono ?_
  rintro e w1 ⟨rfl, h1⟩
  have r0 := h1.cell (p := ⟨w.heap.size, 0, none⟩) (v := .int .u16 X) (by simp)
  have r1 := h1.cell (p := ⟨w.heap.size, 1, none⟩) (v := .int .u16 Y) (by simp)
  have hs1 : w.heap.size < w1.heap.size := World.block_lt_of_cell? w1 _ r0
  go_wp2_with fail
  go_quiet (fail)
  go_wp2_with fail
  have hxx : Ext w ((w1.alloc (.cells #[.int .i64 0, .int .i64 (P : Int)] 42)).alloc (.cells #[.slice (some ⟨w1.heap.size, 0, none⟩) 1 1, .int .i64 U, .int .i64 H, .int .i64 0] 24)) := ((((Ext.refl w).alloc _).trans h1).alloc _).alloc _
  have ht : Tar ((w1.alloc (.cells #[.int .i64 0, .int .i64 (P : Int)] 42)).alloc (.cells #[.slice (some ⟨w1.heap.size, 0, none⟩) 1 1, .int .i64 U, .int .i64 H, .int .i64 0] 24)) (some ⟨w1.heap.size, 0, none⟩) 1 1 (fun _ => 0) (fun _ => (P : Int)) := by
    refine Tar.of_block 1 _ _ (by omega) (by omega) (fun i hi => ?_)
    obtain rfl : i = 0 := by omega
    have hr := (RowB.laid w1 42 [.int .i64 0, .int .i64 (P : Int)]).ext ((Ext.refl _).alloc (.cells #[.slice (some ⟨w1.heap.size, 0, none⟩) 1 1, .int .i64 U, .int .i64 H, .int .i64 0] 24))
    exact ⟨hr.cell rfl, hr.cell rfl⟩
  refine (charge_any _ _ 1 1 U H 0 (fun _ => 0) (fun _ => (P : Int)) (ht.ext ((Ext.refl _).drewN nq)) X Y).mono ?_
  rintro e w2 ⟨⟨c, code, hc, rfl⟩, h2⟩
  obtain ⟨rfl, rfl⟩ := chg_exact B.out.1 B.out.2.1 UB.out.1 UB.out.2 B.out.2.2.1 B.out.2.2.2 hc
  clear hc ht
  have hcd : ceilD (P * Y + H * X * U) (U * 1000000) = ceilD M D := by rw [EM.out, ED.out, E.out.1, E.out.2.2, E.out.2.1]
  rw [hcd, show errOf 0 = Value.nilIface from rfl]
  have HCD := Lib.hid hcd
  clear hcd
  go_wp2_with (go_at_call 18; refine (up_any M D _ BD.out.1 BM.out BD.out.2).mono ?_; rintro e w' ⟨rfl, rfl⟩)
  go_ret
  exact ⟨ret_bool (by simp), (hxx.drewN nq).trans h2⟩

theorem exact_int (w : World) (P H k X Y : Int) (hP : 0 ≤ P ∧ P ≤ 4294967295) (hH : 0 ≤ H ∧ H ≤ 4294967295) (hk : 0 ≤ k ∧ k ≤ 255) (hX : 0 ≤ X ∧ X ≤ 65535) (hY : 0 ≤ Y ∧ Y ≤ 65535) :
    Calls Try.prog 5 #[.int .u32 P, .int .u32 H, .int .u8 k, .agg #[.int .u16 X, .int .u16 Y]] w fun e w' => e = .returned (.bool true) ∧ Ext w w' := by
  have h := exact_law w P.toNat H.toNat k.toNat X.toNat Y.toNat (by omega) (by omega) (by omega) (by omega) (by omega)
  rwa [Int.toNat_of_nonneg hP.1, Int.toNat_of_nonneg hH.1, Int.toNat_of_nonneg hk.1, Int.toNat_of_nonneg hX.1, Int.toNat_of_nonneg hY.1] at h
end Go.Proofs.Ytepcnpnpjfdfmaa
