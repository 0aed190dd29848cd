/- The laws InvoiceGrows and InvoiceExact, walked. -/
import Derived.Test.YtepcnpnpjfdfmaaLaw53
namespace Go.Proofs.Ytepcnpnpjfdfmaa
open Go.RowKit

theorem clip_is {n a b h : Int} (hh : max a (min n b) = h) (w : World) : Calls Try.prog 19 #[.int .i64 n, .int .i64 a, .int .i64 b] w fun e w' => e = .returned (.int .i64 h) ∧ w = w' := by
  subst hh
  exact clip_any n a b w
theorem Calls.quiet_eq {P : Program} {f : FuncId} {args : Array Value} {w : World} {n : Nat} {v : Value}
    (h : Calls P f args (w.drewN n) fun e w' => e = .returned v ∧ w.drewN n = w') : Calls P f args (w.drewN n) fun e w'' => e = .returned v ∧ ∃ m, w'' = w.drewN m :=
  h.mono fun _ _ ⟨he, hm⟩ => ⟨he, n, hm.symm⟩

set_option maxRecDepth 100000 in
set_option maxHeartbeats 4000000 in
theorem grows_law (w : World) (p : Option Addr) (n cap : Nat) (unit hit least : Int) (up pr : Nat → Int) (ht : Tar w p n cap up pr) (x0 x1 m0 m1 : Int) (hm0 : 0 ≤ m0) (hm1 : 0 ≤ m1) (hn0 : m0 ≤ 4294967295) (hn1 : m1 ≤ 4294967295) :
    Calls Try.prog 6 #[tarV p n cap unit hit least, .agg #[.int .i64 x0, .int .i64 x1], .agg #[.int .u32 m0, .int .u32 m1]] w fun e w' => e = .returned (.bool true) ∧ Ext w w' := by
  have hx := ht.le
  have hm := ht.lim
  rcases Nat.lt_or_ge 100 n with hn | hn
  · have hn' : (n : Int) > 100 := by omega
    go_enter Try.func6, Try.ntmps6
    go_wp2_with fail
    refine (awake_any _).mono ?_
    rintro e w1 ⟨rfl, h1⟩
    go_wp2_with fail
    go_ret
    exact ⟨rfl, ((((Ext.refl w).alloc _).alloc _).alloc _).trans h1⟩
  · have hn' : ¬ (n : Int) > 100 := by omega
    obtain ⟨v0, hv0⟩ : ∃ v, v = ((w.alloc (.cells #[.slice p n cap, .int .i64 unit, .int .i64 hit, .int .i64 least] 24)).alloc (.cells #[.int .i64 x0, .int .i64 x1] 45)).alloc (.cells #[.int .u32 m0, .int .u32 m1] 46) := ⟨_, rfl⟩
    have q0 : v0.cell? ⟨w.heap.size, 0, none⟩ = some (.slice p n cap) := by rw [hv0]; exact (((Ext.refl _).alloc _).alloc _).cell (by simp)
    have q1 : v0.cell? ⟨w.heap.size, 1, none⟩ = some (.int .i64 unit) := by rw [hv0]; exact (((Ext.refl _).alloc _).alloc _).cell (by simp)
    have q2 : v0.cell? ⟨w.heap.size, 2, none⟩ = some (.int .i64 hit) := by rw [hv0]; exact (((Ext.refl _).alloc _).alloc _).cell (by simp)
    have q3 : v0.cell? ⟨w.heap.size, 3, none⟩ = some (.int .i64 least) := by rw [hv0]; exact (((Ext.refl _).alloc _).alloc _).cell (by simp)
    have q4 : v0.cell? ⟨w.heap.size + 1, 0, none⟩ = some (.int .i64 x0) := by rw [hv0]; exact ((Ext.refl _).alloc _).cell (by simp)
    have q5 : v0.cell? ⟨w.heap.size + 1, 1, none⟩ = some (.int .i64 x1) := by rw [hv0]; exact ((Ext.refl _).alloc _).cell (by simp)
    have q6 : v0.cell? ⟨w.heap.size + 1 + 1, 0, none⟩ = some (.int .u32 m0) := by rw [hv0]; exact (RowB.laid_at (xs := [.int .u32 m0, .int .u32 m1]) (by simp)).cell rfl
    have q7 : v0.cell? ⟨w.heap.size + 1 + 1, 1, none⟩ = some (.int .u32 m1) := by rw [hv0]; exact (RowB.laid_at (xs := [.int .u32 m0, .int .u32 m1]) (by simp)).cell rfl
    have hwv : Ext w v0 := by rw [hv0]; exact (((Ext.refl w).alloc _).alloc _).alloc _
    have HV := Lib.hid hv0
    clear hv0
    obtain ⟨h, hh⟩ : ∃ h, max 0 (min x0 1099511627776) = h := ⟨_, rfl⟩
    obtain ⟨b, hb⟩ : ∃ b, max 0 (min x1 1099511627776) = b := ⟨_, rfl⟩
    have HH := Lib.hid hh
    have HB := Lib.hid hb
    have HHB := Lib.hid (show 0 ≤ h ∧ h ≤ 1099511627776 ∧ 0 ≤ b ∧ b ≤ 1099511627776 by omega)
    clear hh hb
    go_enter Try.func6, Try.ntmps6
    go_wp2_with fail
    rw [← HV.out]
    refine (awake_any _).mono ?_
    rintro e w1 ⟨rfl, h1⟩
    have r0 := h1.cell q0
    have r1 := h1.cell q1
    have r2 := h1.cell q2
    have r3 := h1.cell q3
    have r4 := h1.cell q4
    have r5 := h1.cell q5
    go_wp2_with fail
    go_quiet ((first | (go_at_call_of 19 (Value.int .i64 x0); exact Calls.quiet_eq (clip_is HH.out _)) | (go_at_call_of 19 (Value.int .i64 x1); exact Calls.quiet_eq (clip_is HB.out _))))
    go_wp2_with fail
    refine (charge_two _ _ _ _ _ _ _ _ _ (ht.ext (hwv.trans (h1.drewN nq))) h b).mono ?_
    rintro e w2 ⟨hP, h2⟩
    have hx2 : Ext v0 w2 := (h1.drewN nq).trans h2
    clear r0 r1 r2 r3 r4 r5
    have s0 := hx2.cell q0
    have s1 := hx2.cell q1
    have s2 := hx2.cell q2
    have s3 := hx2.cell q3
    have s6 := hx2.cell q6
    have s7 := hx2.cell q7
    have hb1 : h ≤ 1099511627776 := HHB.out.2.1
    have hb2 : b ≤ 1099511627776 := HHB.out.2.2.2
    have hb3 : 0 ≤ h := HHB.out.1
    have hb4 : 0 ≤ b := HHB.out.2.2.1
    have HT := Lib.hid (ht.ext (hwv.trans hx2))
    rcases hP with ⟨c, hc, rfl⟩ | ⟨code, h0, hc, rfl⟩
    · have HC := Lib.hid hc
      clear hc
      go_wp2_with fail
      refine (charge_two _ _ _ _ _ _ _ _ _ HT.out (h + m0) (b + m1)).mono ?_
      rintro e w3 ⟨hP, h3⟩
      have t3 := h3.cell s3
      clear hb1 hb2
      rcases hP with ⟨d, hd, rfl⟩ | ⟨code, h0, hd, rfl⟩
      · obtain ⟨-, hg⟩ := chg_grows (by omega) (by omega) HHB.out.1 HHB.out.2.2.1 HHB.out.2.1 HHB.out.2.2.2 HC.out hd
        obtain ⟨g1, g2, g3⟩ := hg rfl
        have g4 := g3 rfl
        clear hd hg g3
        have hw : (h = 0 ∧ b = 0) ∨ (h = 0 ∧ 0 < b) ∨ (0 < h) := by omega
        rcases hw with ⟨rfl, rfl⟩ | ⟨rfl, hb0⟩ | hh0
        · obtain rfl := g1 rfl rfl
          clear g1 g2
          go_wp2_with fail
          go_ret
          exact ⟨rfl, (hwv.trans hx2).trans h3⟩
        · have g5 := g2 (.inr hb0)
          have hbz : (b == 0) = false := by simp; omega
          clear g1 g2
          go_wp2_with fail
          go_ret
          exact ⟨rfl, (hwv.trans hx2).trans h3⟩
        · have g5 := g2 (.inl hh0)
          have hbz : (h == 0) = false := by simp; omega
          clear g1 g2
          go_wp2_with fail
          go_ret
          exact ⟨rfl, (hwv.trans hx2).trans h3⟩
      · obtain ⟨-, hg⟩ := chg_grows (by omega) (by omega) HHB.out.1 HHB.out.2.2.1 HHB.out.2.1 HHB.out.2.2.2 HC.out hd
        obtain ⟨g1, g2, -⟩ := hg rfl
        clear hd hg
        have hw : (h = 0 ∧ b = 0) ∨ (h = 0 ∧ 0 < b) ∨ (0 < h) := by omega
        rcases hw with ⟨rfl, rfl⟩ | ⟨rfl, hb0⟩ | hh0
        · obtain rfl := g1 rfl rfl
          clear g1 g2
          go_wp2_with fail
          go_ret
          exact ⟨rfl, (hwv.trans hx2).trans h3⟩
        · have g5 := g2 (.inr hb0)
          have hbz : (b == 0) = false := by simp; omega
          clear g1 g2
          go_wp2_with fail
          go_ret
          exact ⟨rfl, (hwv.trans hx2).trans h3⟩
        · have g5 := g2 (.inl hh0)
          have hbz : (h == 0) = false := by simp; omega
          clear g1 g2
          go_wp2_with fail
          go_ret
          exact ⟨rfl, (hwv.trans hx2).trans h3⟩
    · have HC := Lib.hid hc
      clear hc
      go_wp2_with fail
      refine (charge_two _ _ _ _ _ _ _ _ _ HT.out (h + m0) (b + m1)).mono ?_
      rintro e w3 ⟨hP, h3⟩
      clear hb1 hb2
      rcases hP with ⟨d, hd, rfl⟩ | ⟨code', h0', hd, rfl⟩
      · obtain ⟨hg, -⟩ := chg_grows (by omega) (by omega) HHB.out.1 HHB.out.2.2.1 HHB.out.2.1 HHB.out.2.2.2 HC.out hd
        exact absurd rfl (hg h0)
      · clear hd
        go_wp2_with fail
        go_ret
        exact ⟨rfl, (hwv.trans hx2).trans h3⟩
end Go.Proofs.Ytepcnpnpjfdfmaa
