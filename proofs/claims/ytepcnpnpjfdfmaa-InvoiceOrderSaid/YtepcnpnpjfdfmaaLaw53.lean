/- The laws of chapter 53 on charges, walked. -/
import Derived.Test.YtepcnpnpjfdfmaaInvF
namespace Go.Proofs.Ytepcnpnpjfdfmaa
open Go.RowKit

theorem Tar.of_block {w : World} {g cap : Nat} (n : Nat) (up pr : Nat → Int) (hn : n ≤ cap) (hc : (cap : Int) ≤ 9223372036854775807) (h : ∀ i, i < n → w.cell? ⟨g, i * 2, none⟩ = some (.int .i64 (up i)) ∧ w.cell? ⟨g, i * 2 + 1, none⟩ = some (.int .i64 (pr i))) :
    Tar w (some ⟨g, 0, none⟩) n cap up pr :=
  ⟨hn, hc, fun i hi => ⟨_, rfl, by rw [Addr.add_lit, Nat.zero_add]; exact (h i hi).1, by rw [Addr.add_lit, Nat.zero_add]; exact (h i hi).2⟩⟩

def upE (i : Nat) : Int := if i = 0 then 1000 else 0
def prE (i : Nat) : Int := if i = 0 then 2000000 else 1000000
theorem okE : okTar 2 100 500000 3 upE prE := by
  refine ⟨by omega, by omega, by omega, by omega, rfl, rfl, fun k hk => ?_⟩
  match k, hk with
  | 0, _ => exact ⟨rfl, rfl, fun h => by omega, fun _ => by decide⟩
  | 1, _ => exact ⟨rfl, rfl, fun _ => rfl, fun h => by omega⟩
theorem chgE1 {c code : Int} (h : ChgP 2 100 500000 3 upE prE 2 1250 c code) : c = 24 ∧ code = 0 := by
  have e : ceilD (cost 2 100 500000 upE prE (max 2 0) (max 1250 0)) ((100 : Int).toNat * 1000000) = 24 := by decide +kernel
  have hk := okE
  unfold ChgP at h
  rw [e] at h
  simp only [hk, not_true, false_and, true_and, false_or] at h
  omega
theorem chgE2 {c code : Int} (h : ChgP 2 100 500000 3 upE prE 1 0 c code) : c = 3 ∧ code = 0 := by
  have e : ceilD (cost 2 100 500000 upE prE (max 1 0) (max 0 0)) ((100 : Int).toNat * 1000000) = 1 := by decide +kernel
  have hk := okE
  unfold ChgP at h
  rw [e] at h
  simp only [hk, not_true, false_and, true_and, false_or] at h
  omega

theorem example_any (w : World) : Calls Try.prog 27 #[] w fun e w' => ∃ p cap, e = .returned (tarV p 2 cap 100 500000 3) ∧ Tar w' p 2 cap upE prE ∧ Ext w w' := by
  go_enter Try.func27, Try.ntmps27
  go_wp2_with fail
  refine bodyPost_ret (v := tarV (some ⟨w.heap.size + 1, 0, none⟩) 2 2 100 500000 3) (by simp [results, Try.results27, go_sem]) rfl ⟨_, _, rfl, ?_, ((Ext.refl w).alloc _).alloc _⟩
  refine Tar.of_block 2 upE prE (by omega) (by omega) (fun i hi => ?_)
  match i, hi with
  | 0, _ => exact ⟨by simp [upE], by simp [prE]⟩
  | 1, _ => exact ⟨by simp [upE], by simp [prE]⟩

theorem charge_e1 (w : World) (p : Option Addr) (cap : Nat) (ht : Tar w p 2 cap upE prE) : Calls Try.prog 15 #[tarV p 2 cap 100 500000 3, .int .i64 2, .int .i64 1250] w fun e w' => e = .returned (.tuple #[.int .i64 24, .nilIface]) ∧ Ext w w' := by
  refine (charge_any w p 2 cap 100 500000 3 upE prE ht 2 1250).mono ?_
  rintro e w' ⟨⟨c, code, hc, rfl⟩, hx⟩
  obtain ⟨rfl, rfl⟩ := chgE1 hc
  exact ⟨rfl, hx⟩
theorem charge_e2 (w : World) (p : Option Addr) (cap : Nat) (ht : Tar w p 2 cap upE prE) : Calls Try.prog 15 #[tarV p 2 cap 100 500000 3, .int .i64 1, .int .i64 0] w fun e w' => e = .returned (.tuple #[.int .i64 3, .nilIface]) ∧ Ext w w' := by
  refine (charge_any w p 2 cap 100 500000 3 upE prE ht 1 0).mono ?_
  rintro e w' ⟨⟨c, code, hc, rfl⟩, hx⟩
  obtain ⟨rfl, rfl⟩ := chgE2 hc
  exact ⟨rfl, hx⟩

theorem awake_any (w : World) : Calls Try.prog 11 #[] w fun e w' => e = .returned (.bool true) ∧ Ext w w' := by
  go_enter Try.func11, Try.ntmps11
  go_wp2_with fail
  refine (example_any _).mono ?_
  rintro e w1 ⟨p, cap, rfl, hT, hX1⟩
  go_wp2_with fail
  refine (charge_e1 _ _ _ hT).mono ?_
  rintro e w2 ⟨rfl, hX2⟩
  go_wp2_with fail
  refine (example_any _).mono ?_
  rintro e w3 ⟨p3, cap3, rfl, hT3, hX3⟩
  go_wp2_with fail
  refine (charge_e2 _ _ _ hT3).mono ?_
  rintro e w4 ⟨rfl, hX4⟩
  go_wp2_with fail
  go_ret
  exact ⟨rfl, (hX1.trans hX2).trans (hX3.trans hX4)⟩

/-- a charge: a number and no error, or an error -/
theorem charge_two (w : World) (p : Option Addr) (n cap : Nat) (unit hit least : Int) (up pr : Nat → Int) (ht : Tar w p n cap up pr) (hits bytes : Int) :
    Calls Try.prog 15 #[tarV p n cap unit hit least, .int .i64 hits, .int .i64 bytes] w fun e w' =>
      ((∃ c, ChgP n unit hit least up pr hits bytes c 0 ∧ e = .returned (.tuple #[.int .i64 c, .nilIface])) ∨ (∃ code, code ≠ 0 ∧ ChgP n unit hit least up pr hits bytes 0 code ∧ e = .returned (.tuple #[.int .i64 0, errV code]))) ∧ Ext w w' := by
  refine (charge_any w p n cap unit hit least up pr ht hits bytes).mono ?_
  rintro e w' ⟨⟨c, code, hc, rfl⟩, hx⟩
  refine ⟨?_, hx⟩
  by_cases h0 : code = 0
  · subst h0
    exact .inl ⟨c, hc, rfl⟩
  · have hc0 : c = 0 := by
      unfold ChgP at hc
      rcases hc with ⟨-, h, -⟩ | ⟨-, -, h, -⟩ | ⟨-, -, -, h, -⟩ | ⟨-, -, -, -, -, h, -⟩ | ⟨-, -, -, -, -, -, h⟩
      · exact h
      · exact h
      · exact h
      · exact h
      · exact absurd h h0
    subst hc0
    refine .inr ⟨code, h0, hc, ?_⟩
    unfold errOf
    rw [if_neg h0]

set_option maxHeartbeats 1000000 in
theorem checks_law (w : World) (p : Option Addr) (n cap : Nat) (unit hit least : Int) (up pr : Nat → Int) (ht : Tar w p n cap up pr) :
    Calls Try.prog 3 #[tarV p n cap unit hit least] w fun e w' => e = .returned (.bool true) ∧ Ext w w' := by
  have hx := ht.le
  have hm := ht.lim
  rcases Nat.lt_or_ge 100 n with hn | hn
  · have hn' : (n : Int) > 100 := by omega
    go_enter Try.func3, Try.ntmps3
    go_wp2_with fail
    refine (awake_any _).mono ?_
    rintro e w1 ⟨rfl, h1⟩
    go_wp2_with fail
    go_ret
    exact ⟨rfl, ((Ext.refl w).alloc _).trans h1⟩
  · have hn' : ¬ (n : Int) > 100 := by omega
    obtain ⟨v0, hv0⟩ : ∃ v, v = w.alloc (.cells #[.slice p n cap, .int .i64 unit, .int .i64 hit, .int .i64 least] 24) := ⟨_, rfl⟩
    have q0 : v0.cell? ⟨w.heap.size, 0, none⟩ = some (.slice p n cap) := by rw [hv0]; simp
    have q1 : v0.cell? ⟨w.heap.size, 1, none⟩ = some (.int .i64 unit) := by rw [hv0]; simp
    have q2 : v0.cell? ⟨w.heap.size, 2, none⟩ = some (.int .i64 hit) := by rw [hv0]; simp
    have q3 : v0.cell? ⟨w.heap.size, 3, none⟩ = some (.int .i64 least) := by rw [hv0]; simp
    have hwv : Ext w v0 := by rw [hv0]; exact (Ext.refl w).alloc _
    have HV := Lib.hid hv0
    clear hv0
    go_enter Try.func3, Try.ntmps3
    go_wp2_with fail
    rw [← HV.out]
    refine (awake_any _).mono ?_
    rintro e w1 ⟨rfl, h1⟩
    have r0 := h1.cell q0
    have r1 := h1.cell q1
    have r2 := h1.cell q2
    have r3 := h1.cell q3
    go_wp2_with fail
    refine (check_any _ _ _ _ _ _ _ _ _ (ht.ext (hwv.trans h1))).mono ?_
    rintro e w2 ⟨hP, h2⟩
    have s0 := h2.cell r0
    have s1 := h2.cell r1
    have s2 := h2.cell r2
    have s3 := h2.cell r3
    by_cases hk : okTar n unit hit least up pr
    · obtain rfl := check_yes hk hP
      clear hP
      go_wp2_with fail
      refine (valid_any _ _ _ _ _ _ _ _ _ (ht.ext ((hwv.trans h1).trans h2))).mono ?_
      rintro e w3 ⟨hP, h3⟩
      obtain rfl := valid_yes hk hP
      clear hP
      go_wp2_with fail
      go_ret
      exact ⟨rfl, (hwv.trans h1).trans (h2.trans h3)⟩
    · obtain rfl := check_no hk hP
      clear hP
      go_wp2_with fail
      refine (valid_any _ _ _ _ _ _ _ _ _ (ht.ext ((hwv.trans h1).trans h2))).mono ?_
      rintro e w3 ⟨hP, h3⟩
      obtain rfl := valid_no hk hP
      clear hP
      go_wp2_with (go_at_call 14; refine (is_err 2 _ (by omega)).mono ?_; rintro e w' ⟨rfl, rfl⟩)
      go_ret
      exact ⟨rfl, (hwv.trans h1).trans (h2.trans h3)⟩

set_option maxHeartbeats 1000000 in
theorem charges_law (w : World) (p : Option Addr) (n cap : Nat) (unit hit least : Int) (up pr : Nat → Int) (ht : Tar w p n cap up pr) (hits bytes : Int) :
    Calls Try.prog 4 #[tarV p n cap unit hit least, .int .i64 hits, .int .i64 bytes] w fun e w' => e = .returned (.bool true) ∧ Ext w w' := by
  have hx := ht.le
  have hm := ht.lim
  rcases Nat.lt_or_ge 100 n with hn | hn
  · have hn' : (n : Int) > 100 := by omega
    go_enter Try.func4, Try.ntmps4
    go_wp2_with fail
    refine (awake_any _).mono ?_
    rintro e w1 ⟨rfl, h1⟩
    go_wp2_with fail
    go_ret
    exact ⟨rfl, ((Ext.refl w).alloc _).trans h1⟩
  · have hn' : ¬ (n : Int) > 100 := by omega
    obtain ⟨v0, hv0⟩ : ∃ v, v = w.alloc (.cells #[.slice p n cap, .int .i64 unit, .int .i64 hit, .int .i64 least] 24) := ⟨_, rfl⟩
    have q0 : v0.cell? ⟨w.heap.size, 0, none⟩ = some (.slice p n cap) := by rw [hv0]; simp
    have q1 : v0.cell? ⟨w.heap.size, 1, none⟩ = some (.int .i64 unit) := by rw [hv0]; simp
    have q2 : v0.cell? ⟨w.heap.size, 2, none⟩ = some (.int .i64 hit) := by rw [hv0]; simp
    have q3 : v0.cell? ⟨w.heap.size, 3, none⟩ = some (.int .i64 least) := by rw [hv0]; simp
    have hwv : Ext w v0 := by rw [hv0]; exact (Ext.refl w).alloc _
    have HV := Lib.hid hv0
    clear hv0
    go_enter Try.func4, Try.ntmps4
    go_wp2_with fail
    rw [← HV.out]
    refine (awake_any _).mono ?_
    rintro e w1 ⟨rfl, h1⟩
    have r0 := h1.cell q0
    have r1 := h1.cell q1
    have r2 := h1.cell q2
    have r3 := h1.cell q3
    go_wp2_with fail
    refine (charge_two _ _ _ _ _ _ _ _ _ (ht.ext (hwv.trans h1)) hits bytes).mono ?_
    rintro e w2 ⟨hP, h2⟩
    have s0 := h2.cell r0
    have s1 := h2.cell r1
    have s2 := h2.cell r2
    have s3 := h2.cell r3
    rcases hP with ⟨c, hc, rfl⟩ | ⟨code, h0, hc, rfl⟩
    all_goals
      have HC := Lib.hid hc
      clear hc
      go_wp2_with fail
      refine (rcharge_any _ _ _ _ _ _ _ _ _ (ht.ext ((hwv.trans h1).trans h2)) hits bytes).mono ?_
      rintro e w3 ⟨⟨c', code', hc', rfl⟩, h3⟩
      obtain ⟨rfl, rfl⟩ := HC.out.uniq hc'
      clear hc'
    · go_wp2_with (go_at_call 17; refine (num_nil _).mono ?_; rintro e w' ⟨rfl, rfl⟩)
      go_ret
      exact ⟨ret_bool (by simp), (hwv.trans h1).trans (h2.trans h3)⟩
    · go_wp2_with (go_at_call 17; refine (num_err _ _).mono ?_; rintro e w' ⟨rfl, rfl⟩)
      go_ret
      exact ⟨ret_bool (by simp), (hwv.trans h1).trans (h2.trans h3)⟩
end Go.Proofs.Ytepcnpnpjfdfmaa
