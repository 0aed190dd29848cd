/- The example with which each law of chapter 53 begins. -/
import Derived.Test.YtepcnpnpjfdfmaaDoorInvGd
namespace Go.Proofs.YtepcnpnpjfdfmaaDoor
open Go.RowKit

theorem Tar.of_block {w : World} {g cap : Nat} (n : Nat) (up pr : Nat → Int) (hn : n ≤ cap) (hc : (cap : Int) ≤ 9223372036854775807) (h : ∀ i, i < n → w.cell? ⟨g, i * 2, none⟩ = some (.int .i64 (up i)) ∧ w.cell? ⟨g, i * 2 + 1, none⟩ = some (.int .i64 (pr i))) :
    Tar w (some ⟨g, 0, none⟩) n cap up pr :=
  ⟨hn, hc, fun i hi => ⟨_, rfl, by rw [Addr.add_lit, Nat.zero_add]; exact (h i hi).1, by rw [Addr.add_lit, Nat.zero_add]; exact (h i hi).2⟩⟩

def upE (i : Nat) : Int := if i = 0 then 1000 else 0
def prE (i : Nat) : Int := if i = 0 then 2000000 else 1000000
theorem okE : okTar 2 100 500000 3 upE prE := by
  refine ⟨by omega, by omega, by omega, by omega, rfl, rfl, fun k hk => ?_⟩
  match k, hk with
  | 0, _ => exact ⟨rfl, rfl, fun h => by omega, fun _ => by decide⟩
  | 1, _ => exact ⟨rfl, rfl, fun _ => rfl, fun h => by omega⟩
theorem chgE1 {c code : Int} (h : ChgP 2 100 500000 3 upE prE 2 1250 c code) : c = 24 ∧ code = 0 := by
  have e : ceilD (cost 2 100 500000 upE prE (max 2 0) (max 1250 0)) ((100 : Int).toNat * 1000000) = 24 := by decide +kernel
  have hk := okE
  unfold ChgP at h
  rw [e] at h
  simp only [hk, not_true, false_and, true_and, false_or] at h
  omega
theorem chgE2 {c code : Int} (h : ChgP 2 100 500000 3 upE prE 1 0 c code) : c = 3 ∧ code = 0 := by
  have e : ceilD (cost 2 100 500000 upE prE (max 1 0) (max 0 0)) ((100 : Int).toNat * 1000000) = 1 := by decide +kernel
  have hk := okE
  unfold ChgP at h
  rw [e] at h
  simp only [hk, not_true, false_and, true_and, false_or] at h
  omega

theorem example_any (w : World) : Calls Tryd.prog 8 #[] w fun e w' => ∃ p cap, e = .returned (tarV p 2 cap 100 500000 3) ∧ Tar w' p 2 cap upE prE ∧ Ext w w' := by
  go_enter Tryd.func8, Tryd.ntmps8
  go_wp2_with fail
  refine bodyPost_ret (v := tarV (some ⟨w.heap.size + 1, 0, none⟩) 2 2 100 500000 3) (by simp [results, Tryd.results8, go_sem]) rfl ⟨_, _, rfl, ?_, ((Ext.refl w).alloc _).alloc _⟩
  refine Tar.of_block 2 upE prE (by omega) (by omega) (fun i hi => ?_)
  match i, hi with
  | 0, _ => exact ⟨by simp [upE], by simp [prE]⟩
  | 1, _ => exact ⟨by simp [upE], by simp [prE]⟩

theorem charge_e1 (w : World) (p : Option Addr) (cap : Nat) (ht : Tar w p 2 cap upE prE) : Calls Tryd.prog 7 #[tarV p 2 cap 100 500000 3, .int .i64 2, .int .i64 1250] w fun e w' => e = .returned (.tuple #[.int .i64 24, .nilIface]) ∧ Ext w w' := by
  refine (charge_any w p 2 cap 100 500000 3 upE prE ht 2 1250).mono ?_
  rintro e w' ⟨⟨c, code, hc, rfl⟩, hx⟩
  obtain ⟨rfl, rfl⟩ := chgE1 hc
  exact ⟨rfl, hx⟩
theorem charge_e2 (w : World) (p : Option Addr) (cap : Nat) (ht : Tar w p 2 cap upE prE) : Calls Tryd.prog 7 #[tarV p 2 cap 100 500000 3, .int .i64 1, .int .i64 0] w fun e w' => e = .returned (.tuple #[.int .i64 3, .nilIface]) ∧ Ext w w' := by
  refine (charge_any w p 2 cap 100 500000 3 upE prE ht 1 0).mono ?_
  rintro e w' ⟨⟨c, code, hc, rfl⟩, hx⟩
  obtain ⟨rfl, rfl⟩ := chgE2 hc
  exact ⟨rfl, hx⟩

theorem awake_any (w : World) : Calls Tryd.prog 4 #[] w fun e w' => e = .returned (.bool true) ∧ Ext w w' := by
  go_enter Tryd.func4, Tryd.ntmps4
  go_wp2_with fail
  refine (example_any _).mono ?_
  rintro e w1 ⟨p, cap, rfl, hT, hX1⟩
  go_wp2_with fail
  refine (charge_e1 _ _ _ hT).mono ?_
  rintro e w2 ⟨rfl, hX2⟩
  go_wp2_with fail
  refine (example_any _).mono ?_
  rintro e w3 ⟨p3, cap3, rfl, hT3, hX3⟩
  go_wp2_with fail
  refine (charge_e2 _ _ _ hT3).mono ?_
  rintro e w4 ⟨rfl, hX4⟩
  go_wp2_with fail
  go_ret
  exact ⟨rfl, (hX1.trans hX2).trans (hX3.trans hX4)⟩

end Go.Proofs.YtepcnpnpjfdfmaaDoor
