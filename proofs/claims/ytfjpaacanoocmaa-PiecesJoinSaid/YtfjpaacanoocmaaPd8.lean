/- Chapter 20: are (two lists of ranges, compared). -/
import Derived.Test.YtfjpaacanoocmaaPd4
namespace Go.Proofs.Ytfjpaacanoocmaa
open Go.RowKit Go.Deep Go.Sort

/-- a slice that reads as a list of ranges, of whatever range type -/
def RngIn (w : World) (v : Value) (xs : List (Nat × Nat)) : Prop := ∃ A cap, v = .slice A xs.length cap ∧ xs.length ≤ cap ∧ (0 < xs.length → ∃ g, A = some ⟨g, 0, none⟩ ∧ RngAt w g xs)
set_option maxRecDepth 100000 in
theorem are_same {w : World} {v u : Value} {xs : List (Nat × Nat)} (h : RngIn w v xs) (k : RngIn w u xs) (hn : xs.length ≤ 1000) :
    Calls Try.prog 42 #[v, u] w fun e w' => e = .returned (.bool true) ∧ Ext w w' := by
  obtain ⟨A, cap, rfl, hc, hr⟩ := h
  obtain ⟨A', cap', rfl, hc', hr'⟩ := k
  obtain ⟨n, hxn⟩ : ∃ n, xs.length = n := ⟨_, rfl⟩
  have HN := Lib.hid hxn
  rw [hxn] at hc hc' hn hr hr' ⊢
  clear hxn
  go_enter Try.func42, Try.ntmps42
  go_wp2_with fail
  go_loopw [13] (fun i wr => ∃ k : Nat, k ≤ n ∧ i = .int .i64 k ∧ Ext w wr) (fun i _ => n - (intOf i).toNat)
  case atStart => exact ⟨0, by omega, rfl, Ext.refl w⟩
  case round =>
    obtain ⟨k, hk, rfl, hX⟩ := hrel
    by_cases hlt : k < n
    · obtain ⟨g, rfl, hg⟩ := hr (by omega)
      obtain ⟨g', rfl, hg'⟩ := hr' (by omega)
      have hki : (k : Int) < (n : Int) := by omega
      have hk6 : (k : Int) < 1001 := by omega
      obtain ⟨a0, a1⟩ := hg.ext hX k (by rw [HN.out]; exact hlt)
      obtain ⟨b0, b1⟩ := hg'.ext hX k (by rw [HN.out]; exact hlt)
      obtain ⟨x, hx⟩ : ∃ x, ((xs[k]?).getD (0, 0)).1 = x := ⟨_, rfl⟩
      obtain ⟨y, hy⟩ : ∃ y, ((xs[k]?).getD (0, 0)).2 = y := ⟨_, rfl⟩
      rw [hx] at a0 b0
      rw [hy] at a1 b1
      have c0 : ∀ q, (wr.drewN q).cell? ⟨g, k * 2, none⟩ = some (.int .i64 (x : Nat)) := fun q => ((Ext.refl wr).drewN q).cell a0
      have c1 : ∀ q, (wr.drewN q).cell? ⟨g, k * 2 + 1, none⟩ = some (.int .i64 (y : Nat)) := fun q => ((Ext.refl wr).drewN q).cell a1
      have d0 : ∀ q, (wr.drewN q).cell? ⟨g', k * 2, none⟩ = some (.int .i64 (x : Nat)) := fun q => ((Ext.refl wr).drewN q).cell b0
      have d1 : ∀ q, (wr.drewN q).cell? ⟨g', k * 2 + 1, none⟩ = some (.int .i64 (y : Nat)) := fun q => ((Ext.refl wr).drewN q).cell b1
      have q0 : ((x : Int) != (x : Int)) = false := by simp
      have q1 : ((y : Int) != (y : Int)) = false := by simp
      have hkc : k < cap := by omega
      have hkc' : k < cap' := by omega
      clear hx hy hr hr' hg hg'
      go_upto_region 6 with fail
      refine wp_region_quiet_lit (by kernel_rfl) (by kernel_rfl) ?_
      repeat (go_big_quiet_step (fail))
      refine wpQuiet_nil ?_
      rintro _ ⟨nq, rfl⟩
      go_wp2_with fail
      go_roundw
      case rel => exact ⟨k + 1, by omega, by go_num, hX.drewN _⟩
      case measure => simp [intOf]; omega
    · obtain rfl : k = n := by omega
      go_wp2_with fail
      go_ret
      exact ⟨rfl, hX⟩
end Go.Proofs.Ytfjpaacanoocmaa
