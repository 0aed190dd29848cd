/- Chapter 20: the library's sort of a short list of ranges that is in order already. -/
import Derived.Test.YtfgjbbpkkbohhaaGreatPcW
namespace Go.Proofs.YtfgjbbpkkbohhaaGreat
open Go.RowKit Go.Deep Go.Sort

/-- a slice at the head of block g that reads as a list of ranges -/
def RngAt (w : World) (g : Nat) (xs : List (Nat × Nat)) : Prop := ∀ i, i < xs.length → w.cell? ⟨g, i * 2, none⟩ = some (.int .i64 (((xs[i]?).getD (0, 0)).1 : Nat)) ∧ w.cell? ⟨g, i * 2 + 1, none⟩ = some (.int .i64 (((xs[i]?).getD (0, 0)).2 : Nat))
theorem RngAt.ext {w w' : World} {g : Nat} {xs : List (Nat × Nat)} (h : RngAt w g xs) (hx : Ext w w') : RngAt w' g xs := fun i hi => ⟨hx.cell (h i hi).1, hx.cell (h i hi).2⟩
theorem isnan_int (a : Int) (w : World) : Calls Tryz.prog 188 #[.int .i64 a] w fun e w' => e = .returned (.bool false) ∧ w = w' := by
  have hq : (a != a) = false := by simp
  go_enter Tryz.func188, Tryz.ntmps188
  go_wp2_with fail
  go_ret
  exact ⟨rfl, rfl⟩
def cmpI (a b : Int) : Int := if a < b then -1 else if b < a then 1 else 0
theorem cmp_any (a b : Int) (w : World) : Calls Tryz.prog 170 #[.int .i64 a, .int .i64 b] w fun e w' => e = .returned (.int .i64 (cmpI a b)) ∧ w = w' := by
  unfold cmpI
  rcases Int.lt_or_le a b with h | h
  · rw [if_pos h]
    go_enter Tryz.func170, Tryz.ntmps170
    go_wp2_with (go_at_call 188; refine (isnan_int _ _).mono ?_; rintro e w' ⟨rfl, rfl⟩)
    go_ret
    exact ⟨rfl, rfl⟩
  · rw [if_neg (by omega)]
    rcases Int.lt_or_le b a with h2 | h2
    · rw [if_pos h2]
      go_enter Tryz.func170, Tryz.ntmps170
      go_wp2_with (go_at_call 188; refine (isnan_int _ _).mono ?_; rintro e w' ⟨rfl, rfl⟩)
      go_ret
      exact ⟨rfl, rfl⟩
    · rw [if_neg (by omega)]
      go_enter Tryz.func170, Tryz.ntmps170
      go_wp2_with (go_at_call 188; refine (isnan_int _ _).mono ?_; rintro e w' ⟨rfl, rfl⟩)
      go_ret
      exact ⟨rfl, rfl⟩
theorem clos_any (a b c d : Int) (w : World) : Calls Tryz.prog 169 #[rngV a b, rngV c d] w fun e w' => e = .returned (.int .i64 (cmpI a c)) ∧ Ext w w' := by
  go_enter Tryz.func169, Tryz.ntmps169
  go_wp2_with (go_at_call 170; refine (cmp_any a c _).mono ?_; rintro e w' ⟨rfl, rfl⟩)
  go_ret
  exact ⟨rfl, ((Ext.refl w).alloc _).alloc _⟩
set_option maxRecDepth 100000 in
theorem len64_small (n : Nat) (hn : n ≤ 12) (w : World) : Calls Tryz.prog 156 #[.int .u64 n] w fun e w' => (∃ k : Int, e = .returned (.int .i64 k)) ∧ w = w' := by
  have a1 : ¬ (4294967296 : Int) ≤ (n : Int) := by omega
  have a2 : ¬ (65536 : Int) ≤ (n : Int) := by omega
  have a3 : ¬ (256 : Int) ≤ (n : Int) := by omega
  go_enter Tryz.func156, Tryz.ntmps156
  go_wp2_with fail
  go_ret
  exact ⟨⟨_, rfl⟩, rfl⟩
set_option maxRecDepth 100000 in
theorem len_small (n : Nat) (hn : n ≤ 12) (w : World) : Calls Tryz.prog 111 #[.int .u64 n] w fun e w' => (∃ k : Int, e = .returned (.int .i64 k)) ∧ w = w' := by
  go_enter Tryz.func111, Tryz.ntmps111
  go_wp2_with (go_at_call 156; refine (len64_small n hn _).mono ?_; rintro e w' ⟨⟨k, rfl⟩, rfl⟩)
  go_ret
  exact ⟨⟨_, rfl⟩, rfl⟩
set_option maxRecDepth 100000 in
theorem insert_ok {w : World} {g cap : Nat} {xs : List (Nat × Nat)} (h : RngAt w g xs) (hn : xs.length ≤ 12) (hc : xs.length ≤ cap) (hs : ∀ i, i + 1 < xs.length → ((xs[i]?).getD (0, 0)).1 ≤ ((xs[i + 1]?).getD (0, 0)).1) :
    Calls Tryz.prog 194 #[.slice (some ⟨g, 0, none⟩) xs.length cap, .int .i64 0, .int .i64 xs.length, Value.func (.func 169) #[] #[]] w fun e w' => e = .returned (.tuple #[]) ∧ Ext w w' := by
  obtain ⟨n, hxn⟩ : ∃ n, xs.length = n := ⟨_, rfl⟩
  rw [hxn] at hn hc ⊢
  have HX := Lib.hid hxn
  clear hxn
  go_enter Tryz.func194, Tryz.ntmps194
  go_wp2_with fail
  go_loopw [8] (fun i wr => ∃ j : Nat, (j + 1 ≤ n ∨ j = 0) ∧ i = .int .i64 (j + 1 : Nat) ∧ Ext w wr) (fun i _ => n + 1 - (intOf i).toNat)
  case atStart => exact ⟨0, .inr rfl, rfl, Ext.refl w⟩
  case round =>
    obtain ⟨j, hj, rfl, hX⟩ := hrel
    by_cases hlt : j + 1 < n
    · have hji : (j : Int) + 1 < (n : Int) := by omega
      have hj6 : (j : Int) < 13 := by omega
      have h1 := h.ext hX (j + 1) (by rw [HX.out]; omega)
      have h0 := h.ext hX j (by rw [HX.out]; omega)
      have hsj := hs j (by rw [HX.out]; omega)
      obtain ⟨x, hx⟩ : ∃ x, ((xs[j + 1]?).getD (0, 0)) = x := ⟨_, rfl⟩
      obtain ⟨y, hy⟩ : ∃ y, ((xs[j]?).getD (0, 0)) = y := ⟨_, rfl⟩
      rw [hx] at h1 hsj
      rw [hy] at h0 hsj
      have c0 : ∀ m : Wd wr, m.val.cell? ⟨g, (j + 1) * 2, none⟩ = some (.int .i64 (x.1 : Nat)) := fun m => m.ext.cell h1.1
      have c1 : ∀ m : Wd wr, m.val.cell? ⟨g, (j + 1) * 2 + 1, none⟩ = some (.int .i64 (x.2 : Nat)) := fun m => m.ext.cell h1.2
      have d0 : ∀ m : Wd wr, m.val.cell? ⟨g, j * 2, none⟩ = some (.int .i64 (y.1 : Nat)) := fun m => m.ext.cell h0.1
      have d1 : ∀ m : Wd wr, m.val.cell? ⟨g, j * 2 + 1, none⟩ = some (.int .i64 (y.2 : Nat)) := fun m => m.ext.cell h0.2
      have qc : decide (cmpI (x.1 : Nat) (y.1 : Nat) < 0) = false := by
        rw [decide_eq_false_iff_not]; unfold cmpI; rw [if_neg (by omega)]; split <;> omega
      have q1 : decide ((0 : Int) < (j : Int) + 1) = true := by rw [decide_eq_true_iff]; omega
      have hjc : j + 1 < cap := by omega
      clear h1 h0 hsj hx hy
      go_wp2_with fail
      refine wp_loop_rounds 1 ?_
      rw [rounds_succ]
      go_upto_region 4 with fail
      refine wp_region_wd (by kernel_rfl) (by kernel_rfl) ?_
      repeat (go_big_quiet_step ((go_at_call 169; exact Calls.wd_of (clos_any _ _ _ _ _))))
      refine wpQuiet_nil ?_
      rintro _ ⟨nq, rfl⟩
      go_wp2_with fail
      go_roundw
      case rel => exact ⟨j + 1, by omega, by go_num, hX.trans nq.ext⟩
      case measure => simp [intOf]; omega
    · have hji : ¬ (j : Int) + 1 < (n : Int) := by omega
      have hj6 : (j : Int) < 13 := by omega
      go_wp2_with fail
      go_returns
      exact ⟨rfl, hX⟩
set_option maxRecDepth 100000 in
theorem pdq_ok {w : World} {g cap : Nat} {xs : List (Nat × Nat)} (h : RngAt w g xs) (hn : xs.length ≤ 12) (hc : xs.length ≤ cap) (hs : ∀ i, i + 1 < xs.length → ((xs[i]?).getD (0, 0)).1 ≤ ((xs[i + 1]?).getD (0, 0)).1) (k : Int) :
    Calls Tryz.prog 187 #[.slice (some ⟨g, 0, none⟩) xs.length cap, .int .i64 0, .int .i64 xs.length, .int .i64 k, Value.func (.func 169) #[] #[]] w fun e w' => e = .returned (.tuple #[]) ∧ Ext w w' := by
  have HI := Lib.hid (insert_ok h hn hc hs)
  obtain ⟨n, hxn⟩ : ∃ n, xs.length = n := ⟨_, rfl⟩
  rw [hxn] at hn hc HI ⊢
  have hn2 : (n : Int) ≤ 12 := by omega
  clear hs h hxn
  go_enter Tryz.func187, Tryz.ntmps187
  go_wp2_with fail
  refine wp_loop_rounds 1 ?_
  rw [rounds_succ]
  go_wp2_with (go_at_call 194; refine HI.out.mono ?_; rintro e w' ⟨rfl, hx⟩)
  go_returns
  exact ⟨rfl, hx⟩
set_option maxRecDepth 100000 in
theorem sort_ok {w : World} {g cap : Nat} {xs : List (Nat × Nat)} (h : RngAt w g xs) (hn : xs.length ≤ 12) (hc : xs.length ≤ cap) (hs : ∀ i, i + 1 < xs.length → ((xs[i]?).getD (0, 0)).1 ≤ ((xs[i + 1]?).getD (0, 0)).1) :
    Calls Tryz.prog 168 #[.slice (some ⟨g, 0, none⟩) xs.length cap, Value.func (.func 169) #[] #[]] w fun e w' => e = .returned (.tuple #[]) ∧ Ext w w' := by
  have HP := Lib.hid (pdq_ok h hn hc hs)
  obtain ⟨n, hxn⟩ : ∃ n, xs.length = n := ⟨_, rfl⟩
  rw [hxn] at hn hc HP ⊢
  have hn2 : (n : Int) ≤ 12 := by omega
  clear hs h hxn
  go_enter Tryz.func168, Tryz.ntmps168
  go_wp2_with (first | (go_at_call 111; refine (len_small n hn _).mono ?_; rintro e w' ⟨⟨k, rfl⟩, rfl⟩) | (go_at_call 187; refine (HP.out _).mono ?_; rintro e w' ⟨rfl, hx⟩))
  go_returns
  exact ⟨rfl, hx⟩
end Go.Proofs.YtfgjbbpkkbohhaaGreat
