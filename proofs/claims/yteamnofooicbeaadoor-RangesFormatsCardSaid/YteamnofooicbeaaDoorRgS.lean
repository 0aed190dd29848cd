/- Chapter 09: proper ranges; ContentRange. -/
import Derived.Test.YteamnofooicbeaaDoorRgQ
import Derived.Lib.LaidTab
import Derived.Lib.AppendIntMem
namespace Go.Proofs.YteamnofooicbeaaDoor
open Go.RowKit Go.Sort
abbrev PowT (w : World) : Prop := Lib.TabIs Tryd.prog w "internal/strconv.uint64pow10" .u64 Lib.pow10Tab
theorem PowT.ext {w w' : World} (h : PowT w) (hx : Ext w w') : PowT w' := by
  unfold PowT Lib.TabIs World.var? at *
  cases hg : Tryd.prog.globalNamed "internal/strconv.uint64pow10" with
  | none => simp [hg] at h
  | some g =>
    simp only [hg, Option.bind_some] at h ⊢
    have hlt : g < w.heap.size := by
      rcases Nat.lt_or_ge g w.heap.size with h' | h'
      · exact h'
      · rw [Array.getElem?_eq_none h'] at h; simp at h
    rw [Below.block hx g hlt]
    exact h
theorem itoa_any (n : Int) (h0 : -9223372036854775808 ≤ n) (h1 : n ≤ 9223372036854775807) (w : World) (htab : PowT w) :
    Calls Tryd.prog 48 #[.int .i64 n] w fun e w' => e = .returned (.string (itoS n)) ∧ Ext w w' :=
  (Any.strconv_Itoa Tryd.laysM171 n h0 h1 w htab).mono fun e w' ⟨he, k, os, hw⟩ => ⟨he, by rw [hw]; exact Lib.below_grow _ _ (Nat.le_refl _) _ _⟩
theorem itoa_is {n : Int} {s : ByteArray} (hs : itoS n = s) (hn : 0 ≤ n ∧ n ≤ 999999999999999) (w : World) (ht : PowT w) : Calls Tryd.prog 48 #[.int .i64 n] w fun e w' => e = .returned (.string s) ∧ Ext w w' := by
  rw [← hs]
  exact itoa_any n (by omega) (by omega) w ht
theorem rtext_is {n : Int} {s : ByteArray} (hs : itoS n = s) (hn : 0 ≤ n ∧ n ≤ 999999999999999) (w : World) : Calls Tryd.prog 17 #[.int .i64 n] w fun e w' => e = .returned (.string s) ∧ Ext w w' := by
  rw [← hs]
  obtain ⟨u, rfl⟩ := Int.eq_ofNat_of_zero_le hn.1
  exact text_nat u w (by omega)
def okR (f t : Int) : Bool := decide (0 ≤ f ∧ f < t ∧ t ≤ 999999999999999)
set_option maxRecDepth 100000 in
theorem proper_any (f t : Int) (w : World) : Calls Tryd.prog 46 #[.agg #[.int .i64 f, .int .i64 t]] w fun e w' => e = .returned (.bool (okR f t)) ∧ Ext w w' := by
  have hcs : (¬ 0 ≤ f) ∨ (0 ≤ f ∧ ¬ f < t) ∨ (0 ≤ f ∧ f < t ∧ ¬ t ≤ 999999999999999) ∨ (0 ≤ f ∧ f < t ∧ t ≤ 999999999999999) := by omega
  have hx := (Ext.refl w).alloc (.cells #[.int .i64 f, .int .i64 t] 37)
  rcases hcs with h1 | ⟨h1, h2⟩ | ⟨h1, h2, h3⟩ | ⟨h1, h2, h3⟩
  · have HR : Hid (okR f t = false) := Lib.hid (decide_eq_false (fun h => h1 h.1))
    go_enter Tryd.func46, Tryd.ntmps46
    go_wp2_with fail
    go_ret
    exact ⟨by rw [HR.out]; rfl, hx⟩
  · have HR : Hid (okR f t = false) := Lib.hid (decide_eq_false (fun h => h2 h.2.1))
    go_enter Tryd.func46, Tryd.ntmps46
    go_wp2_with fail
    go_ret
    exact ⟨by rw [HR.out]; rfl, hx⟩
  · have HR : Hid (okR f t = false) := Lib.hid (decide_eq_false (fun h => h3 h.2.2))
    go_enter Tryd.func46, Tryd.ntmps46
    go_wp2_with fail
    go_ret
    exact ⟨by rw [HR.out]; rfl, hx⟩
  · have HR : Hid (okR f t = true) := Lib.hid (decide_eq_true ⟨h1, h2, h3⟩)
    go_enter Tryd.func46, Tryd.ntmps46
    go_wp2_with fail
    go_ret
    exact ⟨by rw [HR.out]; rfl, hx⟩
set_option maxRecDepth 100000 in
theorem rproper_any (f t : Int) (w : World) : Calls Tryd.prog 49 #[.agg #[.int .i64 f, .int .i64 t]] w fun e w' => e = .returned (.bool (okR f t)) ∧ Ext w w' := by
  have hcs : (¬ 0 ≤ f) ∨ (0 ≤ f ∧ ¬ f < t) ∨ (0 ≤ f ∧ f < t ∧ ¬ t ≤ 999999999999999) ∨ (0 ≤ f ∧ f < t ∧ t ≤ 999999999999999) := by omega
  have hx := (Ext.refl w).alloc (.cells #[.int .i64 f, .int .i64 t] 43)
  rcases hcs with h1 | ⟨h1, h2⟩ | ⟨h1, h2, h3⟩ | ⟨h1, h2, h3⟩
  · have HR : Hid (okR f t = false) := Lib.hid (decide_eq_false (fun h => h1 h.1))
    go_enter Tryd.func49, Tryd.ntmps49
    go_wp2_with fail
    go_ret
    exact ⟨by rw [HR.out]; rfl, hx⟩
  · have HR : Hid (okR f t = false) := Lib.hid (decide_eq_false (fun h => h2 h.2.1))
    go_enter Tryd.func49, Tryd.ntmps49
    go_wp2_with fail
    go_ret
    exact ⟨by rw [HR.out]; rfl, hx⟩
  · have HR : Hid (okR f t = false) := Lib.hid (decide_eq_false (fun h => h3 h.2.2))
    go_enter Tryd.func49, Tryd.ntmps49
    go_wp2_with fail
    go_ret
    exact ⟨by rw [HR.out]; rfl, hx⟩
  · have HR : Hid (okR f t = true) := Lib.hid (decide_eq_true ⟨h1, h2, h3⟩)
    go_enter Tryd.func49, Tryd.ntmps49
    go_wp2_with fail
    go_ret
    exact ⟨by rw [HR.out]; rfl, hx⟩
set_option maxRecDepth 100000 in
set_option maxHeartbeats 1000000 in
theorem rangetext_any {f t : Int} (hok : 0 ≤ f ∧ f < t ∧ t ≤ 999999999999999) (w : World) (hP : PowT w) : Calls Tryd.prog 47 #[.agg #[.int .i64 f, .int .i64 t]] w fun e w' => e = .returned (.string (itoS f ++ ⟨#[45]⟩ ++ itoS (t - 1))) ∧ Ext w w' := by
  obtain ⟨wa, hwa⟩ : ∃ wa, wa = w.alloc (.cells #[.int .i64 f, .int .i64 t] 37) := ⟨_, rfl⟩
  have XA : Ext w wa := by rw [hwa]; exact (Ext.refl w).alloc _
  have HT : Hid (RowB wa w.heap.size 37 [.int .i64 f, .int .i64 t]) := Lib.hid (by rw [hwa]; exact row_laid _ _ _)
  obtain ⟨x, hx⟩ : ∃ x, itoS f = x := ⟨_, rfl⟩
  obtain ⟨y, hy⟩ : ∃ y, itoS (t - 1) = y := ⟨_, rfl⟩
  have hxs : x.size ≤ 21 := by rw [← hx]; exact itoS_size _ (by omega) (by omega)
  have hys : y.size ≤ 21 := by rw [← hy]; exact itoS_size _ (by omega) (by omega)
  rw [hx, hy]
  have w1' : wrap64 (t - 1) = t - 1 := by unfold wrap64; omega
  have HI1 := Lib.hid (fun W (h : PowT W) => itoa_is hx (by omega) W h)
  have HI2 := Lib.hid (fun W (h : PowT W) => itoa_is hy (by omega) W h)
  have c0 : ∀ m : Wd wa, m.val.cell? ⟨w.heap.size, 0, none⟩ = some (.int .i64 f) := fun m => m.ext.cell (HT.out.cell (j := 0) rfl)
  have c1 : ∀ m : Wd wa, m.val.cell? ⟨w.heap.size, 1, none⟩ = some (.int .i64 t) := fun m => m.ext.cell (HT.out.cell (j := 1) rfl)
  have HPW : Hid (∀ m : Wd wa, PowT m.val) := Lib.hid (fun m => hP.ext (XA.trans m.ext))
  clear hx hy hP hok
  go_enter Tryd.func47, Tryd.ntmps47
  go_upto_region 1 with fail
  rw [← hwa]
  clear hwa HT
  obtain ⟨g, hg⟩ : ∃ g, w.heap.size = g := ⟨_, rfl⟩
  rw [hg] at c0 c1 ⊢
  clear hg
  refine wp_region_wd (by kernel_rfl) (by kernel_rfl) ?_
  repeat (go_big_quiet_step (first
    | (go_at_call_of 48 (Value.int .i64 f); exact Calls.wd_of (HI1.out _ (HPW.out _)))
    | (go_at_call 48; exact Calls.wd_of (HI2.out _ (HPW.out _)))))
  refine wpQuiet_nil ?_
  rintro _ ⟨nq, rfl⟩
  go_wp2_with fail
  go_ret
  exact ⟨rfl, XA.trans nq.ext⟩
end Go.Proofs.YteamnofooicbeaaDoor
