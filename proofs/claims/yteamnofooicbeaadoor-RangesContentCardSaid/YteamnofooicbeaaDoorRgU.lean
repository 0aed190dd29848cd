/- Chapter 09: ContentRange of what is proper. -/
import Derived.Test.YteamnofooicbeaaDoorRgT
namespace Go.Proofs.YteamnofooicbeaaDoor
open Go.RowKit Go.Sort
theorem okC_parts {f t len : Int} (h : okC f t len = true) : (0 ≤ f ∧ f < t ∧ t ≤ 999999999999999) ∧ t ≤ len ∧ len ≤ 999999999999999 ∧ okR f t = true := by
  unfold okC at h
  simp only [Bool.and_eq_true, decide_eq_true_eq] at h
  exact ⟨of_decide_eq_true h.1, h.2.1, h.2.2, h.1⟩
set_option maxRecDepth 100000 in
set_option maxHeartbeats 1000000 in
theorem content_ok {f t len : Int} (hc : okC f t len = true) (w : World) (hP : PowT w) : Calls Tryd.prog 19 #[.agg #[.int .i64 f, .int .i64 t], .int .i64 len] w fun e w' => e = .returned (.tuple #[.string (crS f t len), .nilIface]) ∧ Ext w w' := by
  obtain ⟨wa, hwa⟩ : ∃ wa, wa = w.alloc (.cells #[.int .i64 f, .int .i64 t] 37) := ⟨_, rfl⟩
  have XA : Ext w wa := by rw [hwa]; exact (Ext.refl w).alloc _
  have HT : Hid (RowB wa w.heap.size 37 [.int .i64 f, .int .i64 t]) := Lib.hid (by rw [hwa]; exact row_laid _ _ _)
  have HPR := Lib.hid (fun W => proper_any f t W)
  have HX := Lib.hid XA
  obtain ⟨h1, h2, h3, h4⟩ := okC_parts hc
  rw [h4] at HPR
  unfold crS
  have HTX := Lib.hid (fun W (h : PowT W) => rangetext_any h1 W h)
  obtain ⟨x, hx⟩ : ∃ x, itoS f ++ (⟨#[45]⟩ : ByteArray) ++ itoS (t - 1) = x := ⟨_, rfl⟩
  have hxs : x.size ≤ 50 := by
    rw [← hx]
    have z1 := itoS_size f (by omega) (by omega)
    have z2 := itoS_size (t - 1) (by omega) (by omega)
    rw [ByteArray.size_append, ByteArray.size_append]
    show (itoS f).size + 1 + (itoS (t - 1)).size ≤ 50
    omega
  obtain ⟨z, hz⟩ : ∃ z, itoS len = z := ⟨_, rfl⟩
  have hzs : z.size ≤ 21 := by rw [← hz]; exact itoS_size _ (by omega) (by omega)
  have HIT := Lib.hid (fun W (h : PowT W) => itoa_is hz (by omega) W h)
  have HP := Lib.hid hP
  rw [hx] at HTX ⊢
  rw [hz]
  clear h1 h4 hc XA hx hz hP
  go_enter Tryd.func19, Tryd.ntmps19
  go_upto_region 1 with fail
  rw [← hwa]
  clear hwa
  obtain ⟨g, hg⟩ : ∃ g, w.heap.size = g := ⟨_, rfl⟩
  rw [hg] at HT ⊢
  have c0 := HT.out.cell (j := 0) rfl
  have c1 := HT.out.cell (j := 1) rfl
  clear hg
  go_wp2_with fail
  refine (HPR.out _).mono ?_
  rintro e w1 ⟨rfl, hx1⟩
  have d0 := (HT.out.ext hx1).cell (j := 0) rfl
  have d1 := (HT.out.ext hx1).cell (j := 1) rfl
  clear c0 c1
  go_wp2_with fail
  refine (HTX.out _ (HP.out.ext (HX.out.trans hx1))).mono ?_
  rintro e w2 ⟨rfl, hx2⟩
  go_wp2_with fail
  refine (HIT.out _ (HP.out.ext (HX.out.trans (hx1.trans hx2)))).mono ?_
  rintro e w3 ⟨rfl, hx3⟩
  go_wp2_with fail
  go_ret2
  exact ⟨rfl, HX.out.trans ((hx1.trans hx2).trans hx3)⟩
theorem crS_flat (x y z : ByteArray) : (⟨#[98, 121, 116, 101, 115, 32]⟩ : ByteArray) ++ x ++ ⟨#[45]⟩ ++ y ++ ⟨#[47]⟩ ++ z = ⟨#[98, 121, 116, 101, 115, 32]⟩ ++ (x ++ ⟨#[45]⟩ ++ y) ++ ⟨#[47]⟩ ++ z := by
  simp only [ByteArray.append_assoc]
set_option maxRecDepth 100000 in
set_option maxHeartbeats 1000000 in
theorem rcontent_ok {f t len : Int} (hc : okC f t len = true) (w : World) : Calls Tryd.prog 20 #[.agg #[.int .i64 f, .int .i64 t], .int .i64 len] w fun e w' => e = .returned (.tuple #[.string (crS f t len), .bool true]) ∧ Ext w w' := by
  obtain ⟨wa, hwa⟩ : ∃ wa, wa = w.alloc (.cells #[.int .i64 f, .int .i64 t] 43) := ⟨_, rfl⟩
  have XA : Ext w wa := by rw [hwa]; exact (Ext.refl w).alloc _
  have HT : Hid (RowB wa w.heap.size 43 [.int .i64 f, .int .i64 t]) := Lib.hid (by rw [hwa]; exact row_laid _ _ _)
  have HPR := Lib.hid (fun W => rproper_any f t W)
  have HX := Lib.hid XA
  obtain ⟨h1, h2, h3, h4⟩ := okC_parts hc
  rw [h4] at HPR
  unfold crS
  rw [← crS_flat]
  have w1' : wrap64 (t - 1) = t - 1 := by unfold wrap64; omega
  obtain ⟨x, hx⟩ : ∃ x, itoS f = x := ⟨_, rfl⟩
  obtain ⟨y, hy⟩ : ∃ y, itoS (t - 1) = y := ⟨_, rfl⟩
  obtain ⟨z, hz⟩ : ∃ z, itoS len = z := ⟨_, rfl⟩
  have hxs : x.size ≤ 21 := by rw [← hx]; exact itoS_size _ (by omega) (by omega)
  have hys : y.size ≤ 21 := by rw [← hy]; exact itoS_size _ (by omega) (by omega)
  have hzs : z.size ≤ 21 := by rw [← hz]; exact itoS_size _ (by omega) (by omega)
  have HI1 := Lib.hid (fun W => rtext_is hx (by omega) W)
  have HI2 := Lib.hid (fun W => rtext_is hy (by omega) W)
  have HI3 := Lib.hid (fun W => rtext_is hz (by omega) W)
  rw [hx, hy, hz]
  clear h1 h4 hc XA hx hy hz
  go_enter Tryd.func20, Tryd.ntmps20
  go_upto_region 1 with fail
  rw [← hwa]
  clear hwa
  obtain ⟨g, hg⟩ : ∃ g, w.heap.size = g := ⟨_, rfl⟩
  rw [hg] at HT ⊢
  have c0 := HT.out.cell (j := 0) rfl
  have c1 := HT.out.cell (j := 1) rfl
  clear hg
  go_wp2_with fail
  refine (HPR.out _).mono ?_
  rintro e w1 ⟨rfl, hx1⟩
  have d0 := (HT.out.ext hx1).cell (j := 0) rfl
  have d1 := (HT.out.ext hx1).cell (j := 1) rfl
  clear c0 c1
  have e0 : ∀ m : Wd w1, m.val.cell? ⟨g, 0, none⟩ = some (.int .i64 f) := fun m => m.ext.cell d0
  have e1 : ∀ m : Wd w1, m.val.cell? ⟨g, 1, none⟩ = some (.int .i64 t) := fun m => m.ext.cell d1
  go_upto_region 3 with fail
  clear d0 d1
  refine wp_region_wd (by kernel_rfl) (by kernel_rfl) ?_
  repeat (go_big_quiet_step (first
    | (go_at_call_of 17 (Value.int .i64 f); exact Calls.wd_of (HI1.out _))
    | (go_at_call_of 17 (Value.int .i64 len); exact Calls.wd_of (HI3.out _))
    | (go_at_call 17; exact Calls.wd_of (HI2.out _))))
  refine wpQuiet_nil ?_
  rintro _ ⟨nq, rfl⟩
  go_wp2_with fail
  go_ret2
  exact ⟨rfl, HX.out.trans (hx1.trans nq.ext)⟩
end Go.Proofs.YteamnofooicbeaaDoor
