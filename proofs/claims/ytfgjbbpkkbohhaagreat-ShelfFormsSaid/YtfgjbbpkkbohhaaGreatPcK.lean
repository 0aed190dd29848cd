/- Chapter 20: Read where something is missing, or out of range. -/
import Derived.Test.YtfgjbbpkkbohhaaGreatPcJ
namespace Go.Proofs.YtfgjbbpkkbohhaaGreat
open Go.RowKit Go.Deep Go.Sort
set_option maxRecDepth 100000 in
set_option maxHeartbeats 4000000 in
theorem read_none {w : World} {B b l len : Nat} {A : Nat → Prop} {tag : ByteArray} {D : Nat → Option ByteArray} (h : BodyAt w B A b l tag len D) (f t : Nat) (hl : len ≤ 65536) (hft : f ≤ t) (htl : t ≤ len) (hg : gaps D (pcs f t) ≠ []) :
    Calls Tryz.prog 74 #[.pointer (some ⟨b, 0, none⟩), rngV f t] w fun e w' => e = .returned (.tuple #[.slice none 0 0, errV 3]) ∧ Ext w w' := by
  have c1 := h.c1
  have hb2 : (w.alloc (.cells #[.int .i64 f, .int .i64 t] 48)).cell? ⟨b, 1, none⟩ = some (.int .i64 len) := ((Ext.refl w).alloc _).cell c1
  have hb1 : (w.alloc (.cells #[.int .i64 f, .int .i64 t] 48)).drew.cell? ⟨b, 1, none⟩ = some (.int .i64 len) := (((Ext.refl w).alloc _).drew).cell c1
  have q1 : decide ((f : Int) < 0) = false := by simp
  have q2 : decide (t < f) = false := by simp; omega
  have q3 : decide (len < t) = false := by simp; omega
  have ha : Ext w (w.alloc (.cells #[.int .i64 f, .int .i64 t] 48)) := (Ext.refl w).alloc _
  have HM := Lib.hid (fun W (hW : BodyAt W B A b l tag len D) => missing_any hW f t f t hl (by omega) (by omega) (by omega))
  have HB := Lib.hid h
  have hpos : 0 < (gaps D (pcs f t)).length := List.length_pos_iff.2 hg
  obtain ⟨n, hn⟩ : ∃ n, (gaps D (pcs f t)).length = n := ⟨_, rfl⟩
  rw [hn] at hpos
  have HN := Lib.hid hn
  clear h hg hn
  go_enter Tryz.func74, Tryz.ntmps74
  go_upto_region 3 with fail
  refine wp_region_quiet_lit (by kernel_rfl) (by kernel_rfl) ?_
  repeat (go_big_quiet_step (fail))
  refine wpQuiet_nil ?_
  rintro _ ⟨nq, rfl⟩
  go_wp2_with (go_at_call 57; refine (HM.out _ (HB.out.ext (ha.drewN _))).mono ?_; rintro e w1 ⟨v1, rfl, hx, ho⟩; obtain ⟨A1, cap1, rfl, -, -⟩ := ho.shape; rw [HN.out]; have X1 := (ha.drewN _).trans hx)
  go_returns
  exact ⟨rfl, X1⟩
set_option maxRecDepth 100000 in
set_option maxHeartbeats 4000000 in
theorem read_bad {w : World} {B b l len : Nat} {A : Nat → Prop} {tag : ByteArray} {D : Nat → Option ByteArray} (h : BodyAt w B A b l tag len D) (F T : Int) (hb : F < 0 ∨ T < F ∨ (len : Int) < T) :
    Calls Tryz.prog 74 #[.pointer (some ⟨b, 0, none⟩), rngV F T] w fun e w' => e = .returned (.tuple #[.slice none 0 0, errV 1]) ∧ Ext w w' := by
  have c1 := h.c1
  have hb2 : (w.alloc (.cells #[.int .i64 F, .int .i64 T] 48)).cell? ⟨b, 1, none⟩ = some (.int .i64 len) := ((Ext.refl w).alloc _).cell c1
  have hb1 : (w.alloc (.cells #[.int .i64 F, .int .i64 T] 48)).drew.cell? ⟨b, 1, none⟩ = some (.int .i64 len) := (((Ext.refl w).alloc _).drew).cell c1
  have ha : Ext w (w.alloc (.cells #[.int .i64 F, .int .i64 T] 48)) := (Ext.refl w).alloc _
  go_enter Tryz.func74, Tryz.ntmps74
  by_cases h1 : F < 0
  · have q1 : decide (F < 0) = true := by simp [h1]
    clear hb h1
    go_upto_region 3 with fail
    refine wp_region_quiet_lit (by kernel_rfl) (by kernel_rfl) ?_
    repeat (go_big_quiet_step (fail))
    refine wpQuiet_nil ?_
    rintro _ ⟨nq, rfl⟩
    go_wp2_with fail
    go_returns
    exact ⟨rfl, ha.drewN _⟩
  · have q1 : decide (F < 0) = false := by simp; omega
    by_cases h2 : T < F
    · have q2 : decide (T < F) = true := by simp [h2]
      clear hb h1 h2
      go_upto_region 3 with fail
      refine wp_region_quiet_lit (by kernel_rfl) (by kernel_rfl) ?_
      repeat (go_big_quiet_step (fail))
      refine wpQuiet_nil ?_
      rintro _ ⟨nq, rfl⟩
      go_wp2_with fail
      go_returns
      exact ⟨rfl, ha.drewN _⟩
    · have q2 : decide (T < F) = false := by simp; omega
      have q3 : decide ((len : Int) < T) = true := by simp; omega
      clear hb h1 h2
      go_upto_region 3 with fail
      refine wp_region_quiet_lit (by kernel_rfl) (by kernel_rfl) ?_
      repeat (go_big_quiet_step (fail))
      refine wpQuiet_nil ?_
      rintro _ ⟨nq, rfl⟩
      go_wp2_with fail
      go_returns
      exact ⟨rfl, ha.drewN _⟩
end Go.Proofs.YtfgjbbpkkbohhaaGreat
