/- Chapter 09: ContentRange. -/
import Derived.Test.YteamnofooicbeaaDoorRgS
import Derived.Deep.RegionWith
namespace Go.Proofs.YteamnofooicbeaaDoor
open Go.RowKit Go.Sort
def okC (f t len : Int) : Bool := okR f t && (decide (t ≤ len) && decide (len ≤ 999999999999999))
def crS (f t len : Int) : ByteArray := ⟨#[98, 121, 116, 101, 115, 32]⟩ ++ (itoS f ++ ⟨#[45]⟩ ++ itoS (t - 1)) ++ ⟨#[47]⟩ ++ itoS len
theorem okC_cases (f t len : Int) : (okR f t = false ∧ okC f t len = false) ∨ (okR f t = true ∧ ¬ t ≤ len ∧ okC f t len = false) ∨ (okR f t = true ∧ t ≤ len ∧ ¬ len ≤ 999999999999999 ∧ okC f t len = false) ∨ (okR f t = true ∧ t ≤ len ∧ len ≤ 999999999999999 ∧ okC f t len = true) := by
  unfold okC
  cases okR f t with
  | false => exact .inl ⟨rfl, rfl⟩
  | true =>
    by_cases h1 : t ≤ len
    · by_cases h2 : len ≤ 999999999999999
      · exact .inr (.inr (.inr ⟨rfl, h1, h2, by simp [h1, h2]⟩))
      · exact .inr (.inr (.inl ⟨rfl, h1, h2, by simp [h2]⟩))
    · exact .inr (.inl ⟨rfl, h1, by simp [h1]⟩)
set_option maxRecDepth 100000 in
set_option maxHeartbeats 1000000 in
theorem content_no {f t len : Int} (hc : okC f t len = false) (w : World) : Calls Tryd.prog 19 #[.agg #[.int .i64 f, .int .i64 t], .int .i64 len] w fun e w' => e = .returned (.tuple #[.string ⟨#[]⟩, errV 2]) ∧ Ext w w' := by
  obtain ⟨wa, hwa⟩ : ∃ wa, wa = w.alloc (.cells #[.int .i64 f, .int .i64 t] 37) := ⟨_, rfl⟩
  have XA : Ext w wa := by rw [hwa]; exact (Ext.refl w).alloc _
  have HT : Hid (RowB wa w.heap.size 37 [.int .i64 f, .int .i64 t]) := Lib.hid (by rw [hwa]; exact row_laid _ _ _)
  have HPR := Lib.hid (fun W => proper_any f t W)
  have HX := Lib.hid XA
  rcases okC_cases f t len with ⟨h1, h2⟩ | ⟨h1, h2, h3⟩ | ⟨h1, h2, h3, h4⟩ | ⟨h1, h2, h3, h4⟩
  · rw [h1] at HPR
    clear h1 h2 hc XA
    go_enter Tryd.func19, Tryd.ntmps19
    go_upto_region 1 with fail
    rw [← hwa]
    clear hwa
    obtain ⟨g, hg⟩ : ∃ g, w.heap.size = g := ⟨_, rfl⟩
    rw [hg] at HT ⊢
    have c0 := HT.out.cell (j := 0) rfl
    have c1 := HT.out.cell (j := 1) rfl
    clear hg
    go_wp2_with fail
    refine (HPR.out _).mono ?_
    rintro e w1 ⟨rfl, hx1⟩
    have d0 := (HT.out.ext hx1).cell (j := 0) rfl
    have d1 := (HT.out.ext hx1).cell (j := 1) rfl
    clear c0 c1
    go_wp2_with fail
    go_ret2
    exact ⟨rfl, HX.out.trans hx1⟩
  · rw [h1] at HPR
    clear h1 h3 hc XA
    go_enter Tryd.func19, Tryd.ntmps19
    go_upto_region 1 with fail
    rw [← hwa]
    clear hwa
    obtain ⟨g, hg⟩ : ∃ g, w.heap.size = g := ⟨_, rfl⟩
    rw [hg] at HT ⊢
    have c0 := HT.out.cell (j := 0) rfl
    have c1 := HT.out.cell (j := 1) rfl
    clear hg
    go_wp2_with fail
    refine (HPR.out _).mono ?_
    rintro e w1 ⟨rfl, hx1⟩
    have d0 := (HT.out.ext hx1).cell (j := 0) rfl
    have d1 := (HT.out.ext hx1).cell (j := 1) rfl
    clear c0 c1
    go_wp2_with fail
    go_ret2
    exact ⟨rfl, HX.out.trans hx1⟩
  · rw [h1] at HPR
    clear h1 h4 hc XA
    go_enter Tryd.func19, Tryd.ntmps19
    go_upto_region 1 with fail
    rw [← hwa]
    clear hwa
    obtain ⟨g, hg⟩ : ∃ g, w.heap.size = g := ⟨_, rfl⟩
    rw [hg] at HT ⊢
    have c0 := HT.out.cell (j := 0) rfl
    have c1 := HT.out.cell (j := 1) rfl
    clear hg
    go_wp2_with fail
    refine (HPR.out _).mono ?_
    rintro e w1 ⟨rfl, hx1⟩
    have d0 := (HT.out.ext hx1).cell (j := 0) rfl
    have d1 := (HT.out.ext hx1).cell (j := 1) rfl
    clear c0 c1
    go_wp2_with fail
    go_ret2
    exact ⟨rfl, HX.out.trans hx1⟩
  · rw [h4] at hc
    cases hc
set_option maxRecDepth 100000 in
set_option maxHeartbeats 1000000 in
theorem rcontent_no {f t len : Int} (hc : okC f t len = false) (w : World) : Calls Tryd.prog 20 #[.agg #[.int .i64 f, .int .i64 t], .int .i64 len] w fun e w' => e = .returned (.tuple #[.string ⟨#[]⟩, .bool false]) ∧ Ext w w' := by
  obtain ⟨wa, hwa⟩ : ∃ wa, wa = w.alloc (.cells #[.int .i64 f, .int .i64 t] 43) := ⟨_, rfl⟩
  have XA : Ext w wa := by rw [hwa]; exact (Ext.refl w).alloc _
  have HT : Hid (RowB wa w.heap.size 43 [.int .i64 f, .int .i64 t]) := Lib.hid (by rw [hwa]; exact row_laid _ _ _)
  have HPR := Lib.hid (fun W => rproper_any f t W)
  have HX := Lib.hid XA
  rcases okC_cases f t len with ⟨h1, h2⟩ | ⟨h1, h2, h3⟩ | ⟨h1, h2, h3, h4⟩ | ⟨h1, h2, h3, h4⟩
  · rw [h1] at HPR
    clear h1 h2 hc XA
    go_enter Tryd.func20, Tryd.ntmps20
    go_upto_region 1 with fail
    rw [← hwa]
    clear hwa
    obtain ⟨g, hg⟩ : ∃ g, w.heap.size = g := ⟨_, rfl⟩
    rw [hg] at HT ⊢
    have c0 := HT.out.cell (j := 0) rfl
    have c1 := HT.out.cell (j := 1) rfl
    clear hg
    go_wp2_with fail
    refine (HPR.out _).mono ?_
    rintro e w1 ⟨rfl, hx1⟩
    have d0 := (HT.out.ext hx1).cell (j := 0) rfl
    have d1 := (HT.out.ext hx1).cell (j := 1) rfl
    clear c0 c1
    go_wp2_with fail
    go_ret2
    exact ⟨rfl, HX.out.trans hx1⟩
  · rw [h1] at HPR
    clear h1 h3 hc XA
    go_enter Tryd.func20, Tryd.ntmps20
    go_upto_region 1 with fail
    rw [← hwa]
    clear hwa
    obtain ⟨g, hg⟩ : ∃ g, w.heap.size = g := ⟨_, rfl⟩
    rw [hg] at HT ⊢
    have c0 := HT.out.cell (j := 0) rfl
    have c1 := HT.out.cell (j := 1) rfl
    clear hg
    go_wp2_with fail
    refine (HPR.out _).mono ?_
    rintro e w1 ⟨rfl, hx1⟩
    have d0 := (HT.out.ext hx1).cell (j := 0) rfl
    have d1 := (HT.out.ext hx1).cell (j := 1) rfl
    clear c0 c1
    go_wp2_with fail
    go_ret2
    exact ⟨rfl, HX.out.trans hx1⟩
  · rw [h1] at HPR
    clear h1 h4 hc XA
    go_enter Tryd.func20, Tryd.ntmps20
    go_upto_region 1 with fail
    rw [← hwa]
    clear hwa
    obtain ⟨g, hg⟩ : ∃ g, w.heap.size = g := ⟨_, rfl⟩
    rw [hg] at HT ⊢
    have c0 := HT.out.cell (j := 0) rfl
    have c1 := HT.out.cell (j := 1) rfl
    clear hg
    go_wp2_with fail
    refine (HPR.out _).mono ?_
    rintro e w1 ⟨rfl, hx1⟩
    have d0 := (HT.out.ext hx1).cell (j := 0) rfl
    have d1 := (HT.out.ext hx1).cell (j := 1) rfl
    clear c0 c1
    go_wp2_with fail
    go_ret2
    exact ⟨rfl, HX.out.trans hx1⟩
  · rw [h4] at hc
    cases hc
end Go.Proofs.YteamnofooicbeaaDoor
