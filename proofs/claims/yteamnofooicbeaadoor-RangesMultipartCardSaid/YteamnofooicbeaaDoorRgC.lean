/- Chapter 09: the elements of a list of ranges. -/
import Derived.Test.YteamnofooicbeaaDoorRgB
import Derived.Test.YteamnofooicbeaaDoorRow
namespace Go.Proofs.YteamnofooicbeaaDoor
open Go.RowKit
theorem row_laid (w : World) (e : TypeId) (xs : List Value) : RowB (w.alloc (.cells xs.toArray e)) w.heap.size e xs :=
  ⟨xs.toArray, (0, 0), [], by show (w.heap.push _)[w.heap.size]? = _; simp, fun j h1 h2 => by simp at h2, by simp⟩
/-- a library variable that the searches read -/
def MaxL (w : World) : Prop := ∃ m, w.cell? ⟨0, 0, none⟩ = some (.int .i64 m)
theorem MaxL.ext {w w' : World} (h : MaxL w) (hx : Ext w w') : MaxL w' := let ⟨m, hm⟩ := h; ⟨m, hx.cell hm⟩
theorem scut_any (s : ByteArray) (c : UInt8) (hs : s.size < 4294967281) (w : World) (hM : MaxL w) :
    Calls Tryd.prog 50 #[.string s, .string ⟨#[c]⟩] w fun e w' => e = .returned (.tuple #[.string (cutF s c).1, .string (cutF s c).2.1, .bool (cutF s c).2.2]) ∧ Ext w w' := by
  obtain ⟨m, hm⟩ := hM
  refine (Any.strings_Cut (P := Tryd.prog) (ρ := Tryd.laysM145_ren) { Tryd.laysM145 with } s ⟨#[c]⟩ m w hs hm).mono ?_
  rintro e w' ⟨rfl, n, rfl⟩
  exact ⟨rfl, (Ext.refl w).drewN n⟩
theorem cutF_size (s : ByteArray) (c : UInt8) : (cutF s c).1.size ≤ s.size ∧ (cutF s c).2.1.size ≤ s.size := by
  unfold cutF Lib.cut
  simp only
  rw [Lib.size_eq, Lib.size_eq, Lib.size_eq]
  split
  · simp only [List.length_take, List.length_drop]
    omega
  · simp
theorem rng_cells {w : World} {g : Nat} {T : TypeId} {a b : Int} (h : RowB w g T [.int .i64 a, .int .i64 b]) : w.cell? ⟨g, 0, none⟩ = some (.int .i64 a) ∧ w.cell? ⟨g, 1, none⟩ = some (.int .i64 b) ∧ w.frozen? ⟨g, 0, none⟩ = false ∧ w.frozen? ⟨g, 1, none⟩ = false :=
  ⟨h.cell (j := 0) rfl, h.cell (j := 1) rfl, h.frozen (j := 0) (by simp), h.frozen (j := 1) (by simp)⟩
theorem ext_set2 {a w : World} (h : Ext a w) {g : Nat} (hg : a.heap.size ≤ g) (v0 v1 : Value) : Ext a ((w.setCell ⟨g, 0, none⟩ v0).setCell ⟨g, 1, none⟩ v1) :=
  (h.setCell (p := ⟨g, 0, none⟩) hg v0).setCell (p := ⟨g, 1, none⟩) hg v1
def elF (s : ByteArray) (len : Int) : Option (Int × Int) :=
  if (cutF s 45).2.2 = true then
    if (cutF s 45).1.size = 0 then (numF (cutF s 45).2.1).map fun y => (max 0 (len - (y : Int)), len)
    else match numF (cutF s 45).1 with
      | none => none
      | some x => if (cutF s 45).2.1.size = 0 then some ((x : Int), len)
        else match numF (cutF s 45).2.1 with
          | none => none
          | some y => if y < x then none else some ((x : Int), min len ((y : Int) + 1))
  else none
theorem numF_empty {s : ByteArray} (h : s.size = 0) : numF s = none := by
  unfold numF
  rw [if_neg (fun hh => by have := hh.2.1; omega)]
theorem numr_some {s : ByteArray} {n : Nat} (hn : numF s = some n) (hs : (s.size : Int) ≤ 9223372036854775807) (w : World) :
    Calls Tryd.prog 51 #[.string s] w fun e w' => e = .returned (.tuple #[.int .i64 n, .bool true]) ∧ Ext w w' := by
  have h := numr_any s hs w
  unfold numV at h
  rw [hn] at h
  exact h
theorem numr_none {s : ByteArray} (hn : numF s = none) (hs : (s.size : Int) ≤ 9223372036854775807) (w : World) :
    Calls Tryd.prog 51 #[.string s] w fun e w' => e = .returned (.tuple #[.int .i64 0, .bool false]) ∧ Ext w w' := by
  have h := numr_any s hs w
  unfold numV at h
  rw [hn] at h
  exact h
set_option maxRecDepth 100000 in
set_option maxHeartbeats 1000000 in
theorem element_any (s : ByteArray) (len : Int) (h0 : 0 ≤ len) (h1 : len ≤ 9223372036854775807) (hs : s.size ≤ 100000) (w : World) (hM : MaxL w) :
    Calls Tryd.prog 43 #[.string s, .int .i64 len] w fun e w' => (∃ f t ok, e = .returned (.tuple #[.agg #[.int .i64 f, .int .i64 t], .bool ok]) ∧ ok = (elF s len).isSome ∧ ∀ p, elF s len = some p → p = (f, t)) ∧ Ext w w' := by
  obtain ⟨hz1, hz2⟩ := cutF_size s 45
  have HCU := Lib.hid (fun W (hW : Ext w W) => scut_any s 45 (by omega) W (hM.ext hW))
  unfold elF
  obtain ⟨⟨a, b, ok⟩, hcu⟩ : ∃ p, cutF s 45 = p := ⟨_, rfl⟩
  rw [hcu] at HCU hz1 hz2 ⊢
  simp only at HCU hz1 hz2 ⊢
  have hsa : (a.size : Int) ≤ 9223372036854775807 := by omega
  have hsb : (b.size : Int) ≤ 9223372036854775807 := by omega
  clear hcu hz1 hz2 hM
  cases ok with
  | false =>
    rw [if_neg (by simp)]
    go_enter Tryd.func43, Tryd.ntmps43
    obtain ⟨wa, hwa⟩ : ∃ wa, wa = w.alloc (.cells #[.int .i64 0, .int .i64 0] 37) := ⟨_, rfl⟩
    have XA : Ext w wa := by rw [hwa]; exact (Ext.refl w).alloc _
    have HT : Hid (RowB wa w.heap.size 37 [.int .i64 0, .int .i64 0]) := Lib.hid (by rw [hwa]; exact row_laid _ _ _)
    go_upto_region 1 with fail
    rw [← hwa]
    clear hwa
    obtain ⟨g, hg⟩ : ∃ g, w.heap.size = g := ⟨_, rfl⟩
    have HG := Lib.hid hg
    rw [hg] at HT ⊢
    clear hg
    go_upto_region 2 with (go_at_call 50; refine (HCU.out _ XA).mono ?_; rintro e w1 ⟨rfl, hx1⟩)
    obtain ⟨t0, t1, f0, f1⟩ := rng_cells (HT.out.ext hx1)
    go_wp2_with fail
    have hr := ((HT.out.ext hx1).set 0 (.int .i64 0) (by simp)).set 1 (.int .i64 0) (by simp)
    obtain ⟨r0, r1, -, -⟩ := rng_cells hr
    exact bodyPost_ret (v := .tuple #[.agg #[.int .i64 0, .int .i64 0], .bool false]) (by simp [results, Tryd.results43, go_sem, r0, r1]) rfl ⟨⟨_, _, _, rfl, rfl, fun p hp => by cases hp⟩, ext_set2 (XA.trans hx1) (by have := HG.out; omega) _ _⟩
  | true =>
    rw [if_pos rfl]
    by_cases ha0 : a.size = 0
    · have hae := empty_yes ha0
      rw [if_pos ha0]
      clear ha0
      cases hb : numF b with
      | none =>
        have HB := Lib.hid (fun W => numr_none hb hsb W)
        clear hb
        have w1' : wrap64 len = len := by unfold wrap64; omega
        go_enter Tryd.func43, Tryd.ntmps43
        obtain ⟨wa, hwa⟩ : ∃ wa, wa = w.alloc (.cells #[.int .i64 0, .int .i64 0] 37) := ⟨_, rfl⟩
        have XA : Ext w wa := by rw [hwa]; exact (Ext.refl w).alloc _
        have HT : Hid (RowB wa w.heap.size 37 [.int .i64 0, .int .i64 0]) := Lib.hid (by rw [hwa]; exact row_laid _ _ _)
        go_upto_region 1 with fail
        rw [← hwa]
        clear hwa
        obtain ⟨g, hg⟩ : ∃ g, w.heap.size = g := ⟨_, rfl⟩
        have HG := Lib.hid hg
        rw [hg] at HT ⊢
        clear hg
        go_upto_region 2 with (go_at_call 50; refine (HCU.out _ XA).mono ?_; rintro e w1 ⟨rfl, hx1⟩)
        go_upto_region 5 with (go_at_call 51; refine (HB.out _).mono ?_; rintro e w2 ⟨rfl, hx2⟩)
        obtain ⟨t0, t1, f0, f1⟩ := rng_cells (HT.out.ext (hx1.trans hx2))
        go_wp2_with fail
        have hr := ((HT.out.ext (hx1.trans hx2)).set 0 (.int .i64 (max 0 len)) (by simp)).set 1 (.int .i64 len) (by simp)
        obtain ⟨r0, r1, -, -⟩ := rng_cells hr
        exact bodyPost_ret (v := .tuple #[.agg #[.int .i64 (max 0 len), .int .i64 len], .bool false]) (by simp [results, Tryd.results43, go_sem, r0, r1]) rfl ⟨⟨_, _, _, rfl, rfl, fun p hp => by cases hp⟩, ext_set2 (XA.trans (hx1.trans hx2)) (by have := HG.out; omega) _ _⟩
      | some y =>
        have HB := Lib.hid (fun W => numr_some hb hsb W)
        have hy := numF_lt hb
        clear hb
        have w1' : wrap64 (len - (y : Int)) = len - (y : Int) := by unfold wrap64; omega
        go_enter Tryd.func43, Tryd.ntmps43
        obtain ⟨wa, hwa⟩ : ∃ wa, wa = w.alloc (.cells #[.int .i64 0, .int .i64 0] 37) := ⟨_, rfl⟩
        have XA : Ext w wa := by rw [hwa]; exact (Ext.refl w).alloc _
        have HT : Hid (RowB wa w.heap.size 37 [.int .i64 0, .int .i64 0]) := Lib.hid (by rw [hwa]; exact row_laid _ _ _)
        go_upto_region 1 with fail
        rw [← hwa]
        clear hwa
        obtain ⟨g, hg⟩ : ∃ g, w.heap.size = g := ⟨_, rfl⟩
        have HG := Lib.hid hg
        rw [hg] at HT ⊢
        clear hg
        go_upto_region 2 with (go_at_call 50; refine (HCU.out _ XA).mono ?_; rintro e w1 ⟨rfl, hx1⟩)
        go_upto_region 5 with (go_at_call 51; refine (HB.out _).mono ?_; rintro e w2 ⟨rfl, hx2⟩)
        obtain ⟨t0, t1, f0, f1⟩ := rng_cells (HT.out.ext (hx1.trans hx2))
        go_wp2_with fail
        have hr := ((HT.out.ext (hx1.trans hx2)).set 0 (.int .i64 (max 0 (len - (y : Int)))) (by simp)).set 1 (.int .i64 len) (by simp)
        obtain ⟨r0, r1, -, -⟩ := rng_cells hr
        exact bodyPost_ret (v := .tuple #[.agg #[.int .i64 (max 0 (len - (y : Int))), .int .i64 len], .bool true]) (by simp [results, Tryd.results43, go_sem, r0, r1]) rfl ⟨⟨_, _, _, rfl, rfl, fun p hp => by cases hp; rfl⟩, ext_set2 (XA.trans (hx1.trans hx2)) (by have := HG.out; omega) _ _⟩
    · have hae := empty_no (show 0 < a.size by omega)
      rw [if_neg ha0]
      clear ha0
      cases ha : numF a with
      | none =>
        have HA := Lib.hid (fun W => numr_none ha hsa W)
        have HB := Lib.hid (fun W => numr_any b hsb W)
        obtain ⟨vb, hvb⟩ : ∃ v, numV b = v := ⟨_, rfl⟩
        obtain ⟨ob, hob⟩ : ∃ v, (numF b).isSome = v := ⟨_, rfl⟩
        rw [hvb, hob] at HB
        clear ha hvb hob
        go_enter Tryd.func43, Tryd.ntmps43
        obtain ⟨wa, hwa⟩ : ∃ wa, wa = w.alloc (.cells #[.int .i64 0, .int .i64 0] 37) := ⟨_, rfl⟩
        have XA : Ext w wa := by rw [hwa]; exact (Ext.refl w).alloc _
        have HT : Hid (RowB wa w.heap.size 37 [.int .i64 0, .int .i64 0]) := Lib.hid (by rw [hwa]; exact row_laid _ _ _)
        go_upto_region 1 with fail
        rw [← hwa]
        clear hwa
        obtain ⟨g, hg⟩ : ∃ g, w.heap.size = g := ⟨_, rfl⟩
        have HG := Lib.hid hg
        rw [hg] at HT ⊢
        clear hg
        go_upto_region 2 with (go_at_call 50; refine (HCU.out _ XA).mono ?_; rintro e w1 ⟨rfl, hx1⟩)
        go_upto_region 5 with (go_at_call 51; refine (HB.out _).mono ?_; rintro e w2 ⟨rfl, hx2⟩)
        go_upto_region 8 with (go_at_call 51; refine (HA.out _).mono ?_; rintro e w3 ⟨rfl, hx3⟩)
        obtain ⟨t0, t1, f0, f1⟩ := rng_cells (HT.out.ext ((hx1.trans hx2).trans hx3))
        go_wp2_with fail
        have hr := ((HT.out.ext ((hx1.trans hx2).trans hx3)).set 0 (.int .i64 0) (by simp)).set 1 (.int .i64 0) (by simp)
        obtain ⟨r0, r1, -, -⟩ := rng_cells hr
        exact bodyPost_ret (v := .tuple #[.agg #[.int .i64 0, .int .i64 0], .bool false]) (by simp [results, Tryd.results43, go_sem, r0, r1]) rfl ⟨⟨_, _, _, rfl, rfl, fun p hp => by cases hp⟩, ext_set2 (XA.trans ((hx1.trans hx2).trans hx3)) (by have := HG.out; omega) _ _⟩
      | some x =>
        have HA := Lib.hid (fun W => numr_some ha hsa W)
        have hx := numF_lt ha
        clear ha
        simp only
        by_cases hb0 : b.size = 0
        · have hbe := empty_yes hb0
          rw [if_pos hb0]
          have HB := Lib.hid (fun W => numr_none (numF_empty hb0) hsb W)
          clear hb0
          go_enter Tryd.func43, Tryd.ntmps43
          obtain ⟨wa, hwa⟩ : ∃ wa, wa = w.alloc (.cells #[.int .i64 0, .int .i64 0] 37) := ⟨_, rfl⟩
          have XA : Ext w wa := by rw [hwa]; exact (Ext.refl w).alloc _
          have HT : Hid (RowB wa w.heap.size 37 [.int .i64 0, .int .i64 0]) := Lib.hid (by rw [hwa]; exact row_laid _ _ _)
          go_upto_region 1 with fail
          rw [← hwa]
          clear hwa
          obtain ⟨g, hg⟩ : ∃ g, w.heap.size = g := ⟨_, rfl⟩
          have HG := Lib.hid hg
          rw [hg] at HT ⊢
          clear hg
          go_upto_region 2 with (go_at_call 50; refine (HCU.out _ XA).mono ?_; rintro e w1 ⟨rfl, hx1⟩)
          go_upto_region 5 with (go_at_call 51; refine (HB.out _).mono ?_; rintro e w2 ⟨rfl, hx2⟩)
          go_upto_region 8 with (go_at_call 51; refine (HA.out _).mono ?_; rintro e w3 ⟨rfl, hx3⟩)
          obtain ⟨t0, t1, f0, f1⟩ := rng_cells (HT.out.ext ((hx1.trans hx2).trans hx3))
          go_wp2_with fail
          have hr := ((HT.out.ext ((hx1.trans hx2).trans hx3)).set 0 (.int .i64 (x : Int)) (by simp)).set 1 (.int .i64 len) (by simp)
          obtain ⟨r0, r1, -, -⟩ := rng_cells hr
          exact bodyPost_ret (v := .tuple #[.agg #[.int .i64 (x : Int), .int .i64 len], .bool true]) (by simp [results, Tryd.results43, go_sem, r0, r1]) rfl ⟨⟨_, _, _, rfl, rfl, fun p hp => by cases hp; rfl⟩, ext_set2 (XA.trans ((hx1.trans hx2).trans hx3)) (by have := HG.out; omega) _ _⟩
        · have hbe := empty_no (show 0 < b.size by omega)
          rw [if_neg hb0]
          clear hb0
          cases hb : numF b with
          | none =>
            have HB := Lib.hid (fun W => numr_none hb hsb W)
            clear hb
            go_enter Tryd.func43, Tryd.ntmps43
            obtain ⟨wa, hwa⟩ : ∃ wa, wa = w.alloc (.cells #[.int .i64 0, .int .i64 0] 37) := ⟨_, rfl⟩
            have XA : Ext w wa := by rw [hwa]; exact (Ext.refl w).alloc _
            have HT : Hid (RowB wa w.heap.size 37 [.int .i64 0, .int .i64 0]) := Lib.hid (by rw [hwa]; exact row_laid _ _ _)
            go_upto_region 1 with fail
            rw [← hwa]
            clear hwa
            obtain ⟨g, hg⟩ : ∃ g, w.heap.size = g := ⟨_, rfl⟩
            have HG := Lib.hid hg
            rw [hg] at HT ⊢
            clear hg
            go_upto_region 2 with (go_at_call 50; refine (HCU.out _ XA).mono ?_; rintro e w1 ⟨rfl, hx1⟩)
            go_upto_region 5 with (go_at_call 51; refine (HB.out _).mono ?_; rintro e w2 ⟨rfl, hx2⟩)
            go_upto_region 8 with (go_at_call 51; refine (HA.out _).mono ?_; rintro e w3 ⟨rfl, hx3⟩)
            obtain ⟨t0, t1, f0, f1⟩ := rng_cells (HT.out.ext ((hx1.trans hx2).trans hx3))
            go_wp2_with fail
            have hr := ((HT.out.ext ((hx1.trans hx2).trans hx3)).set 0 (.int .i64 0) (by simp)).set 1 (.int .i64 0) (by simp)
            obtain ⟨r0, r1, -, -⟩ := rng_cells hr
            exact bodyPost_ret (v := .tuple #[.agg #[.int .i64 0, .int .i64 0], .bool false]) (by simp [results, Tryd.results43, go_sem, r0, r1]) rfl ⟨⟨_, _, _, rfl, rfl, fun p hp => by cases hp⟩, ext_set2 (XA.trans ((hx1.trans hx2).trans hx3)) (by have := HG.out; omega) _ _⟩
          | some y =>
            have HB := Lib.hid (fun W => numr_some hb hsb W)
            have hy := numF_lt hb
            clear hb
            simp only
            by_cases hyx : y < x
            · rw [if_pos hyx]
              have hyx' : (y : Int) < (x : Int) := by omega
              go_enter Tryd.func43, Tryd.ntmps43
              obtain ⟨wa, hwa⟩ : ∃ wa, wa = w.alloc (.cells #[.int .i64 0, .int .i64 0] 37) := ⟨_, rfl⟩
              have XA : Ext w wa := by rw [hwa]; exact (Ext.refl w).alloc _
              have HT : Hid (RowB wa w.heap.size 37 [.int .i64 0, .int .i64 0]) := Lib.hid (by rw [hwa]; exact row_laid _ _ _)
              go_upto_region 1 with fail
              rw [← hwa]
              clear hwa
              obtain ⟨g, hg⟩ : ∃ g, w.heap.size = g := ⟨_, rfl⟩
              have HG := Lib.hid hg
              rw [hg] at HT ⊢
              clear hg
              go_upto_region 2 with (go_at_call 50; refine (HCU.out _ XA).mono ?_; rintro e w1 ⟨rfl, hx1⟩)
              go_upto_region 5 with (go_at_call 51; refine (HB.out _).mono ?_; rintro e w2 ⟨rfl, hx2⟩)
              go_upto_region 8 with (go_at_call 51; refine (HA.out _).mono ?_; rintro e w3 ⟨rfl, hx3⟩)
              obtain ⟨t0, t1, f0, f1⟩ := rng_cells (HT.out.ext ((hx1.trans hx2).trans hx3))
              go_wp2_with fail
              have hr := ((HT.out.ext ((hx1.trans hx2).trans hx3)).set 0 (.int .i64 0) (by simp)).set 1 (.int .i64 0) (by simp)
              obtain ⟨r0, r1, -, -⟩ := rng_cells hr
              exact bodyPost_ret (v := .tuple #[.agg #[.int .i64 0, .int .i64 0], .bool false]) (by simp [results, Tryd.results43, go_sem, r0, r1]) rfl ⟨⟨_, _, _, rfl, rfl, fun p hp => by cases hp⟩, ext_set2 (XA.trans ((hx1.trans hx2).trans hx3)) (by have := HG.out; omega) _ _⟩
            · rw [if_neg hyx]
              have hyx' : ¬ (y : Int) < (x : Int) := by omega
              have w1' : wrap64 ((y : Int) + 1) = (y : Int) + 1 := by unfold wrap64; omega
              clear hyx
              go_enter Tryd.func43, Tryd.ntmps43
              obtain ⟨wa, hwa⟩ : ∃ wa, wa = w.alloc (.cells #[.int .i64 0, .int .i64 0] 37) := ⟨_, rfl⟩
              have XA : Ext w wa := by rw [hwa]; exact (Ext.refl w).alloc _
              have HT : Hid (RowB wa w.heap.size 37 [.int .i64 0, .int .i64 0]) := Lib.hid (by rw [hwa]; exact row_laid _ _ _)
              go_upto_region 1 with fail
              rw [← hwa]
              clear hwa
              obtain ⟨g, hg⟩ : ∃ g, w.heap.size = g := ⟨_, rfl⟩
              have HG := Lib.hid hg
              rw [hg] at HT ⊢
              clear hg
              go_upto_region 2 with (go_at_call 50; refine (HCU.out _ XA).mono ?_; rintro e w1 ⟨rfl, hx1⟩)
              go_upto_region 5 with (go_at_call 51; refine (HB.out _).mono ?_; rintro e w2 ⟨rfl, hx2⟩)
              go_upto_region 8 with (go_at_call 51; refine (HA.out _).mono ?_; rintro e w3 ⟨rfl, hx3⟩)
              obtain ⟨t0, t1, f0, f1⟩ := rng_cells (HT.out.ext ((hx1.trans hx2).trans hx3))
              go_wp2_with fail
              have hr := ((HT.out.ext ((hx1.trans hx2).trans hx3)).set 0 (.int .i64 (x : Int)) (by simp)).set 1 (.int .i64 (min len ((y : Int) + 1))) (by simp)
              obtain ⟨r0, r1, -, -⟩ := rng_cells hr
              exact bodyPost_ret (v := .tuple #[.agg #[.int .i64 (x : Int), .int .i64 (min len ((y : Int) + 1))], .bool true]) (by simp [results, Tryd.results43, go_sem, r0, r1]) rfl ⟨⟨_, _, _, rfl, rfl, fun p hp => by cases hp; rfl⟩, ext_set2 (XA.trans ((hx1.trans hx2).trans hx3)) (by have := HG.out; omega) _ _⟩
end Go.Proofs.YteamnofooicbeaaDoor
