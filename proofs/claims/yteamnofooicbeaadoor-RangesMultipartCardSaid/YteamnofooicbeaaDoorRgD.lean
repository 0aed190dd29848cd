/- Chapter 09: the reference's element. -/
import Derived.Test.YteamnofooicbeaaDoorRgC
import Derived.Deep.RegionWith
namespace Go.Proofs.YteamnofooicbeaaDoor
open Go.RowKit
set_option maxRecDepth 100000 in
set_option maxHeartbeats 1000000 in
theorem relement_any (s : ByteArray) (len : Int) (h0 : 0 ≤ len) (h1 : len ≤ 9223372036854775807) (hs : s.size ≤ 100000) (w : World) :
    Calls Tryd.prog 45 #[.string s, .int .i64 len] w fun e w' => (∃ f t ok, e = .returned (.tuple #[.agg #[.int .i64 f, .int .i64 t], .bool ok]) ∧ ok = (elF s len).isSome ∧ ∀ p, elF s len = some p → p = (f, t)) ∧ Ext w w' := by
  obtain ⟨hz1, hz2⟩ := cutF_size s 45
  have HCU : Hid (∀ W, Ext w W → Calls Tryd.prog 52 #[.string s, .int .u8 45] W fun e w' => e = .returned (.tuple #[.string (cutF s 45).1, .string (cutF s 45).2.1, .bool (cutF s 45).2.2]) ∧ Ext W w') := Lib.hid (fun W _ => cut_any s 45 (by omega) W)
  unfold elF
  obtain ⟨⟨a, b, ok⟩, hcu⟩ : ∃ p, cutF s 45 = p := ⟨_, rfl⟩
  rw [hcu] at HCU hz1 hz2 ⊢
  simp only at HCU hz1 hz2 ⊢
  have hsa : (a.size : Int) ≤ 9223372036854775807 := by omega
  have hsb : (b.size : Int) ≤ 9223372036854775807 := by omega
  clear hcu hz1 hz2
  cases ok with
  | false =>
    rw [if_neg (by simp)]
    go_enter Tryd.func45, Tryd.ntmps45
    obtain ⟨wa, hwa⟩ : ∃ wa, wa = w.alloc (.cells #[.int .i64 0, .int .i64 0] 43) := ⟨_, rfl⟩
    have XA : Ext w wa := by rw [hwa]; exact (Ext.refl w).alloc _
    have HT : Hid (RowB wa w.heap.size 43 [.int .i64 0, .int .i64 0]) := Lib.hid (by rw [hwa]; exact row_laid _ _ _)
    go_upto_region 1 with fail
    rw [← hwa]
    clear hwa
    obtain ⟨g, hg⟩ : ∃ g, w.heap.size = g := ⟨_, rfl⟩
    have HG := Lib.hid hg
    rw [hg] at HT ⊢
    clear hg
    go_upto_region 2 with (go_at_call 52; refine (HCU.out _ XA).mono ?_; rintro e w1 ⟨rfl, hx1⟩)
    obtain ⟨t0, t1, f0, f1⟩ := rng_cells (HT.out.ext hx1)
    go_wp2_with fail
    have hr := ((HT.out.ext hx1).set 0 (.int .i64 0) (by simp)).set 1 (.int .i64 0) (by simp)
    obtain ⟨r0, r1, -, -⟩ := rng_cells hr
    exact bodyPost_ret (v := .tuple #[.agg #[.int .i64 0, .int .i64 0], .bool false]) (by simp [results, Tryd.results45, go_sem, r0, r1]) rfl ⟨⟨_, _, _, rfl, rfl, fun p hp => by cases hp⟩, ext_set2 (XA.trans hx1) (by have := HG.out; omega) _ _⟩
  | true =>
    rw [if_pos rfl]
    by_cases ha0 : a.size = 0
    · have hae := empty_yes ha0
      rw [if_pos ha0]
      clear ha0
      by_cases hb0 : b.size = 0
      · have hbe := empty_yes hb0
        rw [numF_empty hb0]
        clear hb0
        go_enter Tryd.func45, Tryd.ntmps45
        obtain ⟨wa, hwa⟩ : ∃ wa, wa = w.alloc (.cells #[.int .i64 0, .int .i64 0] 43) := ⟨_, rfl⟩
        have XA : Ext w wa := by rw [hwa]; exact (Ext.refl w).alloc _
        have HT : Hid (RowB wa w.heap.size 43 [.int .i64 0, .int .i64 0]) := Lib.hid (by rw [hwa]; exact row_laid _ _ _)
        go_upto_region 1 with fail
        rw [← hwa]
        clear hwa
        obtain ⟨g, hg⟩ : ∃ g, w.heap.size = g := ⟨_, rfl⟩
        have HG := Lib.hid hg
        rw [hg] at HT ⊢
        clear hg
        go_upto_region 2 with (go_at_call 52; refine (HCU.out _ XA).mono ?_; rintro e w1 ⟨rfl, hx1⟩)
        obtain ⟨t0, t1, f0, f1⟩ := rng_cells (HT.out.ext hx1)
        go_wp2_with fail
        have hr := ((HT.out.ext hx1).set 0 (.int .i64 0) (by simp)).set 1 (.int .i64 0) (by simp)
        obtain ⟨r0, r1, -, -⟩ := rng_cells hr
        exact bodyPost_ret (v := .tuple #[.agg #[.int .i64 0, .int .i64 0], .bool false]) (by simp [results, Tryd.results45, go_sem, r0, r1]) rfl ⟨⟨_, _, _, rfl, rfl, fun p hp => by cases hp⟩, ext_set2 (XA.trans hx1) (by have := HG.out; omega) _ _⟩
      · have hbe := empty_no (show 0 < b.size by omega)
        clear hb0
        cases hb : numF b with
        | none =>
          have DB := Lib.hid (fun W => digits_any b hsb W)
          rw [hb] at DB
          clear hb
          go_enter Tryd.func45, Tryd.ntmps45
          obtain ⟨wa, hwa⟩ : ∃ wa, wa = w.alloc (.cells #[.int .i64 0, .int .i64 0] 43) := ⟨_, rfl⟩
          have XA : Ext w wa := by rw [hwa]; exact (Ext.refl w).alloc _
          have HT : Hid (RowB wa w.heap.size 43 [.int .i64 0, .int .i64 0]) := Lib.hid (by rw [hwa]; exact row_laid _ _ _)
          go_upto_region 1 with fail
          rw [← hwa]
          clear hwa
          obtain ⟨g, hg⟩ : ∃ g, w.heap.size = g := ⟨_, rfl⟩
          have HG := Lib.hid hg
          rw [hg] at HT ⊢
          clear hg
          go_upto_region 2 with (go_at_call 52; refine (HCU.out _ XA).mono ?_; rintro e w1 ⟨rfl, hx1⟩)
          obtain ⟨t0, t1, f0, f1⟩ := rng_cells (HT.out.ext hx1)
          go_wp2_with (go_at_call_of 53 (Value.string b); refine (DB.out _).mono ?_; rintro e w' ⟨rfl, rfl⟩)
          have hr := ((HT.out.ext hx1).set 0 (.int .i64 0) (by simp)).set 1 (.int .i64 0) (by simp)
          obtain ⟨r0, r1, -, -⟩ := rng_cells hr
          exact bodyPost_ret (v := .tuple #[.agg #[.int .i64 0, .int .i64 0], .bool false]) (by simp [results, Tryd.results45, go_sem, r0, r1]) rfl ⟨⟨_, _, _, rfl, rfl, fun p hp => by cases hp⟩, ext_set2 (XA.trans hx1) (by have := HG.out; omega) _ _⟩
        | some y =>
          have DB := Lib.hid (fun W => digits_any b hsb W)
          rw [hb] at DB
          have VB := Lib.hid (fun W => value_any b hb W)
          have lb := numF_lt hb
          clear hb
          have w1' : wrap64 (len - (y : Int)) = len - (y : Int) := by unfold wrap64; omega
          go_enter Tryd.func45, Tryd.ntmps45
          obtain ⟨wa, hwa⟩ : ∃ wa, wa = w.alloc (.cells #[.int .i64 0, .int .i64 0] 43) := ⟨_, rfl⟩
          have XA : Ext w wa := by rw [hwa]; exact (Ext.refl w).alloc _
          have HT : Hid (RowB wa w.heap.size 43 [.int .i64 0, .int .i64 0]) := Lib.hid (by rw [hwa]; exact row_laid _ _ _)
          go_upto_region 1 with fail
          rw [← hwa]
          clear hwa
          obtain ⟨g, hg⟩ : ∃ g, w.heap.size = g := ⟨_, rfl⟩
          have HG := Lib.hid hg
          rw [hg] at HT ⊢
          clear hg
          go_upto_region 2 with (go_at_call 52; refine (HCU.out _ XA).mono ?_; rintro e w1 ⟨rfl, hx1⟩)
          obtain ⟨t0, t1, f0, f1⟩ := rng_cells (HT.out.ext hx1)
          go_wp2_with (first
      | (go_at_call_of 53 (Value.string b); refine (DB.out _).mono ?_; rintro e w' ⟨rfl, rfl⟩)
      | (go_at_call_of 54 (Value.string b); refine (VB.out _).mono ?_; rintro e w' ⟨rfl, rfl⟩))
          have hr := ((HT.out.ext hx1).set 0 (.int .i64 (max 0 (len - (y : Int)))) (by simp)).set 1 (.int .i64 len) (by simp)
          obtain ⟨r0, r1, -, -⟩ := rng_cells hr
          exact bodyPost_ret (v := .tuple #[.agg #[.int .i64 (max 0 (len - (y : Int))), .int .i64 len], .bool true]) (by simp [results, Tryd.results45, go_sem, r0, r1]) rfl ⟨⟨_, _, _, rfl, rfl, fun p hp => by cases hp; rfl⟩, ext_set2 (XA.trans hx1) (by have := HG.out; omega) _ _⟩
    · have hae := empty_no (show 0 < a.size by omega)
      rw [if_neg ha0]
      clear ha0
      cases ha : numF a with
      | none =>
        have DA := Lib.hid (fun W => digits_any a hsa W)
        rw [ha] at DA
        clear ha
        go_enter Tryd.func45, Tryd.ntmps45
        obtain ⟨wa, hwa⟩ : ∃ wa, wa = w.alloc (.cells #[.int .i64 0, .int .i64 0] 43) := ⟨_, rfl⟩
        have XA : Ext w wa := by rw [hwa]; exact (Ext.refl w).alloc _
        have HT : Hid (RowB wa w.heap.size 43 [.int .i64 0, .int .i64 0]) := Lib.hid (by rw [hwa]; exact row_laid _ _ _)
        go_upto_region 1 with fail
        rw [← hwa]
        clear hwa
        obtain ⟨g, hg⟩ : ∃ g, w.heap.size = g := ⟨_, rfl⟩
        have HG := Lib.hid hg
        rw [hg] at HT ⊢
        clear hg
        go_upto_region 2 with (go_at_call 52; refine (HCU.out _ XA).mono ?_; rintro e w1 ⟨rfl, hx1⟩)
        obtain ⟨t0, t1, f0, f1⟩ := rng_cells (HT.out.ext hx1)
        go_wp2_with (go_at_call_of 53 (Value.string a); refine (DA.out _).mono ?_; rintro e w' ⟨rfl, rfl⟩)
        have hr := ((HT.out.ext hx1).set 0 (.int .i64 0) (by simp)).set 1 (.int .i64 0) (by simp)
        obtain ⟨r0, r1, -, -⟩ := rng_cells hr
        exact bodyPost_ret (v := .tuple #[.agg #[.int .i64 0, .int .i64 0], .bool false]) (by simp [results, Tryd.results45, go_sem, r0, r1]) rfl ⟨⟨_, _, _, rfl, rfl, fun p hp => by cases hp⟩, ext_set2 (XA.trans hx1) (by have := HG.out; omega) _ _⟩
      | some x =>
        have DA := Lib.hid (fun W => digits_any a hsa W)
        rw [ha] at DA
        have VA := Lib.hid (fun W => value_any a ha W)
        have la := numF_lt ha
        clear ha
        simp only
        by_cases hb0 : b.size = 0
        · have hbe := empty_yes hb0
          rw [if_pos hb0]
          clear hb0
          go_enter Tryd.func45, Tryd.ntmps45
          obtain ⟨wa, hwa⟩ : ∃ wa, wa = w.alloc (.cells #[.int .i64 0, .int .i64 0] 43) := ⟨_, rfl⟩
          have XA : Ext w wa := by rw [hwa]; exact (Ext.refl w).alloc _
          have HT : Hid (RowB wa w.heap.size 43 [.int .i64 0, .int .i64 0]) := Lib.hid (by rw [hwa]; exact row_laid _ _ _)
          go_upto_region 1 with fail
          rw [← hwa]
          clear hwa
          obtain ⟨g, hg⟩ : ∃ g, w.heap.size = g := ⟨_, rfl⟩
          have HG := Lib.hid hg
          rw [hg] at HT ⊢
          clear hg
          go_upto_region 2 with (go_at_call 52; refine (HCU.out _ XA).mono ?_; rintro e w1 ⟨rfl, hx1⟩)
          obtain ⟨t0, t1, f0, f1⟩ := rng_cells (HT.out.ext hx1)
          go_wp2_with (first
      | (go_at_call_of 53 (Value.string a); refine (DA.out _).mono ?_; rintro e w' ⟨rfl, rfl⟩)
      | (go_at_call_of 54 (Value.string a); refine (VA.out _).mono ?_; rintro e w' ⟨rfl, rfl⟩))
          have hr := ((HT.out.ext hx1).set 0 (.int .i64 (x : Int)) (by simp)).set 1 (.int .i64 len) (by simp)
          obtain ⟨r0, r1, -, -⟩ := rng_cells hr
          exact bodyPost_ret (v := .tuple #[.agg #[.int .i64 (x : Int), .int .i64 len], .bool true]) (by simp [results, Tryd.results45, go_sem, r0, r1]) rfl ⟨⟨_, _, _, rfl, rfl, fun p hp => by cases hp; rfl⟩, ext_set2 (XA.trans hx1) (by have := HG.out; omega) _ _⟩
        · have hbe := empty_no (show 0 < b.size by omega)
          rw [if_neg hb0]
          clear hb0
          cases hb : numF b with
          | none =>
            have DB := Lib.hid (fun W => digits_any b hsb W)
            rw [hb] at DB
            clear hb
            go_enter Tryd.func45, Tryd.ntmps45
            obtain ⟨wa, hwa⟩ : ∃ wa, wa = w.alloc (.cells #[.int .i64 0, .int .i64 0] 43) := ⟨_, rfl⟩
            have XA : Ext w wa := by rw [hwa]; exact (Ext.refl w).alloc _
            have HT : Hid (RowB wa w.heap.size 43 [.int .i64 0, .int .i64 0]) := Lib.hid (by rw [hwa]; exact row_laid _ _ _)
            go_upto_region 1 with fail
            rw [← hwa]
            clear hwa
            obtain ⟨g, hg⟩ : ∃ g, w.heap.size = g := ⟨_, rfl⟩
            have HG := Lib.hid hg
            rw [hg] at HT ⊢
            clear hg
            go_upto_region 2 with (go_at_call 52; refine (HCU.out _ XA).mono ?_; rintro e w1 ⟨rfl, hx1⟩)
            obtain ⟨t0, t1, f0, f1⟩ := rng_cells (HT.out.ext hx1)
            go_wp2_with (first
      | (go_at_call_of 53 (Value.string a); refine (DA.out _).mono ?_; rintro e w' ⟨rfl, rfl⟩)
      | (go_at_call_of 53 (Value.string b); refine (DB.out _).mono ?_; rintro e w' ⟨rfl, rfl⟩)
      | (go_at_call_of 54 (Value.string a); refine (VA.out _).mono ?_; rintro e w' ⟨rfl, rfl⟩))
            have hr := ((HT.out.ext hx1).set 0 (.int .i64 0) (by simp)).set 1 (.int .i64 0) (by simp)
            obtain ⟨r0, r1, -, -⟩ := rng_cells hr
            exact bodyPost_ret (v := .tuple #[.agg #[.int .i64 0, .int .i64 0], .bool false]) (by simp [results, Tryd.results45, go_sem, r0, r1]) rfl ⟨⟨_, _, _, rfl, rfl, fun p hp => by cases hp⟩, ext_set2 (XA.trans hx1) (by have := HG.out; omega) _ _⟩
          | some y =>
            have DB := Lib.hid (fun W => digits_any b hsb W)
            rw [hb] at DB
            have VB := Lib.hid (fun W => value_any b hb W)
            have lb := numF_lt hb
            clear hb
            simp only
            by_cases hyx : y < x
            · rw [if_pos hyx]
              have hyx' : (y : Int) < (x : Int) := by omega
              go_enter Tryd.func45, Tryd.ntmps45
              obtain ⟨wa, hwa⟩ : ∃ wa, wa = w.alloc (.cells #[.int .i64 0, .int .i64 0] 43) := ⟨_, rfl⟩
              have XA : Ext w wa := by rw [hwa]; exact (Ext.refl w).alloc _
              have HT : Hid (RowB wa w.heap.size 43 [.int .i64 0, .int .i64 0]) := Lib.hid (by rw [hwa]; exact row_laid _ _ _)
              go_upto_region 1 with fail
              rw [← hwa]
              clear hwa
              obtain ⟨g, hg⟩ : ∃ g, w.heap.size = g := ⟨_, rfl⟩
              have HG := Lib.hid hg
              rw [hg] at HT ⊢
              clear hg
              go_upto_region 2 with (go_at_call 52; refine (HCU.out _ XA).mono ?_; rintro e w1 ⟨rfl, hx1⟩)
              obtain ⟨t0, t1, f0, f1⟩ := rng_cells (HT.out.ext hx1)
              go_wp2_with (first
      | (go_at_call_of 53 (Value.string a); refine (DA.out _).mono ?_; rintro e w' ⟨rfl, rfl⟩)
      | (go_at_call_of 53 (Value.string b); refine (DB.out _).mono ?_; rintro e w' ⟨rfl, rfl⟩)
      | (go_at_call_of 54 (Value.string a); refine (VA.out _).mono ?_; rintro e w' ⟨rfl, rfl⟩)
      | (go_at_call_of 54 (Value.string b); refine (VB.out _).mono ?_; rintro e w' ⟨rfl, rfl⟩))
              have hr := ((HT.out.ext hx1).set 0 (.int .i64 0) (by simp)).set 1 (.int .i64 0) (by simp)
              obtain ⟨r0, r1, -, -⟩ := rng_cells hr
              exact bodyPost_ret (v := .tuple #[.agg #[.int .i64 0, .int .i64 0], .bool false]) (by simp [results, Tryd.results45, go_sem, r0, r1]) rfl ⟨⟨_, _, _, rfl, rfl, fun p hp => by cases hp⟩, ext_set2 (XA.trans hx1) (by have := HG.out; omega) _ _⟩
            · rw [if_neg hyx, Int.min_comm]
              have hyx' : ¬ (y : Int) < (x : Int) := by omega
              have w1' : wrap64 ((y : Int) + 1) = (y : Int) + 1 := by unfold wrap64; omega
              clear hyx
              go_enter Tryd.func45, Tryd.ntmps45
              obtain ⟨wa, hwa⟩ : ∃ wa, wa = w.alloc (.cells #[.int .i64 0, .int .i64 0] 43) := ⟨_, rfl⟩
              have XA : Ext w wa := by rw [hwa]; exact (Ext.refl w).alloc _
              have HT : Hid (RowB wa w.heap.size 43 [.int .i64 0, .int .i64 0]) := Lib.hid (by rw [hwa]; exact row_laid _ _ _)
              go_upto_region 1 with fail
              rw [← hwa]
              clear hwa
              obtain ⟨g, hg⟩ : ∃ g, w.heap.size = g := ⟨_, rfl⟩
              have HG := Lib.hid hg
              rw [hg] at HT ⊢
              clear hg
              go_upto_region 2 with (go_at_call 52; refine (HCU.out _ XA).mono ?_; rintro e w1 ⟨rfl, hx1⟩)
              obtain ⟨t0, t1, f0, f1⟩ := rng_cells (HT.out.ext hx1)
              go_wp2_with (first
      | (go_at_call_of 53 (Value.string a); refine (DA.out _).mono ?_; rintro e w' ⟨rfl, rfl⟩)
      | (go_at_call_of 53 (Value.string b); refine (DB.out _).mono ?_; rintro e w' ⟨rfl, rfl⟩)
      | (go_at_call_of 54 (Value.string a); refine (VA.out _).mono ?_; rintro e w' ⟨rfl, rfl⟩)
      | (go_at_call_of 54 (Value.string b); refine (VB.out _).mono ?_; rintro e w' ⟨rfl, rfl⟩))
              have hr := ((HT.out.ext hx1).set 0 (.int .i64 (x : Int)) (by simp)).set 1 (.int .i64 (min ((y : Int) + 1) len)) (by simp)
              obtain ⟨r0, r1, -, -⟩ := rng_cells hr
              exact bodyPost_ret (v := .tuple #[.agg #[.int .i64 (x : Int), .int .i64 (min ((y : Int) + 1) len)], .bool true]) (by simp [results, Tryd.results45, go_sem, r0, r1]) rfl ⟨⟨_, _, _, rfl, rfl, fun p hp => by cases hp; rfl⟩, ext_set2 (XA.trans hx1) (by have := HG.out; omega) _ _⟩
end Go.Proofs.YteamnofooicbeaaDoor
