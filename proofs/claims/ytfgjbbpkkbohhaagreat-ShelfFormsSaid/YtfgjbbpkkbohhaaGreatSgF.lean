/- Chapter 24: the model: put, begin; Texts. -/
import Derived.Test.YtfgjbbpkkbohhaaGreatSgE
namespace Go.Proofs.YtfgjbbpkkbohhaaGreat
open Go.RowKit Go.Deep
set_option maxRecDepth 100000 in
set_option maxHeartbeats 10000000 in
theorem mput_bad (q k l : Option Addr) (key tag : ByteArray) (A : Option Addr) (n c : Nat) (len asof : Int) (code : Int) (h : (code = 8 ∧ (key.size < 1 ∨ 2048 < key.size)) ∨ ((1 ≤ key.size ∧ key.size ≤ 2048) ∧ ((code = 5 ∧ 8192 < n) ∨ (n ≤ 8192 ∧ code = 1 ∧ (len < 0 ∨ 65536 < len ∨ asof < 0 ∨ 1099511627776 < asof))))) (hz : key.size < 100000 ∧ n < 100000) (w : World) :
    Calls Tryz.prog 38 #[modV (.pointer q) (.pointer k) (.pointer l) (.slice none 0 0), objV key A n c tag len asof] w fun e w' => e = .returned (.tuple #[modV (.pointer q) (.pointer k) (.pointer l) (.slice none 0 0), .slice none 0 0, .int .i64 code]) ∧ Ext w w' := by
  obtain ⟨hz1, hz2⟩ := hz
  have HH := Lib.hid h
  clear h
  go_enter Tryz.func38, Tryz.ntmps38
  go_upto_region 1 with fail
  obtain ⟨wa, hwa⟩ : ∃ x, x = ((w.alloc (.cells #[.pointer q, .pointer k, .pointer l, .slice none 0 0] 65)).alloc (.cells #[.string key, .slice A n c, .string tag, .int .i64 len, .int .i64 asof] 38)).alloc (.cells #[.pointer none, .pointer none, .pointer none, .slice none 0 0] 65) := ⟨_, rfl⟩
  have HXA : Hid (Ext w wa) := Lib.hid (by rw [hwa]; exact (((Ext.refl w).alloc _).alloc _).alloc _)
  have HMA : Hid (RowB wa w.heap.size 65 [.pointer q, .pointer k, .pointer l, .slice none 0 0]) := Lib.hid (by rw [hwa]; exact (row_laid w _ _).ext (((Ext.refl _).alloc _).alloc _))
  have HOA : Hid (RowB wa (w.heap.size + 1) 38 [.string key, .slice A n c, .string tag, .int .i64 len, .int .i64 asof]) := Lib.hid (by rw [hwa]; have := (row_laid (w.alloc (.cells #[.pointer q, .pointer k, .pointer l, .slice none 0 0] 65)) 38 [.string key, .slice A n c, .string tag, .int .i64 len, .int .i64 asof]).ext ((Ext.refl _).alloc (.cells #[.pointer none, .pointer none, .pointer none, .slice none 0 0] 65)); simpa using this)
  have HRA : Hid (RowB wa (w.heap.size + 1 + 1) 65 [.pointer none, .pointer none, .pointer none, .slice none 0 0]) := Lib.hid (by rw [hwa]; have := row_laid ((w.alloc (.cells #[.pointer q, .pointer k, .pointer l, .slice none 0 0] 65)).alloc (.cells #[.string key, .slice A n c, .string tag, .int .i64 len, .int .i64 asof] 38)) 65 [.pointer none, .pointer none, .pointer none, .slice none 0 0]; simpa using this)
  have HZA := Lib.hid (show wa.heap.size = w.heap.size + 3 by rw [hwa]; simp)
  rw [← hwa]
  clear hwa
  have c0 := (HMA.out).cell (j := 0) rfl
  have c1 := (HMA.out).cell (j := 1) rfl
  have c2 := (HMA.out).cell (j := 2) rfl
  have c3 := (HMA.out).cell (j := 3) rfl
  have e0 := (HOA.out).cell (j := 0) rfl
  have e1 := (HOA.out).cell (j := 1) rfl
  have e2 := (HOA.out).cell (j := 2) rfl
  have e3 := (HOA.out).cell (j := 3) rfl
  have e4 := (HOA.out).cell (j := 4) rfl
  have y0 := (HRA.out).cell (j := 0) rfl
  have y1 := (HRA.out).cell (j := 1) rfl
  have y2 := (HRA.out).cell (j := 2) rfl
  have y3 := (HRA.out).cell (j := 3) rfl
  have z0 := (HRA.out).frozen (j := 0) (by simp)
  have z1 := (HRA.out).frozen (j := 1) (by simp)
  have z2 := (HRA.out).frozen (j := 2) (by simp)
  have z3 := (HRA.out).frozen (j := 3) (by simp)
  rcases HH.out with ⟨rfl, h⟩ | ⟨⟨a1, a2⟩, ⟨rfl, h⟩ | ⟨h, rfl, h2⟩⟩
  · by_cases h1 : key.size < 1
    · clear h
      go_wp2_with fail
      obtain ⟨hr7, hm7⟩ := row_set4 HRA.out (.pointer q) (.pointer k) (.pointer l) (.slice none 0 0)
      have HX7 := Lib.hid (((Mod.of_ext _ HXA.out).then hm7 (fun i hi => .inr (by omega))).ext (F := fun _ => False) (fun _ h => h.elim))
      have r0 := (hr7).cell (j := 0) rfl
      have r1 := (hr7).cell (j := 1) rfl
      have r2 := (hr7).cell (j := 2) rfl
      have r3 := (hr7).cell (j := 3) rfl
      clear hr7 hm7
      clear c0 c1 c2 c3
      clear e0 e1 e2 e3 e4
      clear y0 y1 y2 y3
      clear z0 z1 z2 z3
      generalize ((((wa.setCell ⟨w.heap.size + 1 + 1, 0, none⟩ (.pointer q)).setCell ⟨w.heap.size + 1 + 1, 1, none⟩ (.pointer k)).setCell ⟨w.heap.size + 1 + 1, 2, none⟩ (.pointer l)).setCell ⟨w.heap.size + 1 + 1, 3, none⟩ (.slice none 0 0)) = w7 at *
      refine bodyPost_ret (by simp [results, Tryz.results38, go_sem, r0, r1, r2, r3]; try rfl) rfl ?_
      exact ⟨rfl, HX7.out⟩
    · have h2 : 2048 < key.size := h.resolve_left h1
      clear h
      go_wp2_with fail
      obtain ⟨hr7, hm7⟩ := row_set4 HRA.out (.pointer q) (.pointer k) (.pointer l) (.slice none 0 0)
      have HX7 := Lib.hid (((Mod.of_ext _ HXA.out).then hm7 (fun i hi => .inr (by omega))).ext (F := fun _ => False) (fun _ h => h.elim))
      have r0 := (hr7).cell (j := 0) rfl
      have r1 := (hr7).cell (j := 1) rfl
      have r2 := (hr7).cell (j := 2) rfl
      have r3 := (hr7).cell (j := 3) rfl
      clear hr7 hm7
      clear c0 c1 c2 c3
      clear e0 e1 e2 e3 e4
      clear y0 y1 y2 y3
      clear z0 z1 z2 z3
      generalize ((((wa.setCell ⟨w.heap.size + 1 + 1, 0, none⟩ (.pointer q)).setCell ⟨w.heap.size + 1 + 1, 1, none⟩ (.pointer k)).setCell ⟨w.heap.size + 1 + 1, 2, none⟩ (.pointer l)).setCell ⟨w.heap.size + 1 + 1, 3, none⟩ (.slice none 0 0)) = w7 at *
      refine bodyPost_ret (by simp [results, Tryz.results38, go_sem, r0, r1, r2, r3]; try rfl) rfl ?_
      exact ⟨rfl, HX7.out⟩
  ·
    go_wp2_with fail
    obtain ⟨hr7, hm7⟩ := row_set4 HRA.out (.pointer q) (.pointer k) (.pointer l) (.slice none 0 0)
    have HX7 := Lib.hid (((Mod.of_ext _ HXA.out).then hm7 (fun i hi => .inr (by omega))).ext (F := fun _ => False) (fun _ h => h.elim))
    have r0 := (hr7).cell (j := 0) rfl
    have r1 := (hr7).cell (j := 1) rfl
    have r2 := (hr7).cell (j := 2) rfl
    have r3 := (hr7).cell (j := 3) rfl
    clear hr7 hm7
    clear c0 c1 c2 c3
    clear e0 e1 e2 e3 e4
    clear y0 y1 y2 y3
    clear z0 z1 z2 z3
    generalize ((((wa.setCell ⟨w.heap.size + 1 + 1, 0, none⟩ (.pointer q)).setCell ⟨w.heap.size + 1 + 1, 1, none⟩ (.pointer k)).setCell ⟨w.heap.size + 1 + 1, 2, none⟩ (.pointer l)).setCell ⟨w.heap.size + 1 + 1, 3, none⟩ (.slice none 0 0)) = w7 at *
    refine bodyPost_ret (by simp [results, Tryz.results38, go_sem, r0, r1, r2, r3]; try rfl) rfl ?_
    exact ⟨rfl, HX7.out⟩
  · by_cases b1 : len < 0
    · clear h2
      go_wp2_with fail
      obtain ⟨hr7, hm7⟩ := row_set4 HRA.out (.pointer q) (.pointer k) (.pointer l) (.slice none 0 0)
      have HX7 := Lib.hid (((Mod.of_ext _ HXA.out).then hm7 (fun i hi => .inr (by omega))).ext (F := fun _ => False) (fun _ h => h.elim))
      have r0 := (hr7).cell (j := 0) rfl
      have r1 := (hr7).cell (j := 1) rfl
      have r2 := (hr7).cell (j := 2) rfl
      have r3 := (hr7).cell (j := 3) rfl
      clear hr7 hm7
      clear c0 c1 c2 c3
      clear e0 e1 e2 e3 e4
      clear y0 y1 y2 y3
      clear z0 z1 z2 z3
      generalize ((((wa.setCell ⟨w.heap.size + 1 + 1, 0, none⟩ (.pointer q)).setCell ⟨w.heap.size + 1 + 1, 1, none⟩ (.pointer k)).setCell ⟨w.heap.size + 1 + 1, 2, none⟩ (.pointer l)).setCell ⟨w.heap.size + 1 + 1, 3, none⟩ (.slice none 0 0)) = w7 at *
      refine bodyPost_ret (by simp [results, Tryz.results38, go_sem, r0, r1, r2, r3]; try rfl) rfl ?_
      exact ⟨rfl, HX7.out⟩
    · have h3 := h2.resolve_left b1
      clear h2
      by_cases b2 : 65536 < len
      · clear h3
        go_wp2_with fail
        obtain ⟨hr7, hm7⟩ := row_set4 HRA.out (.pointer q) (.pointer k) (.pointer l) (.slice none 0 0)
        have HX7 := Lib.hid (((Mod.of_ext _ HXA.out).then hm7 (fun i hi => .inr (by omega))).ext (F := fun _ => False) (fun _ h => h.elim))
        have r0 := (hr7).cell (j := 0) rfl
        have r1 := (hr7).cell (j := 1) rfl
        have r2 := (hr7).cell (j := 2) rfl
        have r3 := (hr7).cell (j := 3) rfl
        clear hr7 hm7
        clear c0 c1 c2 c3
        clear e0 e1 e2 e3 e4
        clear y0 y1 y2 y3
        clear z0 z1 z2 z3
        generalize ((((wa.setCell ⟨w.heap.size + 1 + 1, 0, none⟩ (.pointer q)).setCell ⟨w.heap.size + 1 + 1, 1, none⟩ (.pointer k)).setCell ⟨w.heap.size + 1 + 1, 2, none⟩ (.pointer l)).setCell ⟨w.heap.size + 1 + 1, 3, none⟩ (.slice none 0 0)) = w7 at *
        refine bodyPost_ret (by simp [results, Tryz.results38, go_sem, r0, r1, r2, r3]; try rfl) rfl ?_
        exact ⟨rfl, HX7.out⟩
      · have h4 := h3.resolve_left b2
        clear h3
        have b1' : 0 ≤ len := by omega
        have b2' : len ≤ 65536 := by omega
        clear b1 b2
        by_cases b3 : asof < 0
        · clear h4
          go_wp2_with fail
          obtain ⟨hr7, hm7⟩ := row_set4 HRA.out (.pointer q) (.pointer k) (.pointer l) (.slice none 0 0)
          have HX7 := Lib.hid (((Mod.of_ext _ HXA.out).then hm7 (fun i hi => .inr (by omega))).ext (F := fun _ => False) (fun _ h => h.elim))
          have r0 := (hr7).cell (j := 0) rfl
          have r1 := (hr7).cell (j := 1) rfl
          have r2 := (hr7).cell (j := 2) rfl
          have r3 := (hr7).cell (j := 3) rfl
          clear hr7 hm7
          clear c0 c1 c2 c3
          clear e0 e1 e2 e3 e4
          clear y0 y1 y2 y3
          clear z0 z1 z2 z3
          generalize ((((wa.setCell ⟨w.heap.size + 1 + 1, 0, none⟩ (.pointer q)).setCell ⟨w.heap.size + 1 + 1, 1, none⟩ (.pointer k)).setCell ⟨w.heap.size + 1 + 1, 2, none⟩ (.pointer l)).setCell ⟨w.heap.size + 1 + 1, 3, none⟩ (.slice none 0 0)) = w7 at *
          refine bodyPost_ret (by simp [results, Tryz.results38, go_sem, r0, r1, r2, r3]; try rfl) rfl ?_
          exact ⟨rfl, HX7.out⟩
        · have h5 := h4.resolve_left b3
          clear h4
          have b3' : 0 ≤ asof := by omega
          clear b3
          go_wp2_with fail
          obtain ⟨hr7, hm7⟩ := row_set4 HRA.out (.pointer q) (.pointer k) (.pointer l) (.slice none 0 0)
          have HX7 := Lib.hid (((Mod.of_ext _ HXA.out).then hm7 (fun i hi => .inr (by omega))).ext (F := fun _ => False) (fun _ h => h.elim))
          have r0 := (hr7).cell (j := 0) rfl
          have r1 := (hr7).cell (j := 1) rfl
          have r2 := (hr7).cell (j := 2) rfl
          have r3 := (hr7).cell (j := 3) rfl
          clear hr7 hm7
          clear c0 c1 c2 c3
          clear e0 e1 e2 e3 e4
          clear y0 y1 y2 y3
          clear z0 z1 z2 z3
          generalize ((((wa.setCell ⟨w.heap.size + 1 + 1, 0, none⟩ (.pointer q)).setCell ⟨w.heap.size + 1 + 1, 1, none⟩ (.pointer k)).setCell ⟨w.heap.size + 1 + 1, 2, none⟩ (.pointer l)).setCell ⟨w.heap.size + 1 + 1, 3, none⟩ (.slice none 0 0)) = w7 at *
          refine bodyPost_ret (by simp [results, Tryz.results38, go_sem, r0, r1, r2, r3]; try rfl) rfl ?_
          exact ⟨rfl, HX7.out⟩
set_option maxRecDepth 100000 in
theorem begin_ok (C : Int) (h : 1 ≤ C) (h' : C ≤ 1099511627776) (w : World) :
    Calls Tryz.prog 25 #[.int .i64 C, .pointer none] w fun e w' => (∃ q k, e = .returned (.tuple #[modV (.pointer (some ⟨q, 0, none⟩)) (.pointer (some ⟨k, 0, none⟩)) (.pointer none) (.slice none 0 0), .bool true]) ∧ Hid (QAt w' w.heap.size q none C none ∧ w.heap.size ≤ q)) ∧ Ext w w' := by
  have HQ := Lib.hid (fun W => qnew_ok C h h' W)
  have HK := Lib.hid (fun W => snew_any W)
  go_enter Tryz.func25, Tryz.ntmps25
  go_upto_region 1 with fail
  obtain ⟨wa, hwa⟩ : ∃ x, x = w.alloc (.cells #[.pointer none, .pointer none, .pointer none, .slice none 0 0] 65) := ⟨_, rfl⟩
  have HXA : Hid (Ext w wa) := Lib.hid (by rw [hwa]; exact (Ext.refl w).alloc _)
  have HRA : Hid (RowB wa w.heap.size 65 [.pointer none, .pointer none, .pointer none, .slice none 0 0]) := Lib.hid (by rw [hwa]; exact row_laid w _ _)
  rw [← hwa]
  clear hwa
  go_upto_region 6 with (first
    | (go_at_call 34; refine (HQ.out _).mono ?_; rintro e w1 ⟨rfl, hx1, hq1⟩)
    | (go_at_call 63; refine (HK.out _).mono ?_; rintro e w2 ⟨⟨k, d, rfl, hk⟩, hx2⟩))
  have HQ2 := Lib.hid (hq1.ext hx2)
  have HX2 := Lib.hid (HXA.out.trans (hx1.trans hx2))
  have HR2 := Lib.hid (HRA.out.ext (hx1.trans hx2))
  have HG2 := Lib.hid (show w.heap.size ≤ wa.heap.size from HXA.out.size)
  have HQA : Hid (QAt w2 w.heap.size wa.heap.size none C none) := Lib.hid (by
    obtain ⟨v, h1, h2, h3⟩ := HQ2.out
    refine ⟨v, h1, ⟨h2.1, h2.2.imp id (fun ⟨g, cap, cur, e1, e2, e3⟩ => ⟨g, cap, cur, e1, Nat.le_trans HG2.out e2, e3⟩)⟩, h3⟩)
  clear hq1 hx1 hx2 hk
  have z0 := (HR2.out).frozen (j := 0) (by simp)
  have z1 := (HR2.out).frozen (j := 1) (by simp)
  have z2 := (HR2.out).frozen (j := 2) (by simp)
  have z3 := (HR2.out).frozen (j := 3) (by simp)
  have c0 := (HR2.out).cell (j := 0) rfl
  have c1 := (HR2.out).cell (j := 1) rfl
  have c2 := (HR2.out).cell (j := 2) rfl
  have c3 := (HR2.out).cell (j := 3) rfl
  go_wp2_with fail
  obtain ⟨hr7, hm7⟩ := row_set4 HR2.out (.pointer (some ⟨wa.heap.size, 0, none⟩)) (.pointer (some ⟨k, 0, none⟩)) (.pointer none) (.slice none 0 0)
  have HX7 := Lib.hid (((Mod.of_ext _ HX2.out).then hm7 (fun i hi => .inr (by omega))).ext (F := fun _ => False) (fun _ h => h.elim))
  have hrq := HQA.out.apart_row HR2.out (by decide) (by decide)
  have HQ7 := Lib.hid (HQA.out.mod hm7 (fun e => hrq.1 e.symm) (fun g hg e => hrq.2 g hg e.symm))
  have r0 := (hr7).cell (j := 0) rfl
  have r1 := (hr7).cell (j := 1) rfl
  have r2 := (hr7).cell (j := 2) rfl
  have r3 := (hr7).cell (j := 3) rfl
  clear hr7 hm7 hrq
  clear c0 c1 c2 c3
  clear z0 z1 z2 z3
  generalize ((((w2.setCell ⟨w.heap.size, 0, none⟩ (.pointer (some ⟨wa.heap.size, 0, none⟩))).setCell ⟨w.heap.size, 1, none⟩ (.pointer (some ⟨k, 0, none⟩))).setCell ⟨w.heap.size, 2, none⟩ (.pointer none)).setCell ⟨w.heap.size, 3, none⟩ (.slice none 0 0)) = w7 at *
  refine bodyPost_ret (by simp [results, Tryz.results25, go_sem, r0, r1, r2, r3]; try rfl) rfl ?_
  exact ⟨⟨_, _, rfl, Lib.hid ⟨HQ7.out, HG2.out⟩⟩, HX7.out⟩
end Go.Proofs.YtfgjbbpkkbohhaaGreat
