/- Chapter 24: the law ShelfForms, for a shelf that is made. -/
import Derived.Test.YtfgjbbpkkbohhaaGreatGHI
namespace Go.Proofs.YtfgjbbpkkbohhaaGreat
open Go.RowKit Go.Deep Go.Sort
set_option maxRecDepth 100000 in
theorem forms24_big (key tag : ByteArray) (A : Option Addr) (n c : Nat) (len asof C i : Int) (hb : 20000 < key.size + n + tag.size) (h1 : key.size ≤ 140737488355328) (h2 : n ≤ 140737488355328) (h3 : tag.size ≤ 140737488355328) (w : World) :
    Calls Tryz.prog 7 #[objV key A n c tag len asof, .int .i64 C, .int .i64 i] w fun e w' => e = .returned (.bool true) ∧ Ext w w' := by
  have HAW := Lib.hid awake24
  have hs1 : (20000 : Int) < (key.size : Int) + (n : Int) + (tag.size : Int) := by omega
  clear hb
  go_enter Tryz.func7, Tryz.ntmps7
  go_upto_region 1 with fail
  obtain ⟨wa, hwa⟩ : ∃ x, x = w.alloc (.cells #[.string key, .slice A n c, .string tag, .int .i64 len, .int .i64 asof] 38) := ⟨_, rfl⟩
  have HXA : Hid (Ext w wa) := Lib.hid (by rw [hwa]; exact (Ext.refl w).alloc _)
  have HOA : Hid (RowB wa w.heap.size 38 [.string key, .slice A n c, .string tag, .int .i64 len, .int .i64 asof]) := Lib.hid (by rw [hwa]; exact row_laid w _ _)
  rw [← hwa]
  clear hwa
  go_upto_region 2 with (go_at_call 9; refine (HAW.out _).mono ?_; rintro e w0 ⟨rfl, hx0⟩; have c0 := (HOA.out.ext hx0).cell (j := 0) rfl; have c1 := (HOA.out.ext hx0).cell (j := 1) rfl; have c2 := (HOA.out.ext hx0).cell (j := 2) rfl)
  clear c0 c1 c2
  go_wp2_with (go_at_call 9; refine (HAW.out _).mono ?_; rintro e w2 ⟨rfl, hx2⟩)
  go_ret
  exact ⟨rfl, HXA.out.trans (hx0.trans hx2)⟩
set_option maxRecDepth 100000 in
set_option maxHeartbeats 20000000 in
theorem forms24_ok (key tag mtb : ByteArray) (A : Option Addr) (n c : Nat) (len asof C i : Int) (hsm : key.size + n + tag.size ≤ 20000) (hC : 1 ≤ C) (hC2 : C ≤ 1099511627776) (w : World) (hcl : ∀ W, Ext w W → Calls Tryz.prog 49 #[.slice A n c] W fun e w' => (∃ A' c', e = .returned (.slice A' n c') ∧ Hid (MV w' (.slice A' n c') mtb)) ∧ Ext W w') :
    Calls Tryz.prog 7 #[objV key A n c tag len asof, .int .i64 C, .int .i64 i] w fun e w' => e = .returned (.bool true) ∧ Ext w w' := by
  have HAW := Lib.hid awake24
  have HQ := Lib.hid (fun W => qnew_ok C hC hC2 W)
  have HN := Lib.hid (fun W => new_ok24 C hC hC2 W)
  have HR := Lib.hid (fun W => recover_ok C hC hC2 W)
  have HBG := Lib.hid (fun W => begin_ok C hC hC2 W)
  have HCL := Lib.hid hcl
  have HSM := Lib.hid hsm
  have hs1 : ¬ ((20000 : Int) < (key.size : Int) + (n : Int) + (tag.size : Int)) := by omega
  have hs2 : key.size ≤ 20000 := by omega
  have hs3 : n ≤ 20000 := by omega
  have hs4 : tag.size ≤ 20000 := by omega
  clear hC hsm hcl
  have HC2 := Lib.hid hC2
  clear hC2
  go_enter Tryz.func7, Tryz.ntmps7
  go_upto_region 1 with fail
  obtain ⟨wa, hwa⟩ : ∃ x, x = w.alloc (.cells #[.string key, .slice A n c, .string tag, .int .i64 len, .int .i64 asof] 38) := ⟨_, rfl⟩
  have HXA : Hid (Ext w wa) := Lib.hid (by rw [hwa]; exact (Ext.refl w).alloc _)
  have HOA : Hid (RowB wa w.heap.size 38 [.string key, .slice A n c, .string tag, .int .i64 len, .int .i64 asof]) := Lib.hid (by rw [hwa]; exact row_laid w _ _)
  rw [← hwa]
  clear hwa
  go_upto_region 3 with (go_at_call 9; refine (HAW.out _).mono ?_; rintro e w0 ⟨rfl, hx0⟩; have c0 := (HOA.out.ext hx0).cell (j := 0) rfl; have c1 := (HOA.out.ext hx0).cell (j := 1) rfl; have c2 := (HOA.out.ext hx0).cell (j := 2) rfl)
  have HO0 := Lib.hid (HOA.out.ext hx0)
  have HX0 := Lib.hid (HXA.out.trans hx0)
  clear c0 c1 c2 hx0 hs1 hs2 hs3 hs4
  go_upto_region 6 with (first
    | (go_at_call 34; refine (HQ.out _).mono ?_; rintro e wq ⟨rfl, hxq, -⟩)
    | (go_at_call 10; refine (HN.out _).mono ?_; rintro e ws ⟨⟨s, mp, q, kb, d, rfl, hks⟩, hxs⟩)
    | (go_at_call 35; refine (HR.out _).mono ?_; rintro e wr ⟨rfl, hxr⟩))
  have HSS := Lib.hid hks.out.1
  have HGE := Lib.hid (show w.heap.size ≤ mp ∧ w.heap.size ≤ q ∧ w.heap.size ≤ kb ∧ w.heap.size ≤ d from by
    have h1 := hks.out.2
    have h2 := (HX0.out.trans hxq).size
    omega)
  have HBZ := Lib.hid hxs.size
  have HXS := Lib.hid (HX0.out.trans (hxq.trans hxs))
  have HXR := Lib.hid hxr
  have HOM := Lib.hid (HO0.out.ext (hxq.trans (hxs.trans hxr)))
  clear hks hxs hxr hxq
  go_upto_region 8 with (first
    | (go_at_call 36; refine (num_nil _).mono ?_; rintro e wt ⟨rfl, rfl⟩)
    | (go_at_call 37; refine (is_err 3 _ (by decide)).mono ?_; rintro e wt ⟨rfl, rfl⟩))
  have HON := HOM
  go_upto_region 9 with fail
  have c0 := (HON.out).cell (j := 0) rfl
  have c1 := (HON.out).cell (j := 1) rfl
  have c2 := (HON.out).cell (j := 2) rfl
  have c3 := (HON.out).cell (j := 3) rfl
  have c4 := (HON.out).cell (j := 4) rfl
  go_upto_region 10 with (go_at_call 11; refine (put_nil24 _ ⟨key, A, n, c, tag, len, asof, rfl⟩ _).mono ?_; rintro e wn1 ⟨rfl, hxn1⟩; have d0 := (HON.out.ext hxn1).cell (j := 0) rfl; have d2 := (HON.out.ext hxn1).cell (j := 2) rfl)
  clear c0 c1 c2 c3 c4
  go_upto_region 11 with (go_at_call 15; refine (fill_nil24 _ _ _ _).mono ?_; rintro e wn2 ⟨rfl, rfl⟩)
  clear d2
  go_upto_region 12 with (go_at_call 18; refine (get_nil24 _ _).mono ?_; rintro e wn3 ⟨rfl, hxn3⟩)
  clear d0
  obtain ⟨wn4, hwn4⟩ : ∃ x, x = wn3.alloc (.cells #[.string ⟨#[]⟩, .slice none 0 0, .string ⟨#[]⟩, .int .i64 0, .int .i64 0] 38) := ⟨_, rfl⟩
  have XN4 : Ext wn3 wn4 := by rw [hwn4]; exact (Ext.refl wn3).alloc _
  rw [← hwn4]
  have HON4 := Lib.hid (HON.out.ext (hxn1.trans (hxn3.trans XN4)))
  have d0 := HON4.out.cell (j := 0) rfl
  clear hwn4
  go_upto_region 13 with (go_at_call 32; refine (read_nil24 _ _ _ _).mono ?_; rintro e wn5 ⟨rfl, hxn5⟩; have d0' := (HON4.out.ext hxn5).cell (j := 0) rfl)
  clear d0
  go_upto_region 14 with (go_at_call 19; refine (missing_nil24 _ _ _ _).mono ?_; rintro e wn6 ⟨rfl, hxn6⟩)
  clear d0'
  have HON6 := Lib.hid (HON4.out.ext (hxn5.trans hxn6))
  have XN6 := Lib.hid (hxn1.trans (hxn3.trans (XN4.trans (hxn5.trans hxn6))))
  clear hxn1 hxn3 XN4 hxn5 hxn6
  go_wp2_with (go_at_call 31; refine (sync_nil24 _).mono ?_; rintro e wt ⟨rfl, rfl⟩)
  have XL := Lib.hid ((Ext.refl wn6).alloc (.cells #[errV 3, errV 3, errV 3, errV 3, errV 3, errV 3] 28))
  have e0 := (HON6.out.ext XL.out).cell (j := 0) rfl
  refine wp_loop_rounds 7 ?_
  rw [rounds_succ]
  go_wp2_with (first
    | (go_at_call 37; refine (is_err 3 _ (by decide)).mono ?_; rintro e wt ⟨rfl, rfl⟩)
    | (go_at_call 33; refine (whole_nil24 _ _).mono ?_; rintro e wt ⟨rfl, rfl⟩)
    | (go_at_call 21; refine (drop_nil24 _ _).mono ?_; rintro e wt ⟨rfl, rfl⟩)
    | (go_at_call 24; refine (keys_nil24 _).mono ?_; rintro e wt ⟨rfl, rfl⟩)
    | (go_at_call 22; refine (tier_nil24 _ _).mono ?_; rintro e wt ⟨rfl, rfl⟩))
  repeat any_goals (rw [rounds_succ]; go_upto_region 24 with (first
    | (go_at_call 37; refine (is_err 3 _ (by decide)).mono ?_; rintro e wt ⟨rfl, rfl⟩)
    | (go_at_call 33; refine (whole_nil24 _ _).mono ?_; rintro e wt ⟨rfl, rfl⟩)
    | (go_at_call 21; refine (drop_nil24 _ _).mono ?_; rintro e wt ⟨rfl, rfl⟩)
    | (go_at_call 24; refine (keys_nil24 _).mono ?_; rintro e wt ⟨rfl, rfl⟩)
    | (go_at_call 22; refine (tier_nil24 _ _).mono ?_; rintro e wt ⟨rfl, rfl⟩)))
  obtain ⟨wk, hwk⟩ : ∃ x, x = wn6.alloc (.cells #[errV 3, errV 3, errV 3, errV 3, errV 3, errV 3] 28) := ⟨_, rfl⟩
  have HXK : Hid (Ext wr wk) := Lib.hid (by rw [hwk]; exact XN6.out.trans XL.out)
  rw [← hwk]
  clear hwk e0
  go_upto_region 25 with (go_at_call 38; refine (mput_bad none none none ⟨#[]⟩ ⟨#[]⟩ none 0 0 0 0 8 (.inl ⟨rfl, .inl (by decide)⟩) (by decide) _).mono ?_; rintro e wp ⟨rfl, hxp⟩)
  obtain ⟨wp2, hwp2⟩ : ∃ x, x = wp.alloc (.cells #[.pointer none, .pointer none, .pointer none, .slice none 0 0] 65) := ⟨_, rfl⟩
  have HXP : Hid (Ext wk wp2) := Lib.hid (by rw [hwp2]; exact hxp.alloc _)
  rw [← hwp2]
  clear hwp2 hxp
  go_upto_region 26 with (go_at_call 25; refine (HBG.out _).mono ?_; rintro e wb ⟨⟨q2, k2, rfl, hqb⟩, hxb⟩)
  obtain ⟨wb2, hwb2⟩ : ∃ x, x = wb.alloc (.cells #[.pointer (some ⟨q2, 0, none⟩), .pointer (some ⟨k2, 0, none⟩), .pointer none, .slice none 0 0] 65) := ⟨_, rfl⟩
  have HMB : Hid (RowB wb2 wb.heap.size 65 [.pointer (some ⟨q2, 0, none⟩), .pointer (some ⟨k2, 0, none⟩), .pointer none, .slice none 0 0]) := Lib.hid (by rw [hwb2]; exact row_laid wb _ _)
  have HXB : Hid (Ext wp2 wb2) := Lib.hid (by rw [hwb2]; exact hxb.alloc _)
  have HQB : Hid (QAt wb2 wp2.heap.size q2 none C none ∧ wp2.heap.size ≤ q2) := Lib.hid (by rw [hwb2]; exact ⟨hqb.out.1.ext ((Ext.refl wb).alloc _), hqb.out.2⟩)
  rw [← hwb2]
  clear hwb2 hxb hqb
  have X1 := Lib.hid (HXR.out.trans (HXK.out.trans (HXP.out.trans HXB.out)))
  have HSB := Lib.hid (HSS.out.ext X1.out)
  have HOB := Lib.hid (HOM.out.ext (HXK.out.trans (HXP.out.trans HXB.out)))
  have HWB := Lib.hid (HXS.out.trans X1.out)
  have HSP := Lib.hid (HSS.out.ext (HXR.out.trans (HXK.out.trans HXP.out)))
  have c0 := (HMB.out).cell (j := 0) rfl
  have c1 := (HMB.out).cell (j := 1) rfl
  have c2 := (HMB.out).cell (j := 2) rfl
  have c3 := (HMB.out).cell (j := 3) rfl
  have e0 := (HOB.out).cell (j := 0) rfl
  have e1 := (HOB.out).cell (j := 1) rfl
  have e2 := (HOB.out).cell (j := 2) rfl
  have e3 := (HOB.out).cell (j := 3) rfl
  have e4 := (HOB.out).cell (j := 4) rfl
  have HCS : Hid ((∃ code : Int, code ≠ 0 ∧ ((code = 8 ∧ (key.size < 1 ∨ 2048 < key.size)) ∨ ((1 ≤ key.size ∧ key.size ≤ 2048) ∧ ((code = 5 ∧ 8192 < n) ∨ (n ≤ 8192 ∧ code = 1 ∧ (len < 0 ∨ 65536 < len ∨ asof < 0 ∨ 1099511627776 < asof)))))) ∨ ((1 ≤ key.size ∧ key.size ≤ 2048) ∧ n ≤ 8192 ∧ (∃ ln : Nat, len = ln ∧ ln ≤ 65536) ∧ (0 ≤ asof ∧ asof ≤ 1099511627776))) := Lib.hid (by
    by_cases h1 : key.size < 1 ∨ 2048 < key.size
    · exact .inl ⟨8, by decide, .inl ⟨rfl, h1⟩⟩
    by_cases h2 : 8192 < n
    · exact .inl ⟨5, by decide, .inr ⟨by omega, .inl ⟨rfl, h2⟩⟩⟩
    by_cases h3 : len < 0 ∨ 65536 < len ∨ asof < 0 ∨ 1099511627776 < asof
    · exact .inl ⟨1, by decide, .inr ⟨by omega, .inr ⟨by omega, rfl, h3⟩⟩⟩
    · exact .inr ⟨by omega, by omega, ⟨len.toNat, by omega, by omega⟩, by omega⟩)
  rcases HCS.out with ⟨code, hc0, hbad⟩ | ⟨hr1, hr2, ⟨ln, rfl, hr3⟩, hr4⟩
  · have HMP := Lib.hid (fun W => mput_bad (some ⟨q2, 0, none⟩) (some ⟨k2, 0, none⟩) none key tag A n c len asof code hbad (by have := HSM.out; omega) W)
    have HPB := Lib.hid (fun W => put_bad (w := W) (s := s) (code := code) (fun W => right_bad key tag A n c len asof code hbad (by have := HSM.out; omega) W))
    go_upto_region 29 with (go_at_call 38; refine (HMP.out _).mono ?_; rintro e wm ⟨rfl, hxm⟩)
    obtain ⟨wm2, hwm2⟩ : ∃ x, x = wm.alloc (.cells #[.pointer (some ⟨q2, 0, none⟩), .pointer (some ⟨k2, 0, none⟩), .pointer none, .slice none 0 0] 65) := ⟨_, rfl⟩
    have HXM : Hid (Ext wb2 wm2) := Lib.hid (by rw [hwm2]; exact hxm.alloc _)
    rw [← hwm2]
    clear hwm2 hxm
    clear c0 c1 c2 c3
    clear e0 e1 e2 e3 e4
    have HOC := Lib.hid (HOB.out.ext HXM.out)
    have e0 := (HOC.out).cell (j := 0) rfl
    have e1 := (HOC.out).cell (j := 1) rfl
    have e2 := (HOC.out).cell (j := 2) rfl
    have e3 := (HOC.out).cell (j := 3) rfl
    have e4 := (HOC.out).cell (j := 4) rfl
    have hcc : (code == code) = true := by simp
    go_upto_region 30 with (go_at_call 11; refine (HPB.out _).mono ?_; rintro e wn ⟨rfl, hxn⟩; have e0' := (HOC.out.ext hxn).cell (j := 0) rfl)
    clear e0 e1 e2 e3 e4
    have HXN := Lib.hid (HXM.out.trans hxn)
    have HSN := Lib.hid (HSB.out.ext HXN.out)
    have HG := Lib.hid (get_miss HSN.out (key ++ ⟨#[120]⟩) (by rw [ByteArray.size_append]; have := HSM.out; unfold maxLen; show key.size + 1 ≤ _; omega) rfl)
    have hkb : key.size + 1 ≤ 9223372036854775807 := by have := HSM.out; omega
    clear hxn
    go_upto_region 31 with (go_at_call 18; refine HG.out.mono ?_; rintro e wg ⟨rfl, hmg⟩)
    obtain ⟨wg2, hwg2⟩ : ∃ x, x = wg.alloc (.cells #[.string ⟨#[]⟩, .slice none 0 0, .string ⟨#[]⟩, .int .i64 0, .int .i64 0] 38) := ⟨_, rfl⟩
    have HXG : Hid (Ext wg wg2) := Lib.hid (by rw [hwg2]; exact (Ext.refl wg).alloc _)
    rw [← hwg2]
    clear hwg2 e0'
    have hap := HSN.out.sk.apart_row HSN.out.row (by decide) (by decide)
    have HRW := Lib.hid ((hmg.rowB HSN.out.row (fun h => h.elim hap.1 hap.2)).ext HXG.out)
    have HEND := Lib.hid ((((Mod.of_ext _ (HWB.out.trans HXN.out)).then hmg (fun i hi => .inr (by rcases hi with h | h <;> rw [h] <;> first | exact HGE.out.2.2.1 | exact HGE.out.2.2.2))).ext (F := fun _ => False) (fun _ h => h.elim)).trans HXG.out)
    clear hmg hap
    go_wp2_with (first
      | (go_at_call 36; refine (num_err code _).mono ?_; rintro e wt ⟨rfl, rfl⟩)
      | (go_at_call 23; refine (texts_nil24 _).mono ?_; rintro e wt1 ⟨rfl, hxt⟩)
      | (go_at_call 37; refine (is_err 3 _ (by decide)).mono ?_; rintro e wt ⟨rfl, rfl⟩)
      | (go_at_call 31; refine (sync_ok24 (HRW.out.ext hxt)).mono ?_; rintro e wt ⟨rfl, rfl⟩))
    go_ret
    exact ⟨rfl, HEND.out.trans hxt⟩
  · have HMP := Lib.hid (mput_ok (kb := k2) HQB.out.1 HXB.out.size HC2.out (key := key) (tag := tag) (A := A) (n := n) (c := c) (len := ln) (asof := asof) hr1 hr2 hr3 hr4)
    by_cases hf : C < ((n + 64 : Nat) : Int)
    · as_aux_lemma =>
      go_upto_region 29 with (go_at_call 38; refine HMP.out.mono ?_; rintro e wm ⟨⟨ms, out, rfl, hms⟩, hmm⟩; obtain ⟨⟨gm, nm, cm, rfl⟩, hout⟩ := hms.out; obtain ⟨ho1, go, co, rfl, ho2, ho3⟩ := hout.resolve_left (fun h => absurd h.1 (by omega)))
      obtain ⟨wm2, hwm2⟩ : ∃ x, x = wm.alloc (.cells #[.pointer (some ⟨q2, 0, none⟩), .pointer (some ⟨k2, 0, none⟩), .pointer none, .slice (some ⟨gm, 0, none⟩) nm cm] 65) := ⟨_, rfl⟩
      have HXM : Hid (Ext wm wm2) := Lib.hid (by rw [hwm2]; exact (Ext.refl wm).alloc _)
      rw [← hwm2]
      have hq2 := HQB.out.2
      have hl1 := HSP.out.row.lt
      have hl2 := HSP.out.m.lt
      have hl3 := HSP.out.q.lt.1
      have hl4 := HSP.out.sk.lt.1
      have hl5 := HSP.out.sk.lt.2
      have HSM2 := Lib.hid ((HSB.out.keep hmm (fun h => by rcases h with h | h; omega; cases h) (fun h => by rcases h with h | h; omega; cases h) (fun h => by rcases h with h | h; omega; cases h) (fun h => by rcases h with h | h; omega; cases h) (fun h => by rcases h with h | h; omega; cases h) (fun g hg => by cases hg)).ext HXM.out)
      have hoq := HQB.out.1.apart_row HOB.out (by decide) (by decide)
      have HOC := Lib.hid ((hmm.rowB HOB.out (fun h => by rcases h with h | h; exact hoq.1 h; cases h)).ext HXM.out)
      have HWM := Lib.hid ((((Mod.of_ext _ HWB.out).then hmm (fun i hi => .inr (by
        rcases hi with h | h
        · rw [h]
          have h1 := HWB.out.size
          have h2 := (HXS.out.trans (HXR.out.trans (HXK.out.trans HXP.out))).size
          omega
        · cases h))).ext (F := fun _ => False) (fun _ h => h.elim)).trans HXM.out)
      have HLT := Lib.hid (show mp < wp2.heap.size ∧ q < wp2.heap.size ∧ kb < wp2.heap.size ∧ d < wp2.heap.size from ⟨hl2, hl3, hl4, hl5⟩)
      have HSZ := Lib.hid (show wp2.heap.size ≤ wb2.heap.size ∧ wb2.heap.size ≤ wm.heap.size ∧ wm.heap.size ≤ wm2.heap.size from ⟨HXB.out.size, hmm.size, HXM.out.size⟩)
      have HCO := Lib.hid (HXM.out.cell ho2)
      have HGO := Lib.hid (show wb2.heap.size ≤ go from ho3)
      clear hwm2 hmm hq2 hl1 hl2 hl3 hl4 hl5 hoq ho1 ho2 ho3 hms hout
      clear c0 c1 c2 c3
      clear e0 e1 e2 e3 e4
      have e0 := (HOC.out).cell (j := 0) rfl
      have e1 := (HOC.out).cell (j := 1) rfl
      have e2 := (HOC.out).cell (j := 2) rfl
      have e3 := (HOC.out).cell (j := 3) rfl
      have e4 := (HOC.out).cell (j := 4) rfl
      have HBM := Lib.hid (show wq.heap.size ≤ wm2.heap.size by
        have h1 := HBZ.out
        have h2 := (HXR.out.trans (HXK.out.trans HXP.out)).size
        have h3 := HSZ.out
        omega)
      have HPF := Lib.hid (put_over (key := key) (tag := tag) (A := A) (n := n) (c := c) (mt := mtb) (len := ln) (asof := asof) HSM2.out HBM.out hr1 hr2 hr3 hr4 (fun W hW => HCL.out W (HWM.out.trans hW)) (by omega))
      go_upto_region 30 with (go_at_call 11; refine HPF.out.mono ?_; rintro e wn ⟨⟨gp, cp, rfl, hgp⟩, hmn, hsn⟩; have e0' := (hmn.rowB HOC.out (sh_apart HSM2.out HOC.out (by decide) (by decide))).cell (j := 0) rfl)
      have HGP := Lib.hid hgp.out
      have HSN := Lib.hid hsn.out
      have HCO2 := Lib.hid (hmn.cell HCO.out (by
        have h1 := HLT.out
        have h2 := HSZ.out
        have h3 := HGO.out
        rintro (h | h | h)
        · have : go = mp := h
          omega
        · have : go = q := h
          omega
        · cases h))
      clear hgp hsn
      clear e0 e1 e2 e3 e4
      have HWN := Lib.hid (((Mod.of_ext _ HWM.out).then hmn (fun i hi => .inr (by
        rcases hi with h | h | h
        · rw [h]; exact HGE.out.1
        · rw [h]; exact HGE.out.2.1
        · cases h))).ext (F := fun _ => False) (fun _ h => h.elim))
      have HG := Lib.hid (get_miss HSN.out (key ++ ⟨#[120]⟩) (by rw [ByteArray.size_append]; have := HSM.out; unfold maxLen; show key.size + 1 ≤ _; omega) rfl)
      have hkb : key.size + 1 ≤ 9223372036854775807 := by have := HSM.out; omega
      clear hmn
      go_upto_region 31 with (go_at_call 18; refine HG.out.mono ?_; rintro e wg ⟨rfl, hmg⟩)
      obtain ⟨wg2, hwg2⟩ : ∃ x, x = wg.alloc (.cells #[.string ⟨#[]⟩, .slice none 0 0, .string ⟨#[]⟩, .int .i64 0, .int .i64 0] 38) := ⟨_, rfl⟩
      have HXG : Hid (Ext wg wg2) := Lib.hid (by rw [hwg2]; exact (Ext.refl wg).alloc _)
      rw [← hwg2]
      clear hwg2 e0'
      have hap := HSN.out.sk.apart_row HSN.out.row (by decide) (by decide)
      have HRW := Lib.hid ((hmg.rowB HSN.out.row (fun h => h.elim hap.1 hap.2)).ext HXG.out)
      have HEND := Lib.hid ((((Mod.of_ext _ HWN.out).then hmg (fun i hi => .inr (by rcases hi with h | h <;> rw [h] <;> first | exact HGE.out.2.2.1 | exact HGE.out.2.2.2))).ext (F := fun _ => False) (fun _ h => h.elim)).trans HXG.out)
      have HC8 := Lib.hid (HXG.out.cell (hmg.cell HCO2.out (by
        have h1 := HLT.out
        have h2 := HSZ.out
        have h3 := HGO.out
        rintro (h | h)
        · have : go = kb := h
          omega
        · have : go = d := h
          omega)))
      have HC9 := Lib.hid (HXG.out.cell (hmg.cell HGP.out.1 (by
        have h1 := HLT.out
        have h2 := HSZ.out
        have h3 := HGP.out.2
        rintro (h | h)
        · have : gp = kb := h
          omega
        · have : gp = d := h
          omega)))
      clear hmg hap
      go_wp2_with (first
        | (go_at_call 36; refine (num_nil _).mono ?_; rintro e wt ⟨rfl, rfl⟩)
        | (go_at_call 23; refine (texts_one24 HC9.out HC8.out).mono ?_; rintro e wt1 ⟨rfl, hxt⟩)
        | (go_at_call 37; refine (is_err 3 _ (by decide)).mono ?_; rintro e wt ⟨rfl, rfl⟩)
        | (go_at_call 31; refine (sync_ok24 (HRW.out.ext hxt)).mono ?_; rintro e wt ⟨rfl, rfl⟩))
      go_ret
      exact ⟨rfl, HEND.out.trans hxt⟩
    · as_aux_lemma =>
      go_upto_region 29 with (go_at_call 38; refine HMP.out.mono ?_; rintro e wm ⟨⟨ms, out, rfl, hms⟩, hmm⟩; obtain ⟨⟨gm, nm, cm, rfl⟩, hout⟩ := hms.out; obtain ⟨ho1, rfl⟩ := hout.resolve_right (fun h => absurd h.1 (by omega)))
      obtain ⟨wm2, hwm2⟩ : ∃ x, x = wm.alloc (.cells #[.pointer (some ⟨q2, 0, none⟩), .pointer (some ⟨k2, 0, none⟩), .pointer none, .slice (some ⟨gm, 0, none⟩) nm cm] 65) := ⟨_, rfl⟩
      have HXM : Hid (Ext wm wm2) := Lib.hid (by rw [hwm2]; exact (Ext.refl wm).alloc _)
      rw [← hwm2]
      have hq2 := HQB.out.2
      have hl1 := HSP.out.row.lt
      have hl2 := HSP.out.m.lt
      have hl3 := HSP.out.q.lt.1
      have hl4 := HSP.out.sk.lt.1
      have hl5 := HSP.out.sk.lt.2
      have HSM2 := Lib.hid ((HSB.out.keep hmm (fun h => by rcases h with h | h; omega; cases h) (fun h => by rcases h with h | h; omega; cases h) (fun h => by rcases h with h | h; omega; cases h) (fun h => by rcases h with h | h; omega; cases h) (fun h => by rcases h with h | h; omega; cases h) (fun g hg => by cases hg)).ext HXM.out)
      have hoq := HQB.out.1.apart_row HOB.out (by decide) (by decide)
      have HOC := Lib.hid ((hmm.rowB HOB.out (fun h => by rcases h with h | h; exact hoq.1 h; cases h)).ext HXM.out)
      have HWM := Lib.hid ((((Mod.of_ext _ HWB.out).then hmm (fun i hi => .inr (by
        rcases hi with h | h
        · rw [h]
          have h1 := HWB.out.size
          have h2 := (HXS.out.trans (HXR.out.trans (HXK.out.trans HXP.out))).size
          omega
        · cases h))).ext (F := fun _ => False) (fun _ h => h.elim)).trans HXM.out)
      have HLT := Lib.hid (show mp < wp2.heap.size ∧ q < wp2.heap.size ∧ kb < wp2.heap.size ∧ d < wp2.heap.size from ⟨hl2, hl3, hl4, hl5⟩)
      have HSZ := Lib.hid (show wp2.heap.size ≤ wb2.heap.size ∧ wb2.heap.size ≤ wm.heap.size ∧ wm.heap.size ≤ wm2.heap.size from ⟨HXB.out.size, hmm.size, HXM.out.size⟩)
      clear hwm2 hmm hq2 hl1 hl2 hl3 hl4 hl5 hoq ho1 hms hout
      clear c0 c1 c2 c3
      clear e0 e1 e2 e3 e4
      have e0 := (HOC.out).cell (j := 0) rfl
      have e1 := (HOC.out).cell (j := 1) rfl
      have e2 := (HOC.out).cell (j := 2) rfl
      have e3 := (HOC.out).cell (j := 3) rfl
      have e4 := (HOC.out).cell (j := 4) rfl
      have HBM := Lib.hid (show wq.heap.size ≤ wm2.heap.size by
        have h1 := HBZ.out
        have h2 := (HXR.out.trans (HXK.out.trans HXP.out)).size
        have h3 := HSZ.out
        omega)
      have HPF := Lib.hid (put_first (key := key) (tag := tag) (A := A) (n := n) (c := c) (mt := mtb) (len := ln) (asof := asof) HSM2.out HBM.out hr1 hr2 hr3 hr4 (fun W hW => HCL.out W (HWM.out.trans hW)) (by omega) HC2.out)
      go_upto_region 30 with (go_at_call 11; refine HPF.out.mono ?_; rintro e wn ⟨rfl, hmn, hsn⟩; have e0' := (hmn.rowB HOC.out (sh_apart HSM2.out HOC.out (by decide) (by decide))).cell (j := 0) rfl)
      obtain ⟨r5, it5, A5, c5, b5, lb5, Bb5, ho5, -, -, -⟩ := hsn.out
      have HSN := Lib.hid ho5.sh
      clear hsn ho5
      clear e0 e1 e2 e3 e4
      have HWN := Lib.hid (((Mod.of_ext _ HWM.out).then hmn (fun i hi => .inr (by
        rcases hi with h | h | h
        · rw [h]; exact HGE.out.1
        · rw [h]; exact HGE.out.2.1
        · cases h))).ext (F := fun _ => False) (fun _ h => h.elim))
      have HG := Lib.hid (get_miss HSN.out (key ++ ⟨#[120]⟩) (by rw [ByteArray.size_append]; have := HSM.out; unfold maxLen; show key.size + 1 ≤ _; omega) mget_other)
      have hkb : key.size + 1 ≤ 9223372036854775807 := by have := HSM.out; omega
      clear hmn
      go_upto_region 31 with (go_at_call 18; refine HG.out.mono ?_; rintro e wg ⟨rfl, hmg⟩)
      obtain ⟨wg2, hwg2⟩ : ∃ x, x = wg.alloc (.cells #[.string ⟨#[]⟩, .slice none 0 0, .string ⟨#[]⟩, .int .i64 0, .int .i64 0] 38) := ⟨_, rfl⟩
      have HXG : Hid (Ext wg wg2) := Lib.hid (by rw [hwg2]; exact (Ext.refl wg).alloc _)
      rw [← hwg2]
      clear hwg2 e0'
      have hap := HSN.out.sk.apart_row HSN.out.row (by decide) (by decide)
      have HRW := Lib.hid ((hmg.rowB HSN.out.row (fun h => h.elim hap.1 hap.2)).ext HXG.out)
      have HEND := Lib.hid ((((Mod.of_ext _ HWN.out).then hmg (fun i hi => .inr (by rcases hi with h | h <;> rw [h] <;> first | exact HGE.out.2.2.1 | exact HGE.out.2.2.2))).ext (F := fun _ => False) (fun _ h => h.elim)).trans HXG.out)
      clear hmg hap
      go_wp2_with (first
        | (go_at_call 36; refine (num_nil _).mono ?_; rintro e wt ⟨rfl, rfl⟩)
        | (go_at_call 23; refine (texts_nil24 _).mono ?_; rintro e wt1 ⟨rfl, hxt⟩)
        | (go_at_call 37; refine (is_err 3 _ (by decide)).mono ?_; rintro e wt ⟨rfl, rfl⟩)
        | (go_at_call 31; refine (sync_ok24 (HRW.out.ext hxt)).mono ?_; rintro e wt ⟨rfl, rfl⟩))
      go_ret
      exact ⟨rfl, HEND.out.trans hxt⟩
end Go.Proofs.YtfgjbbpkkbohhaaGreat
