/- Chapter 24: Texts of at most one text. Chapter 24: the law ShelfForms. -/
import Derived.Test.YtfgjbbpkkbohhaaGreatSgG
namespace Go.Proofs.YtfgjbbpkkbohhaaGreat
open Go.RowKit Go.Deep
theorem texts_nil24 (w : World) : Calls Tryz.prog 23 #[.slice none 0 0, .slice none 0 0] w fun e w' => e = .returned (.bool true) ∧ Ext w w' := by
  go_enter Tryz.func23, Tryz.ntmps23
  go_wp2_with fail
  refine wp_loop_rounds 1 ?_
  rw [rounds_succ]
  go_wp2_with fail
  go_ret
  exact ⟨rfl, Ext.refl w⟩
theorem texts_one24 {w : World} {g g' c c' : Nat} {k : ByteArray} (h : w.cell? ⟨g, 0, none⟩ = some (.string k)) (h' : w.cell? ⟨g', 0, none⟩ = some (.string k)) : Calls Tryz.prog 23 #[.slice (some ⟨g, 0, none⟩) 1 c, .slice (some ⟨g', 0, none⟩) 1 c'] w fun e w' => e = .returned (.bool true) ∧ Ext w w' := by
  have hq : (k.toList == k.toList) = true := by simp
  have a0 := fun q => ((Ext.refl w).drewN q).cell h
  have b0 := fun q => ((Ext.refl w).drewN q).cell h'
  go_enter Tryz.func23, Tryz.ntmps23
  go_wp2_with fail
  refine wp_loop_rounds 2 ?_
  rw [rounds_succ]
  go_upto_region 6 with fail
  refine wp_region_quiet_lit (by kernel_rfl) (by kernel_rfl) ?_
  repeat (go_big_quiet_step (fail))
  refine wpQuiet_nil ?_
  rintro _ ⟨nq, rfl⟩
  go_wp2_with fail
  all_goals (rw [rounds_succ]; go_wp2_with fail)
  all_goals go_ret
  all_goals exact ⟨rfl, (Ext.refl w).drewN nq⟩
theorem mget_other {k : ByteArray} {v : Value} : mget [(k, v)] (k ++ ⟨#[120]⟩) = none := by
  refine mget_none fun p hp => ?_
  simp at hp
  subst hp
  intro e
  have := congrArg ByteArray.size e
  rw [ByteArray.size_append] at this
  exact absurd this (by show k.size ≠ k.size + 1; omega)
end Go.Proofs.YtfgjbbpkkbohhaaGreat
namespace Go.Proofs.YtfgjbbpkkbohhaaGreat
open Go.RowKit Go.Deep Go.Sort
set_option maxRecDepth 100000 in
set_option maxHeartbeats 8000000 in
theorem forms24_no (key tag : ByteArray) (A : Option Addr) (n c : Nat) (len asof C i : Int) (hsm : key.size + n + tag.size ≤ 20000) (hC : C < 1 ∨ 1099511627776 < C) (w : World) :
    Calls Tryz.prog 7 #[objV key A n c tag len asof, .int .i64 C, .int .i64 i] w fun e w' => e = .returned (.bool true) ∧ Ext w w' := by
  have HAW := Lib.hid awake24
  have HQ := Lib.hid (fun W => qnew_no C hC W)
  have HN := Lib.hid (fun W => new_no24 C hC W)
  have HR := Lib.hid (fun W => recover_no C hC W)
  have HSM := Lib.hid hsm
  have hs1 : ¬ ((20000 : Int) < (key.size : Int) + (n : Int) + (tag.size : Int)) := by omega
  have hs2 : key.size ≤ 20000 := by omega
  have hs3 : n ≤ 20000 := by omega
  have hs4 : tag.size ≤ 20000 := by omega
  clear hC hsm
  go_enter Tryz.func7, Tryz.ntmps7
  go_upto_region 1 with fail
  obtain ⟨wa, hwa⟩ : ∃ x, x = w.alloc (.cells #[.string key, .slice A n c, .string tag, .int .i64 len, .int .i64 asof] 38) := ⟨_, rfl⟩
  have HXA : Hid (Ext w wa) := Lib.hid (by rw [hwa]; exact (Ext.refl w).alloc _)
  have HOA : Hid (RowB wa w.heap.size 38 [.string key, .slice A n c, .string tag, .int .i64 len, .int .i64 asof]) := Lib.hid (by rw [hwa]; exact row_laid w _ _)
  rw [← hwa]
  clear hwa
  go_upto_region 3 with (go_at_call 9; refine (HAW.out _).mono ?_; rintro e w0 ⟨rfl, hx0⟩; have c0 := (HOA.out.ext hx0).cell (j := 0) rfl; have c1 := (HOA.out.ext hx0).cell (j := 1) rfl; have c2 := (HOA.out.ext hx0).cell (j := 2) rfl)
  have HO0 := Lib.hid (HOA.out.ext hx0)
  have HX0 := Lib.hid (HXA.out.trans hx0)
  clear c0 c1 c2 hx0 hs1 hs2 hs3 hs4
  go_upto_region 8 with (first
    | (go_at_call 34; refine (HQ.out _).mono ?_; rintro e wt ⟨rfl, rfl⟩)
    | (go_at_call 10; refine (HN.out _).mono ?_; rintro e wt ⟨rfl, rfl⟩)
    | (go_at_call 35; refine (HR.out _).mono ?_; rintro e wt ⟨rfl, rfl⟩)
    | (go_at_call 36; refine (num_err 1 _).mono ?_; rintro e wt ⟨rfl, rfl⟩))
  have HON := HO0
  go_upto_region 9 with fail
  have c0 := (HON.out).cell (j := 0) rfl
  have c1 := (HON.out).cell (j := 1) rfl
  have c2 := (HON.out).cell (j := 2) rfl
  have c3 := (HON.out).cell (j := 3) rfl
  have c4 := (HON.out).cell (j := 4) rfl
  go_upto_region 10 with (go_at_call 11; refine (put_nil24 _ ⟨key, A, n, c, tag, len, asof, rfl⟩ _).mono ?_; rintro e wn1 ⟨rfl, hxn1⟩; have d0 := (HON.out.ext hxn1).cell (j := 0) rfl; have d2 := (HON.out.ext hxn1).cell (j := 2) rfl)
  clear c0 c1 c2 c3 c4
  go_upto_region 11 with (go_at_call 15; refine (fill_nil24 _ _ _ _).mono ?_; rintro e wn2 ⟨rfl, rfl⟩)
  clear d2
  go_upto_region 12 with (go_at_call 18; refine (get_nil24 _ _).mono ?_; rintro e wn3 ⟨rfl, hxn3⟩)
  clear d0
  obtain ⟨wn4, hwn4⟩ : ∃ x, x = wn3.alloc (.cells #[.string ⟨#[]⟩, .slice none 0 0, .string ⟨#[]⟩, .int .i64 0, .int .i64 0] 38) := ⟨_, rfl⟩
  have XN4 : Ext wn3 wn4 := by rw [hwn4]; exact (Ext.refl wn3).alloc _
  rw [← hwn4]
  have HON4 := Lib.hid (HON.out.ext (hxn1.trans (hxn3.trans XN4)))
  have d0 := HON4.out.cell (j := 0) rfl
  clear hwn4
  go_upto_region 13 with (go_at_call 32; refine (read_nil24 _ _ _ _).mono ?_; rintro e wn5 ⟨rfl, hxn5⟩; have d0' := (HON4.out.ext hxn5).cell (j := 0) rfl)
  clear d0
  go_upto_region 14 with (go_at_call 19; refine (missing_nil24 _ _ _ _).mono ?_; rintro e wn6 ⟨rfl, hxn6⟩)
  clear d0'
  have HON6 := Lib.hid (HON4.out.ext (hxn5.trans hxn6))
  have XN6 := Lib.hid (hxn1.trans (hxn3.trans (XN4.trans (hxn5.trans hxn6))))
  clear hxn1 hxn3 XN4 hxn5 hxn6
  go_wp2_with (go_at_call 31; refine (sync_nil24 _).mono ?_; rintro e wt ⟨rfl, rfl⟩)
  have XL := Lib.hid ((Ext.refl wn6).alloc (.cells #[errV 3, errV 3, errV 3, errV 3, errV 3, errV 3] 28))
  have e0 := (HON6.out.ext XL.out).cell (j := 0) rfl
  refine wp_loop_rounds 7 ?_
  rw [rounds_succ]
  go_wp2_with (first
    | (go_at_call 37; refine (is_err 3 _ (by decide)).mono ?_; rintro e wt ⟨rfl, rfl⟩)
    | (go_at_call 33; refine (whole_nil24 _ _).mono ?_; rintro e wt ⟨rfl, rfl⟩)
    | (go_at_call 21; refine (drop_nil24 _ _).mono ?_; rintro e wt ⟨rfl, rfl⟩)
    | (go_at_call 24; refine (keys_nil24 _).mono ?_; rintro e wt ⟨rfl, rfl⟩)
    | (go_at_call 22; refine (tier_nil24 _ _).mono ?_; rintro e wt ⟨rfl, rfl⟩))
  repeat any_goals (rw [rounds_succ]; go_wp2_with (first
    | (go_at_call 37; refine (is_err 3 _ (by decide)).mono ?_; rintro e wt ⟨rfl, rfl⟩)
    | (go_at_call 33; refine (whole_nil24 _ _).mono ?_; rintro e wt ⟨rfl, rfl⟩)
    | (go_at_call 21; refine (drop_nil24 _ _).mono ?_; rintro e wt ⟨rfl, rfl⟩)
    | (go_at_call 24; refine (keys_nil24 _).mono ?_; rintro e wt ⟨rfl, rfl⟩)
    | (go_at_call 22; refine (tier_nil24 _ _).mono ?_; rintro e wt ⟨rfl, rfl⟩)))
  all_goals go_ret
  all_goals exact ⟨rfl, HX0.out.trans (XN6.out.trans XL.out)⟩
end Go.Proofs.YtfgjbbpkkbohhaaGreat
