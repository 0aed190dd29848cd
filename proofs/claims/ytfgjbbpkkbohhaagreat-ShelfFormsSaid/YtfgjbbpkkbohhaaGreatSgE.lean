/- Chapter 24: the model: size, stored. -/
import Derived.Test.YtfgjbbpkkbohhaaGreatGA
import Derived.Test.YtfgjbbpkkbohhaaGreatWid2
namespace Go.Proofs.YtfgjbbpkkbohhaaGreat
open Go.RowKit Go.Deep
set_option maxRecDepth 100000 in
theorem size_none {key tag bt : ByteArray} {A : Option Addr} {n c : Nat} {ln asof bl : Int} {len d t : Nat} {w : World} (hR : RefAt w d t len fun _ => none) (hn : n ≤ 8192) (hl : len ≤ 65536) :
    Calls Tryz.prog 114 #[entV key A n c tag ln asof bt bl (.slice (some ⟨d, 0, none⟩) (npc len) (npc len)) (.slice (some ⟨t, 0, none⟩) (npc len) (npc len))] w fun e w' => e = .returned (.int .i64 (n + 64 : Nat)) ∧ Ext w w' := by
  obtain ⟨m, hm⟩ : ∃ m, npc len = m := ⟨_, rfl⟩
  have hm2 : m ≤ 256 := by rw [← hm]; unfold npc; omega
  have HD := Lib.hid (show ∀ W, Ext w W → ∀ i, i < m → W.cell? ⟨d, i, none⟩ = some (.string ⟨#[]⟩) from fun W hW i hi => hW.cell (hR.data.cell (by rw [hm]; exact hi)))
  rw [hm]
  clear hR hm
  go_enter Tryz.func114, Tryz.ntmps114
  go_upto_region 1 with fail
  obtain ⟨wa, hwa⟩ : ∃ x, x = w.alloc (.cells #[.string key, .slice A n c, .string tag, .int .i64 ln, .int .i64 asof, .string bt, .int .i64 bl, .slice (some ⟨d, 0, none⟩) m m, .slice (some ⟨t, 0, none⟩) m m] 131) := ⟨_, rfl⟩
  have HXA : Hid (Ext w wa) := Lib.hid (by rw [hwa]; exact (Ext.refl w).alloc _)
  have HRA : Hid (RowB wa w.heap.size 131 [.string key, .slice A n c, .string tag, .int .i64 ln, .int .i64 asof, .string bt, .int .i64 bl, .slice (some ⟨d, 0, none⟩) m m, .slice (some ⟨t, 0, none⟩) m m]) := Lib.hid (by rw [hwa]; exact row_laid w _ _)
  rw [← hwa]
  clear hwa
  have c1 := HRA.out.cell (j := 1) rfl
  have c7 := HRA.out.cell (j := 7) rfl
  go_wp2_with fail
  go_loopw [3, 14] (fun sz i wr => ∃ k : Nat, k ≤ m ∧ i = .int .i64 k ∧ sz = .int .i64 (n + 64 : Nat) ∧ wr = wa) (fun _ i _ => m - (intOf i).toNat)
  case atStart => refine ⟨0, by omega, ?_⟩; simp
  case round =>
    obtain ⟨k, hk, rfl, rfl, rfl⟩ := hrel
    by_cases hlt : k < m
    · have hki : (k : Int) < (m : Int) := by omega
      have hd := HD.out _ HXA.out k hlt
      go_wp2_with fail
      go_roundw
      case rel => refine ⟨k + 1, by omega, by go_num, ?_⟩; simp
      case measure => simp [intOf]; omega
    · obtain rfl : k = m := by omega
      go_wp2_with fail
      go_ret
      exact ⟨rfl, HXA.out⟩
theorem own_row1 {w : World} {B size : Nat} {T : TypeId} {v : Value} {xs : List Value} (h : w.ownsRow B T size v (0 + 1) ([] ++ xs)) : ∃ g c, v = .slice (some ⟨g, 0, none⟩) 1 c ∧ RowB w g T xs ∧ B ≤ g := by
  rcases h.2 with ⟨-, hn⟩ | ⟨g2, cap2, cur2, rfl, hb2, hh2, hn2, hm2, hz2, ht2⟩
  · exact absurd hn (by decide)
  · rw [List.nil_append] at ht2
    exact ⟨g2, cap2, rfl, ⟨cur2, (0, 0), cur2.toList.drop ((0 + 1) * size), hh2, fun j h1 h2 => by simp at h2, by rw [← ht2, List.take_append_drop]⟩, hb2⟩
theorem entry_info : (Tryz.prog.info? 131).map (fun i => (i.zero, i.size, i.bytes)) = some (some (.agg #[.string ⟨#[]⟩, .slice none 0 0, .string ⟨#[]⟩, .int .i64 0, .int .i64 0, .string ⟨#[]⟩, .int .i64 0, .slice none 0 0, .slice none 0 0]), 9, 144) := by kernel_rfl
set_option maxRecDepth 100000 in
set_option maxHeartbeats 2000000 in
theorem stored_none {w : World} {B q : Nat} {r : Option Nat} {C : Int} (hq : QAt w B q r C none) (hB : B ≤ w.heap.size) (hC : C ≤ 1099511627776) (kv : Value) (hkv : ∃ kb, kv = .pointer (some ⟨kb, 0, none⟩)) {key tag : ByteArray} {A : Option Addr} {n c : Nat} {asof : Int} {len d t : Nat} (hR : RefAt w d t len fun _ => none) (hn : n ≤ 8192) (hl : len ≤ 65536) :
    Calls Tryz.prog 77 #[modV (.pointer (some ⟨q, 0, none⟩)) kv (.pointer none) (.slice none 0 0), entV key A n c tag len asof tag len (.slice (some ⟨d, 0, none⟩) (npc len) (npc len)) (.slice (some ⟨t, 0, none⟩) (npc len) (npc len))] w fun e w' =>
      ∃ gm nm cm out, e = .returned (.tuple #[modV (.pointer (some ⟨q, 0, none⟩)) kv (.pointer none) (.slice (some ⟨gm, 0, none⟩) nm cm), out]) ∧ Mod (fun x => x = q ∨ r = some x) w w' ∧ Hid ((((n + 64 : Nat) : Int) ≤ C ∧ out = .slice none 0 0) ∨ (C < ((n + 64 : Nat) : Int) ∧ ∃ g c, out = .slice (some ⟨g, 0, none⟩) 1 c ∧ w'.cell? ⟨g, 0, none⟩ = some (.string key) ∧ w.heap.size ≤ g)) := by
  obtain ⟨kb, rfl⟩ := hkv
  obtain ⟨m, hm⟩ : ∃ m, npc len = m := ⟨_, rfl⟩
  have HQ := Lib.hid hq
  have HRF := Lib.hid hR
  have HM := Lib.hid hm
  rw [hm]
  clear hq hR hm
  go_enter Tryz.func77, Tryz.ntmps77
  go_upto_region 1 with fail
  obtain ⟨wa, hwa⟩ : ∃ x, x = ((w.alloc (.cells #[.pointer (some ⟨q, 0, none⟩), .pointer (some ⟨kb, 0, none⟩), .pointer none, .slice none 0 0] 65)).alloc (.cells #[.string key, .slice A n c, .string tag, .int .i64 len, .int .i64 asof, .string tag, .int .i64 len, .slice (some ⟨d, 0, none⟩) m m, .slice (some ⟨t, 0, none⟩) m m] 131)).alloc (.cells #[.pointer none, .pointer none, .pointer none, .slice none 0 0] 65) := ⟨_, rfl⟩
  have HXA : Hid (Ext w wa) := Lib.hid (by rw [hwa]; exact (((Ext.refl w).alloc _).alloc _).alloc _)
  have HMA : Hid (RowB wa w.heap.size 65 [.pointer (some ⟨q, 0, none⟩), .pointer (some ⟨kb, 0, none⟩), .pointer none, .slice none 0 0]) := Lib.hid (by rw [hwa]; exact (row_laid w _ _).ext (((Ext.refl _).alloc _).alloc _))
  have HEA : Hid (RowB wa (w.heap.size + 1) 131 [.string key, .slice A n c, .string tag, .int .i64 len, .int .i64 asof, .string tag, .int .i64 len, .slice (some ⟨d, 0, none⟩) m m, .slice (some ⟨t, 0, none⟩) m m]) := Lib.hid (by rw [hwa]; have := (row_laid (w.alloc (.cells #[.pointer (some ⟨q, 0, none⟩), .pointer (some ⟨kb, 0, none⟩), .pointer none, .slice none 0 0] 65)) 131 [.string key, .slice A n c, .string tag, .int .i64 len, .int .i64 asof, .string tag, .int .i64 len, .slice (some ⟨d, 0, none⟩) m m, .slice (some ⟨t, 0, none⟩) m m]).ext ((Ext.refl _).alloc (.cells #[.pointer none, .pointer none, .pointer none, .slice none 0 0] 65)); simpa using this)
  have HOA : Hid (RowB wa (w.heap.size + 1 + 1) 65 [.pointer none, .pointer none, .pointer none, .slice none 0 0]) := Lib.hid (by rw [hwa]; have := row_laid ((w.alloc (.cells #[.pointer (some ⟨q, 0, none⟩), .pointer (some ⟨kb, 0, none⟩), .pointer none, .slice none 0 0] 65)).alloc (.cells #[.string key, .slice A n c, .string tag, .int .i64 len, .int .i64 asof, .string tag, .int .i64 len, .slice (some ⟨d, 0, none⟩) m m, .slice (some ⟨t, 0, none⟩) m m] 131)) 65 [.pointer none, .pointer none, .pointer none, .slice none 0 0]; simpa using this)
  have HZA := Lib.hid (show wa.heap.size = w.heap.size + 3 by rw [hwa]; simp)
  rw [← hwa]
  clear hwa
  have c3 := HMA.out.cell (j := 3) rfl
  have e0 := (HEA.out).cell (j := 0) rfl
  have e1 := (HEA.out).cell (j := 1) rfl
  have e2 := (HEA.out).cell (j := 2) rfl
  have e3 := (HEA.out).cell (j := 3) rfl
  have e4 := (HEA.out).cell (j := 4) rfl
  have e5 := (HEA.out).cell (j := 5) rfl
  have e6 := (HEA.out).cell (j := 6) rfl
  have e7 := (HEA.out).cell (j := 7) rfl
  have e8 := (HEA.out).cell (j := 8) rfl
  go_upto_region 2 with fail
  go_wp2_with fail
  refine wp_loop_rounds 1 ?_
  rw [rounds_succ]
  obtain ⟨i0, hi0, hz0, hz1, hz2⟩ := info_parts entry_info
  have XE := (Ext.refl wa).alloc (.cells #[.string key, .slice A n c, .string tag, .int .i64 len, .int .i64 asof, .string tag, .int .i64 len, .slice (some ⟨d, 0, none⟩) m m, .slice (some ⟨t, 0, none⟩) m m] 131)
  have HRD : Hid (Reads (wa.alloc (.cells #[.string key, .slice A n c, .string tag, .int .i64 len, .int .i64 asof, .string tag, .int .i64 len, .slice (some ⟨d, 0, none⟩) m m, .slice (some ⟨t, 0, none⟩) m m] 131)) (wa.heap.size + 1) 9 (some ⟨wa.heap.size, 0, none⟩) 1 [.string key, .slice A n c, .string tag, .int .i64 len, .int .i64 asof, .string tag, .int .i64 len, .slice (some ⟨d, 0, none⟩) m m, .slice (some ⟨t, 0, none⟩) m m]) := Lib.hid ⟨rfl, fun _ => ⟨_, rfl, by show wa.heap.size < wa.heap.size + 1; omega, fun j u hj => by
    have hh := (row_laid wa 131 [.string key, .slice A n c, .string tag, .int .i64 len, .int .i64 asof, .string tag, .int .i64 len, .slice (some ⟨d, 0, none⟩) m m, .slice (some ⟨t, 0, none⟩) m m]).cell hj
    rw [show (⟨wa.heap.size, 0, none⟩ : Addr).add j = ⟨wa.heap.size, j, none⟩ by unfold Addr.add; split <;> simp_all]
    exact hh⟩⟩
  have HMW := Lib.hid (HMA.out.ext XE)
  go_upto_region 8 with fail
  go_upto_region 9 with (at_builtin; refine wpList_append_any _ rfl (.tmp 43) (.tmp 45) _ rfl wa.heap.size 131 i0 _ 9 144 Tryz.underlying63 hi0 hz0 hz1 hz2 rfl (by omega) _ 0 [] rfl (World.ownsRow_nil _ _ _ _) _ _ 1 1 _ rfl HRD.out (by simp [Value.oneCell']) (by simp only [maxLen]; omega) (by omega) (by simp) ?_; intro v2 w10 hown2 hg2 hat2; obtain ⟨g2, c2, rfl, hr2⟩ := own_row1 hown2; have hg3 : (wa.alloc (.cells #[.string key, .slice A n c, .string tag, .int .i64 len, .int .i64 asof, .string tag, .int .i64 len, .slice (some ⟨d, 0, none⟩) m m, .slice (some ⟨t, 0, none⟩) m m] 131)).grownBy w10 none := hg2; have hx10 : Ext wa w10 := Below.grown XE hg3 (by simp) (fun k hk => by cases hk); have k3 := hx10.cell c3; have f3 := (hx10.frozen c3).trans (HMA.out.frozen (j := 3) (by simp)))
  have hx11 : Ext w (w10.setCell ⟨w.heap.size, 3, none⟩ (.slice (some ⟨g2, 0, none⟩) 1 c2)) := (HXA.out.trans hx10).setCell (p := ⟨w.heap.size, 3, none⟩) (Nat.le_refl _) _
  have hm11 := Mod.setCell (Mod.refl (fun x => x = w.heap.size) w10) (p := ⟨w.heap.size, 3, none⟩) (.inl rfl) (.slice (some ⟨g2, 0, none⟩) 1 c2)
  have HM11 := Lib.hid ((HMA.out.ext hx10).set 3 (.slice (some ⟨g2, 0, none⟩) 1 c2) (by simp))
  have HE11 := Lib.hid (hm11.rowB (HEA.out.ext hx10) (by omega))
  have HO11 := Lib.hid (hm11.rowB (HOA.out.ext hx10) (by omega))
  have hb2 : wa.heap.size ≤ g2 := hr2.2
  have HG11 := Lib.hid (hm11.rowB hr2.1 (by have := HZA.out; omega))
  have HGE := Lib.hid (show w.heap.size ≤ g2 by have := HZA.out; omega)
  have HX11 := Lib.hid hx11
  obtain ⟨w11, hw11⟩ : ∃ x, x = w10.setCell ⟨w.heap.size, 3, none⟩ (.slice (some ⟨g2, 0, none⟩) 1 c2) := ⟨_, rfl⟩
  rw [← hw11] at HM11 HE11 HO11 HG11 HX11
  rw [← hw11]
  have HM11' : Hid (RowB w11 w.heap.size 65 [.pointer (some ⟨q, 0, none⟩), .pointer (some ⟨kb, 0, none⟩), .pointer none, .slice (some ⟨g2, 0, none⟩) 1 c2]) := HM11
  clear hw11 hx11 hm11 hr2 hg3 hg2 hat2 hx10 k3 f3 c3 hown2 HRD HMW XE hi0 hz0 hz1 hz2 HM11 hb2
  clear e0 e1 e2 e3 e4 e5 e6 e7 e8
  go_upto_region 10 with fail
  have E11 := Lib.hid ((Ext.refl w11).drew)
  have HSZ := Lib.hid (fun W (hW : Ext w W) => by have := size_none (key := key) (A := A) (n := n) (c := c) (tag := tag) (ln := len) (asof := asof) (bt := tag) (bl := len) (HRF.out.ext hW) hn hl; rw [HM.out] at this; exact this)
  have HC11 := Lib.hid (show RowB w11.drew w.heap.size 65 [.pointer (some ⟨q, 0, none⟩), .pointer (some ⟨kb, 0, none⟩), .pointer none, .slice (some ⟨g2, 0, none⟩) 1 c2] ∧ RowB w11.drew (w.heap.size + 1) 131 [.string key, .slice A n c, .string tag, .int .i64 len, .int .i64 asof, .string tag, .int .i64 len, .slice (some ⟨d, 0, none⟩) m m, .slice (some ⟨t, 0, none⟩) m m] from ⟨HM11'.out.ext E11.out, HE11.out.ext E11.out⟩)
  refine wp_region_C (C := fun W => RowB W w.heap.size 65 [.pointer (some ⟨q, 0, none⟩), .pointer (some ⟨kb, 0, none⟩), .pointer none, .slice (some ⟨g2, 0, none⟩) 1 c2] ∧ RowB W (w.heap.size + 1) 131 [.string key, .slice A n c, .string tag, .int .i64 len, .int .i64 asof, .string tag, .int .i64 len, .slice (some ⟨d, 0, none⟩) m m, .slice (some ⟨t, 0, none⟩) m m]) (by kernel_rfl) ?_
  refine wpAnyC_take (i := 0) (v := .pointer (some ⟨w.heap.size, 0, none⟩)) rfl (by kernel_rfl) (by kernel_rfl) (by kernel_rfl) (fun _ _ _ h => h) HC11.out (by kernel_rfl) ?_ ?_
  · intro W hW; go_simp; try (with_reducible rfl)
  change wpAnyC _ _ _ _ _ _ _ (Act.put _ (some 48) (.pointer (some ⟨w.heap.size, 0, none⟩))) _
  try simp only [Act.put, List.setIfInBounds_toArray, List.set_cons_succ, List.set_cons_zero]
  refine wpAnyC_take (i := 1) (v := .pointer (some ⟨q, 0, none⟩)) rfl (by kernel_rfl) (by kernel_rfl) (by kernel_rfl) (fun _ _ _ h => h) HC11.out (by kernel_rfl) ?_ ?_
  · intro W hW; have c0 := hW.1.cell (j := 0) rfl; go_simp; try (with_reducible rfl)
  change wpAnyC _ _ _ _ _ _ _ (Act.put _ (some 49) (.pointer (some ⟨q, 0, none⟩))) _
  try simp only [Act.put, List.setIfInBounds_toArray, List.set_cons_succ, List.set_cons_zero]
  refine wpAnyC_take (i := 2) (v := .pointer (some ⟨w.heap.size + 1, 0, none⟩)) rfl (by kernel_rfl) (by kernel_rfl) (by kernel_rfl) (fun _ _ _ h => h) HC11.out (by kernel_rfl) ?_ ?_
  · intro W hW; go_simp; try (with_reducible rfl)
  change wpAnyC _ _ _ _ _ _ _ (Act.put _ (some 50) (.pointer (some ⟨w.heap.size + 1, 0, none⟩))) _
  try simp only [Act.put, List.setIfInBounds_toArray, List.set_cons_succ, List.set_cons_zero]
  refine wpAnyC_take (i := 3) (v := .pointer (some ⟨w.heap.size + 1, 0, none⟩)) rfl (by kernel_rfl) (by kernel_rfl) (by kernel_rfl) (fun _ _ _ h => h) HC11.out (by kernel_rfl) ?_ ?_
  · intro W hW; go_simp; try (with_reducible rfl)
  change wpAnyC _ _ _ _ _ _ _ (Act.put _ (some 51) (.pointer (some ⟨w.heap.size + 1, 0, none⟩))) _
  try simp only [Act.put, List.setIfInBounds_toArray, List.set_cons_succ, List.set_cons_zero]
  refine wpAnyC_take (i := 4) (v := .string key) rfl (by kernel_rfl) (by kernel_rfl) (by kernel_rfl) (fun _ _ _ h => h) HC11.out (by kernel_rfl) ?_ ?_
  · intro W hW; have c0 := hW.2.cell (j := 0) rfl; go_simp; try (with_reducible rfl)
  change wpAnyC _ _ _ _ _ _ _ (Act.put _ (some 52) (.string key)) _
  try simp only [Act.put, List.setIfInBounds_toArray, List.set_cons_succ, List.set_cons_zero]
  refine wpAnyC_take (i := 5) (v := .agg #[.string key, .slice A n c, .string tag, .int .i64 len, .int .i64 asof, .string tag, .int .i64 len, .slice (some ⟨d, 0, none⟩) m m, .slice (some ⟨t, 0, none⟩) m m]) rfl (by kernel_rfl) (by kernel_rfl) (by kernel_rfl) (fun _ _ _ h => h) HC11.out (by kernel_rfl) ?_ ?_
  · intro W hW; have hr := hW.2; have c0 := hr.cell (j := 0) rfl; have c1 := hr.cell (j := 1) rfl; have c2 := hr.cell (j := 2) rfl; have c3 := hr.cell (j := 3) rfl; have c4 := hr.cell (j := 4) rfl; have c5 := hr.cell (j := 5) rfl; have c6 := hr.cell (j := 6) rfl; have c7 := hr.cell (j := 7) rfl; have c8 := hr.cell (j := 8) rfl; go_simp; try (with_reducible rfl)
  change wpAnyC _ _ _ _ _ _ _ (Act.put _ (some 53) (.agg #[.string key, .slice A n c, .string tag, .int .i64 len, .int .i64 asof, .string tag, .int .i64 len, .slice (some ⟨d, 0, none⟩) m m, .slice (some ⟨t, 0, none⟩) m m])) _
  try simp only [Act.put, List.setIfInBounds_toArray, List.set_cons_succ, List.set_cons_zero]
  refine wpAnyC_take (i := 9) (v := .int .i64 0) rfl (by kernel_rfl) (by kernel_rfl) (by kernel_rfl) (fun _ _ _ h => h) HC11.out (by kernel_rfl) ?_ ?_
  · intro W hW; go_simp; try (with_reducible rfl)
  change wpAnyC _ _ _ _ _ _ _ (Act.put _ (some 57) (.int .i64 0)) _
  try simp only [Act.put, List.setIfInBounds_toArray, List.set_cons_succ, List.set_cons_zero]
  refine wpAnyC_one 6 (by kernel_rfl) rfl (by kernel_rfl) (fun KK hKK => ?_)
  go_simp
  refine (HSZ.out _ (HX11.out.trans E11.out)).mono ?_
  rintro e w6 ⟨rfl, hx6⟩
  have X6 := Lib.hid (E11.out.trans hx6)
  have XW6 := Lib.hid (HX11.out.trans X6.out)
  have HC6 := Lib.hid (show RowB w6 w.heap.size 65 [.pointer (some ⟨q, 0, none⟩), .pointer (some ⟨kb, 0, none⟩), .pointer none, .slice (some ⟨g2, 0, none⟩) 1 c2] ∧ RowB w6 (w.heap.size + 1) 131 [.string key, .slice A n c, .string tag, .int .i64 len, .int .i64 asof, .string tag, .int .i64 len, .slice (some ⟨d, 0, none⟩) m m, .slice (some ⟨t, 0, none⟩) m m] from ⟨HM11'.out.ext X6.out, HE11.out.ext X6.out⟩)
  have HQ6 := Lib.hid (HQ.out.ext XW6.out)
  refine hKK _ _ HC6.out ?_
  clear hKK KK hx6
  try simp only [Act.put, List.setIfInBounds_toArray, List.set_cons_succ, List.set_cons_zero]
  by_cases hf : C < ((n + 64 : Nat) : Int)
  · have HPB := Lib.hid (put_big HQ6.out (k := key) (by simp) ((n + 64 : Nat) : Int) (by omega) hf)
    refine wpAnyC_one 7 (by kernel_rfl) rfl (by kernel_rfl) (fun KK hKK => ?_)
    go_simp
    refine (HPB.out).mono ?_
    rintro e w12 ⟨g3, rfl, hm12, -, hc12⟩
    have hap1 := HQ6.out.apart_row HC6.out.1 (by decide) (by decide)
    have hap2 := HQ6.out.apart_row HC6.out.2 (by decide) (by decide)
    have hap3 := HQ6.out.apart_row (HG11.out.ext X6.out) (by decide) (by decide)
    have hap4 := HQ6.out.apart_row (HO11.out.ext X6.out) (by decide) (by decide)
    have HC12 := Lib.hid (show RowB w12 w.heap.size 65 [.pointer (some ⟨q, 0, none⟩), .pointer (some ⟨kb, 0, none⟩), .pointer none, .slice (some ⟨g2, 0, none⟩) 1 c2] ∧ RowB w12 (w.heap.size + 1) 131 [.string key, .slice A n c, .string tag, .int .i64 len, .int .i64 asof, .string tag, .int .i64 len, .slice (some ⟨d, 0, none⟩) m m, .slice (some ⟨t, 0, none⟩) m m] from ⟨hm12.rowB HC6.out.1 (fun h => h.elim hap1.1 (fun h2 => hap1.2 _ h2 rfl)), hm12.rowB HC6.out.2 (fun h => h.elim hap2.1 (fun h2 => hap2.2 _ h2 rfl))⟩)
    have HG12 := Lib.hid (hm12.rowB (HG11.out.ext X6.out) (fun h => h.elim hap3.1 (fun h2 => hap3.2 _ h2 rfl)))
    have HO12 := Lib.hid (hm12.rowB (HO11.out.ext X6.out) (fun h => h.elim hap4.1 (fun h2 => hap4.2 _ h2 rfl)))
    have HM12 := Lib.hid ((Mod.of_ext _ XW6.out).trans hm12)
    have HCK := Lib.hid hc12.out
    clear hc12
    refine hKK _ _ HC12.out ?_
    clear hKK KK hap1 hap2 hap3 hap4 hm12
    try simp only [Act.put, List.setIfInBounds_toArray, List.set_cons_succ, List.set_cons_zero]
    refine wpAnyC_take (i := 8) (v := .int .i64 1) rfl (by kernel_rfl) (by kernel_rfl) (by kernel_rfl) (fun _ _ _ h => h) HC12.out (by kernel_rfl) ?_ ?_
    · intro W hW; go_simp; try (with_reducible rfl)
    change wpAnyC _ _ _ _ _ _ _ (Act.put _ (some 56) (.int .i64 1)) _
    try simp only [Act.put, List.setIfInBounds_toArray, List.set_cons_succ, List.set_cons_zero]
    refine ⟨by kernel_rfl, ?_⟩
    have HFH := Lib.hid (find_head (.pointer (some ⟨q, 0, none⟩)) (.pointer (some ⟨kb, 0, none⟩)) (.pointer none) key g2 c2 (HG12.out.cell (j := 0) rfl))
    have HMF := Lib.hid (fun mem W => mflash_nil (.pointer (some ⟨q, 0, none⟩)) (.pointer (some ⟨kb, 0, none⟩)) mem key W)
    have cc0 := (HC12.out.1).cell (j := 0) rfl
    have cc1 := (HC12.out.1).cell (j := 1) rfl
    have cc2 := (HC12.out.1).cell (j := 2) rfl
    have cc3 := (HC12.out.1).cell (j := 3) rfl
    have k3 := HCK.out.1
    go_wp2_with fail
    refine wp_loop_rounds 2 ?_
    rw [rounds_succ]
    go_upto_region 15 with (go_at_call 65; refine HFH.out.mono ?_; rintro e w13 ⟨rfl, hx13⟩)
    have HC13 := Lib.hid (show _ ∧ _ from ⟨HC12.out.1.ext hx13, HC12.out.2.ext hx13⟩)
    have HG13 := Lib.hid (HG12.out.ext hx13)
    have HX13 := Lib.hid hx13
    clear cc0 cc1 cc2 cc3
    have cc0 := (HC13.out.1).cell (j := 0) rfl
    have cc1 := (HC13.out.1).cell (j := 1) rfl
    have cc2 := (HC13.out.1).cell (j := 2) rfl
    have cc3 := (HC13.out.1).cell (j := 3) rfl
    have e0 := (HG13.out).cell (j := 0) rfl
    have e1 := (HG13.out).cell (j := 1) rfl
    have e2 := (HG13.out).cell (j := 2) rfl
    have e3 := (HG13.out).cell (j := 3) rfl
    have e4 := (HG13.out).cell (j := 4) rfl
    have e5 := (HG13.out).cell (j := 5) rfl
    have e6 := (HG13.out).cell (j := 6) rfl
    have e7 := (HG13.out).cell (j := 7) rfl
    have e8 := (HG13.out).cell (j := 8) rfl
    clear k3 hx13
    go_upto_region 16 with fail
    obtain ⟨w14, hw14⟩ : ∃ x, x = w13.alloc (.cells #[.string key, .slice A n c, .string tag, .int .i64 len, .int .i64 asof, .string tag, .int .i64 len, .slice (some ⟨d, 0, none⟩) m m, .slice (some ⟨t, 0, none⟩) m m] 131) := ⟨_, rfl⟩
    have X14 : Ext w13 w14 := by rw [hw14]; exact (Ext.refl w13).alloc _
    have HC14 := Lib.hid (show RowB w14 w.heap.size 65 [.pointer (some ⟨q, 0, none⟩), .pointer (some ⟨kb, 0, none⟩), .pointer none, .slice (some ⟨g2, 0, none⟩) 1 c2] from HC13.out.1.ext X14)
    have HX14 := Lib.hid (HX13.out.trans X14)
    rw [← hw14]
    clear hw14 X14
    clear cc0 cc1 cc2 cc3
    clear e0 e1 e2 e3 e4 e5 e6 e7 e8
    have E14 := Lib.hid ((Ext.refl w14).drew)
    obtain ⟨a5, ha5⟩ : ∃ a : Addr, a = if c2 = 1 then ⟨g2, 0, none⟩ else ⟨g2, 9, none⟩ := ⟨_, rfl⟩
    obtain ⟨i1, hi1, -, -, -⟩ := info_parts entry_info
    have hzA := fun W a a' c c' => run_append_zero (P := Tryz.prog) W 63 63 131 i1 Tryz.underlying63 hi1 a a' c c'
    refine wp_region_X Ext grows_ext 13 (by kernel_rfl) ?_
    refine wpX_take (grows_ext) (i := 1) (v := .pointer (some ⟨w.heap.size, 3, none⟩)) (by kernel_rfl) (by kernel_rfl) rfl (by kernel_rfl) (by kernel_rfl) (by kernel_rfl) (fun _ _ _ h => h) (by kernel_rfl) ?_ ?_
    · intro W hW; go_simp; try (with_reducible rfl)
    change wpX _ _ _ _ _ _ _ _ (Act.put _ (some 72) (.pointer (some ⟨w.heap.size, 3, none⟩))) _
    try simp only [Act.put, List.setIfInBounds_toArray, List.set_cons_succ, List.set_cons_zero]
    refine wpX_take (grows_ext) (i := 2) (v := .slice (some ⟨g2, 0, none⟩) 1 c2) (by kernel_rfl) (by kernel_rfl) rfl (by kernel_rfl) (by kernel_rfl) (by kernel_rfl) (fun _ _ _ h => h) (by kernel_rfl) ?_ ?_
    · intro W hW; have cc3 := (HC14.out.ext (E14.out.trans hW)).cell (j := 3) rfl; go_simp; try (with_reducible rfl)
    change wpX _ _ _ _ _ _ _ _ (Act.put _ (some 73) (.slice (some ⟨g2, 0, none⟩) 1 c2)) _
    try simp only [Act.put, List.setIfInBounds_toArray, List.set_cons_succ, List.set_cons_zero]
    refine wpX_take (grows_ext) (i := 3) (v := .int .i64 0) (by kernel_rfl) (by kernel_rfl) rfl (by kernel_rfl) (by kernel_rfl) (by kernel_rfl) (fun _ _ _ h => h) (by kernel_rfl) ?_ ?_
    · intro W hW; go_simp; try (with_reducible rfl)
    change wpX _ _ _ _ _ _ _ _ (Act.put _ (some 74) (.int .i64 0)) _
    try simp only [Act.put, List.setIfInBounds_toArray, List.set_cons_succ, List.set_cons_zero]
    refine wpX_take (grows_ext) (i := 4) (v := .slice (some ⟨g2, 0, none⟩) 0 c2) (by kernel_rfl) (by kernel_rfl) rfl (by kernel_rfl) (by kernel_rfl) (by kernel_rfl) (fun _ _ _ h => h) (by kernel_rfl) ?_ ?_
    · intro W hW; go_simp; try (with_reducible rfl)
    change wpX _ _ _ _ _ _ _ _ (Act.put _ (some 75) (.slice (some ⟨g2, 0, none⟩) 0 c2)) _
    try simp only [Act.put, List.setIfInBounds_toArray, List.set_cons_succ, List.set_cons_zero]
    refine wpX_take (grows_ext) (i := 6) (v := .pointer (some ⟨w.heap.size, 3, none⟩)) (by kernel_rfl) (by kernel_rfl) rfl (by kernel_rfl) (by kernel_rfl) (by kernel_rfl) (fun _ _ _ h => h) (by kernel_rfl) ?_ ?_
    · intro W hW; go_simp; try (with_reducible rfl)
    change wpX _ _ _ _ _ _ _ _ (Act.put _ (some 77) (.pointer (some ⟨w.heap.size, 3, none⟩))) _
    try simp only [Act.put, List.setIfInBounds_toArray, List.set_cons_succ, List.set_cons_zero]
    refine wpX_take (grows_ext) (i := 7) (v := .slice (some ⟨g2, 0, none⟩) 1 c2) (by kernel_rfl) (by kernel_rfl) rfl (by kernel_rfl) (by kernel_rfl) (by kernel_rfl) (fun _ _ _ h => h) (by kernel_rfl) ?_ ?_
    · intro W hW; have cc3 := (HC14.out.ext (E14.out.trans hW)).cell (j := 3) rfl; go_simp; try (with_reducible rfl)
    change wpX _ _ _ _ _ _ _ _ (Act.put _ (some 78) (.slice (some ⟨g2, 0, none⟩) 1 c2)) _
    try simp only [Act.put, List.setIfInBounds_toArray, List.set_cons_succ, List.set_cons_zero]
    refine wpX_take (grows_ext) (i := 8) (v := .int .i64 0) (by kernel_rfl) (by kernel_rfl) rfl (by kernel_rfl) (by kernel_rfl) (by kernel_rfl) (fun _ _ _ h => h) (by kernel_rfl) ?_ ?_
    · intro W hW; go_simp; try (with_reducible rfl)
    change wpX _ _ _ _ _ _ _ _ (Act.put _ (some 79) (.int .i64 0)) _
    try simp only [Act.put, List.setIfInBounds_toArray, List.set_cons_succ, List.set_cons_zero]
    refine wpX_take (grows_ext) (i := 9) (v := .int .i64 1) (by kernel_rfl) (by kernel_rfl) rfl (by kernel_rfl) (by kernel_rfl) (by kernel_rfl) (fun _ _ _ h => h) (by kernel_rfl) ?_ ?_
    · intro W hW; go_simp; try (first | with_reducible rfl | rfl)
    change wpX _ _ _ _ _ _ _ _ (Act.put _ (some 80) (.int .i64 1)) _
    try simp only [Act.put, List.setIfInBounds_toArray, List.set_cons_succ, List.set_cons_zero]
    refine wpX_take (grows_ext) (i := 10) (v := .slice (some a5) 0 (c2 - 1)) (by kernel_rfl) (by kernel_rfl) rfl (by kernel_rfl) (by kernel_rfl) (by kernel_rfl) (fun _ _ _ h => h) (by kernel_rfl) ?_ ?_
    · intro W hW; go_simp; try (by_cases h1 : c2 = 1 <;> simp [h1])
    change wpX _ _ _ _ _ _ _ _ (Act.put _ (some 81) (.slice (some a5) 0 (c2 - 1))) _
    try simp only [Act.put, List.setIfInBounds_toArray, List.set_cons_succ, List.set_cons_zero]
    refine wpX_one 0 (by kernel_rfl) (by kernel_rfl) rfl (by kernel_rfl) (fun W hW KK hKK => ?_)
    go_simp
    have S15 := Lib.hid (E14.out.trans (hW.trans ((Ext.refl W).alloc (.cells #[] 131))))
    refine hKK _ _ ((Ext.refl W).alloc _) ?_
    clear hKK KK
    try simp only [Act.put, List.setIfInBounds_toArray, List.set_cons_succ, List.set_cons_zero]
    obtain ⟨g5, hg5⟩ : ∃ g, W.heap.size = g := ⟨_, rfl⟩
    rw [hg5]
    refine wpX_take (grows_ext) (i := 5) (v := .slice (some ⟨g5, 0, none⟩) 0 0) (by kernel_rfl) (by kernel_rfl) rfl (by kernel_rfl) (by kernel_rfl) (by kernel_rfl) (fun _ _ _ h => h) (by kernel_rfl) ?_ ?_
    · intro W hW; go_simp; try (with_reducible rfl)
    change wpX _ _ _ _ _ _ _ _ (Act.put _ (some 76) (.slice (some ⟨g5, 0, none⟩) 0 0)) _
    try simp only [Act.put, List.setIfInBounds_toArray, List.set_cons_succ, List.set_cons_zero]
    refine wpX_take (grows_ext) (i := 11) (v := .slice (some ⟨g5, 0, none⟩) 0 0) (by kernel_rfl) (by kernel_rfl) rfl (by kernel_rfl) (by kernel_rfl) (by kernel_rfl) (fun _ _ _ h => h) (by kernel_rfl) ?_ ?_
    · intro W hW; go_simp; try (with_reducible rfl)
    change wpX _ _ _ _ _ _ _ _ (Act.put _ (some 82) (.slice (some ⟨g5, 0, none⟩) 0 0)) _
    try simp only [Act.put, List.setIfInBounds_toArray, List.set_cons_succ, List.set_cons_zero]
    refine wpX_take (grows_ext) (i := 12) (v := .pointer (some ⟨w.heap.size, 3, none⟩)) (by kernel_rfl) (by kernel_rfl) rfl (by kernel_rfl) (by kernel_rfl) (by kernel_rfl) (fun _ _ _ h => h) (by kernel_rfl) ?_ ?_
    · intro W hW; go_simp; try (with_reducible rfl)
    change wpX _ _ _ _ _ _ _ _ (Act.put _ (some 83) (.pointer (some ⟨w.heap.size, 3, none⟩))) _
    try simp only [Act.put, List.setIfInBounds_toArray, List.set_cons_succ, List.set_cons_zero]
    refine wpX_out 13 (by kernel_rfl) (by kernel_rfl) rfl (by kernel_rfl) (fun W2 hW2 KK hKK => ?_)
    have X15 := Lib.hid (S15.out.trans hW2)
    have k3 := (HC14.out.ext X15.out).cell (j := 3) rfl
    have f3 := (HC14.out.ext X15.out).frozen (j := 3) (by simp)
    go_simp
    refine hKK _ _ ?_
    clear hKK KK k3 f3 hg5 hW2 hW S15
    try simp only [Act.put, List.setIfInBounds_toArray, List.set_cons_succ, List.set_cons_zero]
    refine ⟨by kernel_rfl, ?_⟩
    have HM16 := Lib.hid ((HC14.out.ext X15.out).set 3 (.slice (some ⟨g5, 0, none⟩) 0 0) (by simp))
    have hmm := Mod.setCell (Mod.refl (fun x => x = w.heap.size) W2) (p := ⟨w.heap.size, 3, none⟩) (.inl rfl) (.slice (some ⟨g5, 0, none⟩) 0 0)
    have HO16 := Lib.hid (hmm.rowB (HO12.out.ext (HX14.out.trans X15.out)) (by omega))
    have HMD16 : Hid (Mod (fun b => b = q ∨ r = some b) w (W2.setCell ⟨w.heap.size, 3, none⟩ (.slice (some ⟨g5, 0, none⟩) 0 0))) := Lib.hid ((HM12.out.trans (Mod.of_ext _ (HX14.out.trans X15.out))).then hmm (fun i hi => .inr (by rw [hi]; exact Nat.le_refl _)))
    obtain ⟨w16, hw16⟩ : ∃ x, x = W2.setCell ⟨w.heap.size, 3, none⟩ (.slice (some ⟨g5, 0, none⟩) 0 0) := ⟨_, rfl⟩
    rw [← hw16] at HM16 HO16 HMD16
    rw [← hw16]
    clear hw16 hmm ha5 hzA hi1
    have HM16' : Hid (RowB w16 w.heap.size 65 [.pointer (some ⟨q, 0, none⟩), .pointer (some ⟨kb, 0, none⟩), .pointer none, .slice (some ⟨g5, 0, none⟩) 0 0]) := HM16
    clear HM16
    have cc0 := (HM16'.out).cell (j := 0) rfl
    have cc1 := (HM16'.out).cell (j := 1) rfl
    have cc2 := (HM16'.out).cell (j := 2) rfl
    have cc3 := (HM16'.out).cell (j := 3) rfl
    go_upto_region 18 with (go_at_call 67; refine (HMF.out _ _).mono ?_; rintro e w17 ⟨rfl, hx17⟩)
    clear cc0 cc1 cc2 cc3
    obtain ⟨w18, hw18⟩ : ∃ x, x = w17.alloc (.cells #[.string ⟨#[]⟩, .slice none 0 0, .string ⟨#[]⟩, .int .i64 0, .int .i64 0, .string ⟨#[]⟩, .int .i64 0, .slice none 0 0, .slice none 0 0] 131) := ⟨_, rfl⟩
    have X18 : Ext w16 w18 := by rw [hw18]; exact hx17.alloc _
    rw [← hw18]
    have HM18 := Lib.hid (HM16'.out.ext X18)
    have HO18 := Lib.hid (HO16.out.ext X18)
    have HMD18 := Lib.hid (HMD16.out.trans (Mod.of_ext _ X18))
    clear hw18 X18 hx17
    have cc0 := (HM18.out).cell (j := 0) rfl
    have cc1 := (HM18.out).cell (j := 1) rfl
    have cc2 := (HM18.out).cell (j := 2) rfl
    have cc3 := (HM18.out).cell (j := 3) rfl
    have XK := (Ext.refl w18).alloc (.cells #[.string key] 9)
    have hk18 := (row_laid w18 9 [.string key]).cell (j := 0) rfl
    go_wp2_with (at_builtin; refine wpList_append_str1 _ rfl (.tmp 128) (.tmp 130) rfl rfl w18.heap.size 1 rfl key hk18 ?_; intro g9 c9 w19 hx19 hge19 hc19)
    all_goals
      have X19 := XK.trans hx19
      have HM19 := Lib.hid (HM18.out.ext X19)
      have HO19 := Lib.hid (HO18.out.ext X19)
      have HMD19 := Lib.hid (HMD18.out.trans (Mod.of_ext _ X19))
      have HC19 := Lib.hid hc19
      have HG19 := Lib.hid (show w.heap.size ≤ g9 from Nat.le_trans HMD18.out.size (Nat.le_trans XK.size hge19))
      have HNE9 := Lib.hid (show g9 ≠ w.heap.size + 1 + 1 by have h1 := HO18.out.lt; have h2 := XK.size; omega)
      clear hx19 hge19 hc19 X19 XK hk18
      clear cc0 cc1 cc2 cc3
      have cc0 := (HM19.out).cell (j := 0) rfl
      have cc1 := (HM19.out).cell (j := 1) rfl
      have cc2 := (HM19.out).cell (j := 2) rfl
      have cc3 := (HM19.out).cell (j := 3) rfl
      have y0 := (HO19.out).cell (j := 0) rfl
      have y1 := (HO19.out).cell (j := 1) rfl
      have y2 := (HO19.out).cell (j := 2) rfl
      have y3 := (HO19.out).cell (j := 3) rfl
      have z0 := (HO19.out).frozen (j := 0) (by simp)
      have z1 := (HO19.out).frozen (j := 1) (by simp)
      have z2 := (HO19.out).frozen (j := 2) (by simp)
      have z3 := (HO19.out).frozen (j := 3) (by simp)
      rw [rounds_succ]
      go_wp2_with fail
      have HOL := HO19
      have HML := HMD19
      obtain ⟨hr7, hm7⟩ := row_set4 HOL.out (.pointer (some ⟨q, 0, none⟩)) (.pointer (some ⟨kb, 0, none⟩)) (.pointer none) (.slice (some ⟨g5, 0, none⟩) 0 0)
      have HX7 := Lib.hid (HML.out.then hm7 (fun i hi => .inr (by omega)))
      have HK7 := Lib.hid (hm7.cell HC19.out (fun e => HNE9.out e))
      have r0 := (hr7).cell (j := 0) rfl
      have r1 := (hr7).cell (j := 1) rfl
      have r2 := (hr7).cell (j := 2) rfl
      have r3 := (hr7).cell (j := 3) rfl
      clear hr7
      clear cc0 cc1 cc2 cc3
      clear y0 y1 y2 y3
      clear z0 z1 z2 z3
      generalize ((((w19.setCell ⟨w.heap.size + 1 + 1, 0, none⟩ (.pointer (some ⟨q, 0, none⟩))).setCell ⟨w.heap.size + 1 + 1, 1, none⟩ (.pointer (some ⟨kb, 0, none⟩))).setCell ⟨w.heap.size + 1 + 1, 2, none⟩ (.pointer none)).setCell ⟨w.heap.size + 1 + 1, 3, none⟩ (.slice (some ⟨g5, 0, none⟩) 0 0)) = w7 at *
      refine bodyPost_ret (by simp [results, Tryz.results77, go_sem, r0, r1, r2, r3]; try rfl) rfl ?_
      exact ⟨_, _, _, _, rfl, HX7.out, Lib.hid (.inr ⟨hf, g9, c9, rfl, HK7.out, HG19.out⟩)⟩
  · have HPF := Lib.hid (put_fits HQ6.out (Nat.le_trans hB XW6.out.size) (k := key) (by simp) ((n + 64 : Nat) : Int) (by omega) (by omega) hC)
    refine wpAnyC_one 7 (by kernel_rfl) rfl (by kernel_rfl) (fun KK hKK => ?_)
    go_simp
    refine (HPF.out).mono ?_
    rintro e w12 ⟨rfl, hm12, -⟩
    have hap1 := HQ6.out.apart_row HC6.out.1 (by decide) (by decide)
    have hap2 := HQ6.out.apart_row HC6.out.2 (by decide) (by decide)
    have hap3 := HQ6.out.apart_row (HG11.out.ext X6.out) (by decide) (by decide)
    have hap4 := HQ6.out.apart_row (HO11.out.ext X6.out) (by decide) (by decide)
    have HC12 := Lib.hid (show RowB w12 w.heap.size 65 [.pointer (some ⟨q, 0, none⟩), .pointer (some ⟨kb, 0, none⟩), .pointer none, .slice (some ⟨g2, 0, none⟩) 1 c2] ∧ RowB w12 (w.heap.size + 1) 131 [.string key, .slice A n c, .string tag, .int .i64 len, .int .i64 asof, .string tag, .int .i64 len, .slice (some ⟨d, 0, none⟩) m m, .slice (some ⟨t, 0, none⟩) m m] from ⟨hm12.rowB HC6.out.1 (fun h => h.elim hap1.1 (fun h2 => hap1.2 _ h2 rfl)), hm12.rowB HC6.out.2 (fun h => h.elim hap2.1 (fun h2 => hap2.2 _ h2 rfl))⟩)
    have HG12 := Lib.hid (hm12.rowB (HG11.out.ext X6.out) (fun h => h.elim hap3.1 (fun h2 => hap3.2 _ h2 rfl)))
    have HO12 := Lib.hid (hm12.rowB (HO11.out.ext X6.out) (fun h => h.elim hap4.1 (fun h2 => hap4.2 _ h2 rfl)))
    have HM12 := Lib.hid ((Mod.of_ext _ XW6.out).trans hm12)
    have HNF := Lib.hid hf
    refine hKK _ _ HC12.out ?_
    clear hKK KK hap1 hap2 hap3 hap4 hm12
    try simp only [Act.put, List.setIfInBounds_toArray, List.set_cons_succ, List.set_cons_zero]
    refine wpAnyC_take (i := 8) (v := .int .i64 0) rfl (by kernel_rfl) (by kernel_rfl) (by kernel_rfl) (fun _ _ _ h => h) HC12.out (by kernel_rfl) ?_ ?_
    · intro W hW; go_simp; try (with_reducible rfl)
    change wpAnyC _ _ _ _ _ _ _ (Act.put _ (some 56) (.int .i64 0)) _
    try simp only [Act.put, List.setIfInBounds_toArray, List.set_cons_succ, List.set_cons_zero]
    refine ⟨by kernel_rfl, ?_⟩
    have HOL := HO12
    have HML := HM12
    have cc0 := (HC12.out.1).cell (j := 0) rfl
    have cc1 := (HC12.out.1).cell (j := 1) rfl
    have cc2 := (HC12.out.1).cell (j := 2) rfl
    have cc3 := (HC12.out.1).cell (j := 3) rfl
    have y0 := (HO12.out).cell (j := 0) rfl
    have y1 := (HO12.out).cell (j := 1) rfl
    have y2 := (HO12.out).cell (j := 2) rfl
    have y3 := (HO12.out).cell (j := 3) rfl
    have z0 := (HO12.out).frozen (j := 0) (by simp)
    have z1 := (HO12.out).frozen (j := 1) (by simp)
    have z2 := (HO12.out).frozen (j := 2) (by simp)
    have z3 := (HO12.out).frozen (j := 3) (by simp)
    go_wp2_with fail
    refine wp_loop_rounds 1 ?_
    rw [rounds_succ]
    go_wp2_with fail
    obtain ⟨hr7, hm7⟩ := row_set4 HOL.out (.pointer (some ⟨q, 0, none⟩)) (.pointer (some ⟨kb, 0, none⟩)) (.pointer none) (.slice (some ⟨g2, 0, none⟩) 1 c2)
    have HX7 := Lib.hid (HML.out.then hm7 (fun i hi => .inr (by omega)))
    have r0 := (hr7).cell (j := 0) rfl
    have r1 := (hr7).cell (j := 1) rfl
    have r2 := (hr7).cell (j := 2) rfl
    have r3 := (hr7).cell (j := 3) rfl
    clear hr7
    clear cc0 cc1 cc2 cc3
    clear y0 y1 y2 y3
    clear z0 z1 z2 z3
    generalize ((((w12.setCell ⟨w.heap.size + 1 + 1, 0, none⟩ (.pointer (some ⟨q, 0, none⟩))).setCell ⟨w.heap.size + 1 + 1, 1, none⟩ (.pointer (some ⟨kb, 0, none⟩))).setCell ⟨w.heap.size + 1 + 1, 2, none⟩ (.pointer none)).setCell ⟨w.heap.size + 1 + 1, 3, none⟩ (.slice (some ⟨g2, 0, none⟩) 1 c2)) = w7 at *
    refine bodyPost_ret (by simp [results, Tryz.results77, go_sem, r0, r1, r2, r3]; try rfl) rfl ?_
    exact ⟨_, _, _, _, rfl, HX7.out, Lib.hid (.inl ⟨by have := HNF.out; omega, rfl⟩)⟩
end Go.Proofs.YtfgjbbpkkbohhaaGreat
