/- Chapter 24 without a device: a Put that keeps the body. -/
import Derived.Test.YtfgjbbpkkbohhaaGreatSfT
import Derived.Deep.DeepCutAuto
namespace Go.Proofs.YtfgjbbpkkbohhaaGreat
open Go.RowKit Go.Deep
theorem HeldIs.ext {w w' : World} {b : Nat} {xs : List (Nat × Nat)} (h : HeldIs w b xs) (hx : Ext w w') : HeldIs w' b xs := fun W hW => h W (hx.trans hW)
set_option maxRecDepth 100000 in
/-- a Put at the same key with the same tag and length: the body stays -/
theorem put_keep {w : World} {B s mp q k d : Nat} {r : Option Nat} {C : Int} {key tag mt0 : ByteArray} {z0 : Int} {it0 n0 c00 b lb Bb : Nat} {A0 : Option Addr} {len : Nat} {asof0 : Int} {D : Nat → Option ByteArray} (h : OneAt w B s mp q k d r C key z0 it0 A0 n0 c00 mt0 tag len asof0 b lb Bb D) (ht : tag ≠ ⟨#[]⟩) (hB : B ≤ w.heap.size) (hk : 1 ≤ key.size ∧ key.size ≤ 2048) {A : Option Addr} {n c : Nat} {mt : ByteArray} (hn : n ≤ 8192) (hl : len ≤ 65536) {asof : Int} (ha : 0 ≤ asof ∧ asof ≤ 1099511627776)
    (hcl : ∀ W, Ext w W → Calls Tryz.prog 49 #[.slice A n c] W fun e w' => (∃ A' c', e = .returned (.slice A' n c') ∧ Hid (MV w' (.slice A' n c') mt)) ∧ Ext W w') {xs : List (Nat × Nat)} (hh : HeldIs w b xs) (hxs : ∀ x ∈ xs, x.1 ≤ x.2 ∧ x.2 ≤ 65536) (hxl : xs.length ≤ 300) (hsx : sumR xs ≤ 65536) (hf : ((n + 64 + sumR xs : Nat) : Int) ≤ C) (hC : C ≤ 1099511627776) :
    Calls Tryz.prog 11 #[.pointer (some ⟨s, 0, none⟩), .agg #[.string key, .slice A n c, .string tag, .int .i64 len, .int .i64 asof]] w fun e w' => e = .returned (.tuple #[.slice none 0 0, .nilIface]) ∧ Mod (fun x => x = mp ∨ x = q ∨ r = some x) w w' ∧
      Hid (∃ r' it A' c', OneAt w' B s mp q k d r' C key ((n + 64 + sumR xs : Nat) : Int) it A' n c' mt tag len asof b lb Bb D ∧ w.heap.size ≤ it ∧ (r' = r ∨ ∃ g, r' = some g ∧ w.heap.size ≤ g)) := by
  have HS := Lib.hid h.sh
  have HI0 := Lib.hid h.item
  have HBD := Lib.hid h.body
  have HBS := Lib.hid hB
  have HCL := Lib.hid hcl
  have HH := Lib.hid hh
  have HXL := Lib.hid hxs
  have HR := Lib.hid (fun W => right_ok key tag A n c len asof hk hn (by omega) ha W)
  have HK := Lib.hid hk
  have hap := happ_nil
  have hT1 : (!tag.toList.isEmpty) = true := by
    cases he : tag.toList with
    | nil => exact absurd (bs_ext24 (a := tag) (b := ⟨#[]⟩) (by rw [he, ByteArray.toList_eq])) ht
    | cons x y => rfl
  have hT2 : (tag.toList == tag.toList) = true := by simp
  have hT3 : ((len : Int) == (len : Int)) = true := by simp
  clear h hB hcl hk ha ht hh hxs
  go_enter Tryz.func11, Tryz.ntmps11
  go_upto_region 3 with fail
  obtain ⟨wa, hwa⟩ : ∃ x, x = w.alloc (.cells #[.string key, .slice A n c, .string tag, .int .i64 len, .int .i64 asof] 38) := ⟨_, rfl⟩
  obtain ⟨o, ho⟩ : ∃ o, w.heap.size = o := ⟨_, rfl⟩
  have HXA : Hid (Ext w wa) := Lib.hid (by rw [hwa]; exact (Ext.refl w).alloc _)
  have HOB : Hid (RowB wa o 38 [.string key, .slice A n c, .string tag, .int .i64 len, .int .i64 asof]) := Lib.hid (by rw [hwa, ← ho]; exact row_laid w 38 [.string key, .slice A n c, .string tag, .int .i64 len, .int .i64 asof])
  have HO := Lib.hid ho
  rw [← hwa, ho]
  clear hwa ho
  have c0 := HOB.out.cell (j := 0) rfl
  have c1 := HOB.out.cell (j := 1) rfl
  have c2 := HOB.out.cell (j := 2) rfl
  have c3 := HOB.out.cell (j := 3) rfl
  have c4 := HOB.out.cell (j := 4) rfl
  go_upto_region 4 with (go_at_call 45; refine (HR.out _).mono ?_; rintro e w1 ⟨rfl, hx1⟩)
  have HX1 := Lib.hid (HXA.out.trans hx1)
  have HOB1 := Lib.hid (HOB.out.ext hx1)
  have HS1 := Lib.hid (HS.out.ext HX1.out)
  have HF := Lib.hid (find_yes HS1.out key (by have := HK.out.2; unfold maxLen; omega) (it := it0) (by simp [mget]))
  have d0 := HOB1.out.cell (j := 0) rfl
  clear hx1 c0 c1 c2 c3 c4
  go_upto_region 8 with (go_at_call 46; refine HF.out.mono ?_; rintro e w2 ⟨rfl, rfl⟩)
  clear d0
  have q2 := fun q => ((Ext.refl w1).drewN q).cell (HOB1.out.cell (j := 2) rfl)
  have q3 := fun q => ((Ext.refl w1).drewN q).cell (HOB1.out.cell (j := 3) rfl)
  have i2 := fun q => (HX1.out.drewN q).cell (HI0.out.cell (j := 2) rfl)
  have i3 := fun q => (HX1.out.drewN q).cell (HI0.out.cell (j := 3) rfl)
  refine wp_region_quiet_lit (by kernel_rfl) (by kernel_rfl) ?_
  repeat (go_big_quiet_step (fail))
  refine wpQuiet_nil ?_
  rintro _ ⟨nq, rfl⟩
  obtain ⟨w2, hw2⟩ : ∃ x, x = w1.drewN nq := ⟨_, rfl⟩
  have X12 : Ext w1 w2 := by rw [hw2]; exact (Ext.refl w1).drewN nq
  have HX2 := Lib.hid (HX1.out.trans X12)
  have HOB2 := Lib.hid (HOB1.out.ext X12)
  rw [← hw2]
  clear hw2 X12 q2 q3 i2 i3 hT1 hT2 hT3
  go_upto_region 9 with fail
  have HL := Lib.hid (fun q => (HS.out.m.ext (HX2.out.drewN q)).look Tryz.underlying97 Tryz.underlying9 key (by have := HK.out.2; unfold maxLen; omega) (zero_ptr _) false)
  rw [show mget [(key, Value.pointer (some ⟨it0, 0, none⟩))] key = some (.pointer (some ⟨it0, 0, none⟩)) by simp [mget]] at HL
  have hl9 := fun q => HL.out q
  simp only [Bool.false_eq_true, if_false] at hl9
  have q0 := fun q => ((Ext.refl w2).drewN q).cell (HOB2.out.cell (j := 0) rfl)
  have s1 := fun q => (HX2.out.drewN q).cell (HS.out.row.cell (j := 1) rfl)
  refine wp_region_quiet_lit (by kernel_rfl) (by kernel_rfl) ?_
  repeat (go_big_quiet_step (fail))
  refine wpQuiet_nil ?_
  rintro _ ⟨nq2, rfl⟩
  obtain ⟨w3, hw3⟩ : ∃ x, x = w2.drewN nq2 := ⟨_, rfl⟩
  have X23 : Ext w2 w3 := by rw [hw3]; exact (Ext.refl w2).drewN nq2
  have HX3' := Lib.hid (HX2.out.trans X23)
  have HOB3' := Lib.hid (HOB2.out.ext X23)
  rw [← hw3]
  clear hw3 X23 q0 s1 hl9 HL
  go_upto_region 11 with fail
  have HN1 := Lib.hid ((Ext.refl w3).drew)
  refine wp_region_C (C := fun W => Ext w3 W) (by kernel_rfl) ?_
  refine wpAnyC_take (i := 0) (v := .agg #[.string key, .slice A n c, .string tag, .int .i64 len, .int .i64 asof]) rfl (by kernel_rfl) (by kernel_rfl) (by kernel_rfl) (fun _ _ _ h => h) HN1.out (by kernel_rfl) ?_ ?_
  · intro W hW; have d0 := (HOB3'.out.ext hW).cell (j := 0) rfl; have d1 := (HOB3'.out.ext hW).cell (j := 1) rfl; have d2 := (HOB3'.out.ext hW).cell (j := 2) rfl; have d3 := (HOB3'.out.ext hW).cell (j := 3) rfl; have d4 := (HOB3'.out.ext hW).cell (j := 4) rfl; go_simp; try (with_reducible rfl)
  change wpAnyC _ _ _ _ _ _ _ (Act.put _ (some 61) (.agg #[.string key, .slice A n c, .string tag, .int .i64 len, .int .i64 asof])) _
  try simp only [Act.put, List.setIfInBounds_toArray, List.set_cons_succ, List.set_cons_zero]
  refine wpAnyC_take (i := 1) (v := .pointer (some ⟨it0, 0, none⟩)) rfl (by kernel_rfl) (by kernel_rfl) (by kernel_rfl) (fun _ _ _ h => h) HN1.out (by kernel_rfl) ?_ ?_
  · intro W hW; go_simp; try (with_reducible rfl)
  change wpAnyC _ _ _ _ _ _ _ (Act.put _ (some 62) (.pointer (some ⟨it0, 0, none⟩))) _
  try simp only [Act.put, List.setIfInBounds_toArray, List.set_cons_succ, List.set_cons_zero]
  refine wpAnyC_take (i := 2) (v := .pointer (some ⟨it0, 0, none⟩)) rfl (by kernel_rfl) (by kernel_rfl) (by kernel_rfl) (fun _ _ _ h => h) HN1.out (by kernel_rfl) ?_ ?_
  · intro W hW; go_simp; try (with_reducible rfl)
  change wpAnyC _ _ _ _ _ _ _ (Act.put _ (some 63) (.pointer (some ⟨it0, 0, none⟩))) _
  try simp only [Act.put, List.setIfInBounds_toArray, List.set_cons_succ, List.set_cons_zero]
  refine wpAnyC_take (i := 3) (v := .pointer (some ⟨it0, 5, none⟩)) rfl (by kernel_rfl) (by kernel_rfl) (by kernel_rfl) (fun _ _ _ h => h) HN1.out (by kernel_rfl) ?_ ?_
  · intro W hW; go_simp; try (with_reducible rfl)
  change wpAnyC _ _ _ _ _ _ _ (Act.put _ (some 64) (.pointer (some ⟨it0, 5, none⟩))) _
  try simp only [Act.put, List.setIfInBounds_toArray, List.set_cons_succ, List.set_cons_zero]
  refine wpAnyC_take (i := 4) (v := .pointer (some ⟨b, 0, none⟩)) rfl (by kernel_rfl) (by kernel_rfl) (by kernel_rfl) (fun _ _ _ h => h) HN1.out (by kernel_rfl) ?_ ?_
  · intro W hW; have i5 := (HX3'.out.trans hW).cell (HI0.out.cell (j := 5) rfl); go_simp; try (with_reducible rfl)
  change wpAnyC _ _ _ _ _ _ _ (Act.put _ (some 65) (.pointer (some ⟨b, 0, none⟩))) _
  try simp only [Act.put, List.setIfInBounds_toArray, List.set_cons_succ, List.set_cons_zero]
  refine wpAnyC_take (i := 5) (v := .agg #[.string key, .slice A n c, .string tag, .int .i64 len, .int .i64 asof, .pointer (some ⟨b, 0, none⟩)]) rfl (by kernel_rfl) (by kernel_rfl) (by kernel_rfl) (fun _ _ _ h => h) HN1.out (by kernel_rfl) ?_ ?_
  · intro W hW; go_simp; try (with_reducible rfl)
  change wpAnyC _ _ _ _ _ _ _ (Act.put _ (some 66) (.agg #[.string key, .slice A n c, .string tag, .int .i64 len, .int .i64 asof, .pointer (some ⟨b, 0, none⟩)])) _
  try simp only [Act.put, List.setIfInBounds_toArray, List.set_cons_succ, List.set_cons_zero]
  refine wpAnyC_one 6 (by kernel_rfl) rfl (by kernel_rfl) (fun KK hKK => ?_)
  go_simp
  obtain ⟨w4, hw4⟩ : ∃ x, x = (w3.alloc (.cells #[.string key, .slice A n c, .string tag, .int .i64 len, .int .i64 asof, .pointer (some ⟨b, 0, none⟩)] 106)).drew := ⟨_, rfl⟩
  obtain ⟨it, hit⟩ : ∃ z, w3.heap.size = z := ⟨_, rfl⟩
  have X34 : Ext w3 w4 := by rw [hw4]; exact ((Ext.refl w3).alloc _).drew
  have HI4 : Hid (RowB w4 it 106 [.string key, .slice A n c, .string tag, .int .i64 len, .int .i64 asof, .pointer (some ⟨b, 0, none⟩)]) := Lib.hid (by rw [hw4, ← hit]; exact (row_laid w3 106 [.string key, .slice A n c, .string tag, .int .i64 len, .int .i64 asof, .pointer (some ⟨b, 0, none⟩)]).ext (Ext.refl _).drew)
  try rw [← hw4]
  try rw [hit]
  have HX34 := Lib.hid X34
  refine hKK _ _ X34 ?_
  clear hKK KK
  try simp only [Act.put, List.setIfInBounds_toArray, List.set_cons_succ, List.set_cons_zero]
  refine wpAnyC_take (i := 7) (v := .pointer (some ⟨it, 0, none⟩)) rfl (by kernel_rfl) (by kernel_rfl) (by kernel_rfl) (fun _ _ _ h => h) HX34.out (by kernel_rfl) ?_ ?_
  · intro W hW; go_simp; try (with_reducible rfl)
  change wpAnyC _ _ _ _ _ _ _ (Act.put _ (some 8) (.pointer (some ⟨it, 0, none⟩))) _
  try simp only [Act.put, List.setIfInBounds_toArray, List.set_cons_succ, List.set_cons_zero]
  refine ⟨by kernel_rfl, ?_⟩
  have HX3 := HX3'
  have HOB3 := HOB3'
  have HX4 := Lib.hid (HX3.out.trans X34)
  have HB3' := Lib.hid ((HBD.out.avoid (fun x => (x = it0 ∨ r = some x ∨ x = s ∨ x = mp ∨ x = q ∨ x = k ∨ x = d) ∨ w.heap.size ≤ x) (fun x hx => hx.elim (fun h => .inr (.inr h)) .inl)).ext HX3.out)
  have HOB4 := Lib.hid (HOB3.out.ext X34)
  have HIT := Lib.hid hit
  have e1 := HOB4.out.cell (j := 1) rfl
  clear X34 hw4 hit
  go_upto_region 17 with (go_at_call 49; refine (HCL.out _ HX4.out).mono ?_; rintro e w5 ⟨⟨A5, c5, rfl, hmv5⟩, hx5⟩; have z1 := hx5.cell (HI4.out.cell (j := 1) rfl); have f1 := (hx5.frozen (HI4.out.cell (j := 1) rfl)).trans (HI4.out.frozen (j := 1) (by simp)))
  have HX35 := Lib.hid (HX34.out.trans hx5)
  have HM5 : Hid (Mod (fun x => x = it) w5 (w5.setCell ⟨it, 1, none⟩ (.slice A5 n c5))) := Lib.hid (Mod.setCell (Mod.refl (fun x => x = it) w5) (p := ⟨it, 1, none⟩) (.inl rfl) _)
  have HI6 : Hid (ItemAt (w5.setCell ⟨it, 1, none⟩ (.slice A5 n c5)) it key A5 n c5 tag len asof b) := Lib.hid ((HI4.out.ext hx5).set 1 _ (by simp))
  have HMV6 := Lib.hid (hmv5.out.mod HM5.out (fun g hr e => (hr.apart (HI4.out.ext hx5) (by decide)) e))
  obtain ⟨w6, hw6⟩ : ∃ x, x = w5.setCell ⟨it, 1, none⟩ (.slice A5 n c5) := ⟨_, rfl⟩
  rw [← hw6] at HI6 HM5 HMV6
  rw [← hw6]
  have HX6 : Hid (Ext w w6) := Lib.hid (((Mod.of_ext _ (HX3.out.trans HX35.out)).then HM5.out (fun i hi => .inr (by
    subst hi
    rw [← HIT.out]
    exact HX3.out.size))).ext (F := fun _ => False) (fun _ h => h.elim))
  have HS6 := Lib.hid (HS.out.ext HX6.out)
  have HB6 := Lib.hid ((HB3'.out.ext HX35.out).mod HM5.out (fun x hx => .inl (.inr (by rw [show x = it from hx, ← HIT.out]; exact HX3.out.size))))
  have HOB6 := Lib.hid (HM5.out.rowB (HOB3.out.ext HX35.out) (fun e => by
    have := HOB3.out.lt
    rw [HIT.out] at this
    omega))
  have HER := Lib.hid (erase_nil HS6.out key)
  have g0 := HOB6.out.cell (j := 0) rfl
  clear hw6 z1 f1 e1 hx5 hmv5
  go_upto_region 18 with (go_at_call 50; refine HER.out.mono ?_; rintro e w7 ⟨rfl, rfl⟩)
  have HST := Lib.hid (store_fits HS6.out (Nat.le_trans HBS.out HX6.out.size) HI6.out (HH.out.ext HX6.out) HXL.out hxl (by have := HK.out.2; unfold maxLen; omega) hn (by rintro p hp; cases hp; rfl) hf hsx hC)
  rw [show mput [(key, Value.pointer (some ⟨it0, 0, none⟩))] key (.pointer (some ⟨it, 0, none⟩)) = [(key, .pointer (some ⟨it, 0, none⟩))] by simp [mput]] at HST
  clear g0
  go_wp2_with (go_at_call 47; refine HST.out.mono ?_; rintro e w8 ⟨rfl, hm8, hq8⟩)
  go_ret2
  refine ⟨rfl, (Mod.of_ext _ HX6.out).trans hm8, Lib.hid ?_⟩
  obtain ⟨r', h1, h2⟩ := hq8.out
  have hi8 : ItemAt w8 it key A5 n c5 tag len asof b := hm8.rowB HI6.out (fun h => by
    have hq := HS6.out.q.apart_row HI6.out (by decide) (by decide)
    rcases h with h | h | h
    · exact HS6.out.m.apart HI6.out h.symm
    · exact hq.1 h
    · exact hq.2 _ h rfl)
  have hb8 := HB6.out.mod hm8 (fun x hx => .inl (.inl (by
    rcases hx with h | h | h
    · exact .inr (.inr (.inr (.inl h)))
    · exact .inr (.inr (.inr (.inr (.inl h))))
    · exact .inr (.inl h))))
  have hitw : w.heap.size ≤ it := by rw [← HIT.out]; exact HX3.out.size
  refine ⟨r', it, A5, c5, ⟨h1, hi8, ?_, HMV6.out.mod hm8 (fun g hr => sh_apart HS6.out hr (by decide) (by decide))⟩, hitw, h2.imp id (fun ⟨g, e, hg⟩ => ⟨g, e, Nat.le_trans HX6.out.size hg⟩)⟩
  refine hb8.avoid _ (fun x hx => .inr (.inr ?_))
  rcases hx with h | h | h
  · exact .inr (by rw [h]; exact hitw)
  · rcases h2 with e | ⟨g, e, hg⟩
    · exact .inl (.inr (.inl (e ▸ h)))
    · refine .inr ?_
      rw [e] at h
      cases h
      exact Nat.le_trans HX6.out.size hg
  · exact .inl (.inr (.inr h))
end Go.Proofs.YtfgjbbpkkbohhaaGreat
