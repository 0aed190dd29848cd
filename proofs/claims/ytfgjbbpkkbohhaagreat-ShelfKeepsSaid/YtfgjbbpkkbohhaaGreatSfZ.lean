/- Chapter 24: the law ShelfKeeps. -/
import Derived.Test.YtfgjbbpkkbohhaaGreatSfY
import Derived.Test.YtfgjbbpkkbohhaaGreatSoft
namespace Go.Proofs.YtfgjbbpkkbohhaaGreat
open Go.RowKit Go.Deep Go.Sort
theorem tagF_inj {a b : Nat} (h : tagF a = tagF b) : a % 3 = b % 3 := by
  rcases (by omega : a % 3 = 0 ∨ a % 3 = 1 ∨ a % 3 = 2) with h0 | h0 | h0 <;> rcases (by omega : b % 3 = 0 ∨ b % 3 = 1 ∨ b % 3 = 2) with h1 | h1 | h1 <;> simp [tagF, h0, h1] at h ⊢
/-- both ways of a Put at the same key -/
theorem put_both {W : World} {B s mp q kb d z0 it c b lb Bb : Nat} {r : Option Nat} {key tag0 tag1 p : ByteArray} {A : Option Addr} {len0 len1 : Nat} {a0 a1 : Int} {g : Nat}
    (h : OneAt W B s mp q kb d r 1048576 key z0 it A 0 c ⟨#[]⟩ tag0 len0 a0 b lb Bb (upd (fun _ => none) 1 (some p))) (hB : B ≤ W.heap.size) (hk : 1 ≤ key.size ∧ key.size ≤ 2048) (hll : tag0 = tag1 → len0 = len1) (hi : 1 < npc len0) (hz : p.size = pto 1 len0 - 1 * 256) (hl : len0 ≤ 910) (hl1 : len1 ≤ 910)
    (hm : RowB W g 5 [.int .u8 109]) (ha : 0 ≤ a1 ∧ a1 ≤ 1099511627776) :
    Calls Tryz.prog 11 #[.pointer (some ⟨s, 0, none⟩), .agg #[.string key, .slice (some ⟨g, 0, none⟩) 1 1, .string tag1, .int .i64 len1, .int .i64 a1]] W fun e w' => e = .returned (.tuple #[.slice none 0 0, .nilIface]) ∧ Mod (fun x => x = mp ∨ x = q ∨ r = some x) W w' ∧
      Hid (∃ z r' it A' c' b lb Bb D', OneAt w' B s mp q kb d r' 1048576 key z it A' 1 c' ⟨#[109]⟩ tag1 len1 a1 b lb Bb D' ∧ gaps D' (pcs 256 257) = if tag1 ≠ ⟨#[]⟩ ∧ tag0 = tag1 then [] else [1]) := by
  have hcl : ∀ W', Ext W W' → Calls Tryz.prog 49 #[.slice (some ⟨g, 0, none⟩) 1 1] W' fun e w' => (∃ A' c', e = .returned (.slice A' 1 c') ∧ Hid (MV w' (.slice A' 1 c') ⟨#[109]⟩)) ∧ Ext W' w' :=
    fun W' hW' => clone_mv (n := 1) (.inr ⟨g, 1, rfl, hm.ext hW'⟩) (by omega)
  have hpt : 1 * 256 ≤ pto 1 len0 ∧ pto 1 len0 ≤ 512 := by
    have h3 : pto 1 len0 = min 512 len0 := rfl
    unfold npc at hi
    omega
  by_cases hkeep : tag1 ≠ ⟨#[]⟩ ∧ tag0 = tag1
  · rw [if_pos hkeep]
    obtain ⟨h1, rfl⟩ := hkeep
    obtain rfl := hll rfl
    refine (put_keep h h1 hB hk (n := 1) (c := 1) (mt := ⟨#[109]⟩) (by omega) (by omega) ha hcl (held_one h.body hi hz (by omega)) (by simp; omega) (by simp) (by simp [sumR]; omega) (by simp [sumR]; omega) (by omega)).mono ?_
    rintro e w' ⟨h2, h3, h4⟩
    obtain ⟨r', it', A', c', h5, -, -⟩ := h4.out
    exact ⟨h2, h3, Lib.hid ⟨_, r', it', A', c', b, lb, Bb, _, h5, rfl⟩⟩
  · rw [if_neg hkeep]
    refine (put_new h.sh h.item (tag := tag1) (by
      by_cases e : tag1 = ⟨#[]⟩
      · exact .inl e
      · exact .inr fun e2 => hkeep ⟨e, e2⟩) hB hk (n := 1) (c := 1) (mt := ⟨#[109]⟩) (by omega) (len := len1) (by omega) ha hcl (by omega) (by omega)).mono ?_
    rintro e w' ⟨h2, h3, h4⟩
    obtain ⟨r', it', A', c', b', lb', Bb', h5, -, -, -⟩ := h4.out
    exact ⟨h2, h3, Lib.hid ⟨_, r', it', A', c', b', lb', Bb', _, h5, rfl⟩⟩
set_option maxRecDepth 100000 in
set_option maxHeartbeats 4000000 in
theorem keeps_law (k t0 t1 a0 a1 : Nat) (h0 : t0 < 256) (h1 : t1 < 256) (b0 : a0 < 65536) (b1 : a1 < 65536) (w : World) :
    Calls Tryz.prog 3 #[.int .u8 k, .agg #[.int .u8 t0, .int .u8 t1], .agg #[.int .u16 a0, .int .u16 a1]] w fun e w' => e = .returned (.bool true) ∧ Ext w w' := by
  obtain ⟨kk, hkk⟩ : ∃ kk : Nat, kk = 2 + k % 4 := ⟨_, rfl⟩
  have e1 : (2 : Int) + (k : Int) % 4 = (kk : Int) := by omega
  have HKK := Lib.hid (show kk < 256 ∧ 2 ≤ kk ∧ kk ≤ 5 by omega)
  have hmod0 : 0 ≤ (k : Int) % 4 := by omega
  have hmod1 : (k : Int) % 4 ≤ 3 := by omega
  have H0 := Lib.hid h0
  have H1 := Lib.hid h1
  have HB0 := Lib.hid b0
  have HB1 := Lib.hid b1
  have HAW := Lib.hid awake24
  have HN := Lib.hid (fun W => new_ok24 1048576 (by omega) (by omega) W)
  clear hkk h0 h1
  go_enter Tryz.func3, Tryz.ntmps3
  go_upto_region 1 with fail
  obtain ⟨wa, hwa⟩ : ∃ x, x = (w.alloc (.cells #[.int .u8 t0, .int .u8 t1] 22)).alloc (.cells #[.int .u16 a0, .int .u16 a1] 24) := ⟨_, rfl⟩
  have HXA : Hid (Ext w wa) := Lib.hid (by rw [hwa]; exact ((Ext.refl w).alloc _).alloc _)
  have HTA : Hid (RowB wa w.heap.size 22 [.int .u8 t0, .int .u8 t1]) := Lib.hid (by rw [hwa]; exact (row_laid w _ _).ext ((Ext.refl _).alloc _))
  have HAA : Hid (RowB wa (w.heap.size + 1) 24 [.int .u16 a0, .int .u16 a1]) := Lib.hid (by rw [hwa]; have := row_laid (w.alloc (.cells #[.int .u8 t0, .int .u8 t1] 22)) 24 [.int .u16 a0, .int .u16 a1]; simpa using this)
  rw [← hwa]
  clear hwa
  go_upto_region 4 with (first
    | (go_at_call 9; refine (HAW.out _).mono ?_; rintro e w0 ⟨rfl, hx0⟩)
    | (go_at_call 10; refine (HN.out _).mono ?_; rintro e w1 ⟨⟨s, mp, q, kb, d, rfl, hk1⟩, hx1⟩))
  obtain ⟨hs1, hge⟩ := hk1.out
  have HS1 := Lib.hid hs1
  have HX1 := Lib.hid (HXA.out.trans (hx0.trans hx1))
  have HZ1 := Lib.hid hx1.size
  have HGE := Lib.hid (show w.heap.size ≤ mp ∧ w.heap.size ≤ q ∧ w.heap.size ≤ kb ∧ w.heap.size ≤ d from by
    have := (HXA.out.trans hx0).size
    omega)
  have HT1 := Lib.hid (HTA.out.ext (hx0.trans hx1))
  have HA1 := Lib.hid (HAA.out.ext (hx0.trans hx1))
  clear hk1 hs1 hge hx0 hx1 HAW HN
  go_upto_region 7 with fail
  have HLN := Lib.hid (len_le kk t0)
  have HP := Lib.hid (fun W (hW : Ext w1.drew W) => put_first (key := keyF kk) (tag := tagF t0) (A := none) (n := 0) (c := 0) (mt := ⟨#[]⟩) (len := lenF kk t0) (asof := a0) (HS1.out.ext ((Ext.refl w1).drew.trans hW)) (Nat.le_trans HZ1.out hW.size) (by rw [keyF_size]; omega) (by omega) (by have := HLN.out; omega) (by have := HB0.out; omega) (fun W _ => clone_mv (.inl ⟨rfl, rfl⟩) (by omega)) (by omega) (by omega))
  refine wp_region_X Ext grows_ext 14 (by kernel_rfl) ?_
  refine wpX_take (grows_ext) (i := 0) (v := .pointer (some ⟨s, 0, none⟩)) (by kernel_rfl) (by kernel_rfl) rfl (by kernel_rfl) (by kernel_rfl) (by kernel_rfl) (fun _ _ _ h => h) (by kernel_rfl) ?_ ?_
  · intro W hW; go_simp; try (with_reducible rfl)
  change wpX _ _ _ _ _ _ _ _ (Act.put _ (some 31) (.pointer (some ⟨s, 0, none⟩))) _
  try simp only [Act.put, List.setIfInBounds_toArray, List.set_cons_succ, List.set_cons_zero]
  refine wpX_take (grows_ext) (i := 1) (v := .int .u8 (kk : Nat)) (by kernel_rfl) (by kernel_rfl) rfl (by kernel_rfl) (by kernel_rfl) (by kernel_rfl) (fun _ _ _ h => h) (by kernel_rfl) ?_ ?_
  · intro W hW; go_simp; try (with_reducible rfl)
  change wpX _ _ _ _ _ _ _ _ (Act.put _ (some 32) (.int .u8 (kk : Nat))) _
  try simp only [Act.put, List.setIfInBounds_toArray, List.set_cons_succ, List.set_cons_zero]
  refine wpX_call (grows_ext) (i := 2) (v := .string (keyF kk)) (by kernel_rfl) (by kernel_rfl) rfl (by kernel_rfl) (by kernel_rfl) (by kernel_rfl) (fun _ _ _ h => h) (by kernel_rfl) _ _ ?_ (fun W hW => key24_any kk HKK.out.1 W) ?_
  · intro W; go_simp; try (with_reducible rfl)
  change wpX _ _ _ _ _ _ _ _ (Act.put _ (some 33) (.string (keyF kk))) _
  try simp only [Act.put, List.setIfInBounds_toArray, List.set_cons_succ, List.set_cons_zero]
  refine wpX_take (grows_ext) (i := 3) (v := .pointer (some ⟨w.heap.size, 0, none⟩)) (by kernel_rfl) (by kernel_rfl) rfl (by kernel_rfl) (by kernel_rfl) (by kernel_rfl) (fun _ _ _ h => h) (by kernel_rfl) ?_ ?_
  · intro W hW; go_simp; try (with_reducible rfl)
  change wpX _ _ _ _ _ _ _ _ (Act.put _ (some 34) (.pointer (some ⟨w.heap.size, 0, none⟩))) _
  try simp only [Act.put, List.setIfInBounds_toArray, List.set_cons_succ, List.set_cons_zero]
  refine wpX_take (grows_ext) (i := 4) (v := .int .u8 (t0 : Nat)) (by kernel_rfl) (by kernel_rfl) rfl (by kernel_rfl) (by kernel_rfl) (by kernel_rfl) (fun _ _ _ h => h) (by kernel_rfl) ?_ ?_
  · intro W hW; have c0 := (HT1.out.ext ((Ext.refl w1).drew.trans hW)).cell (j := 0) rfl; go_simp; try (with_reducible rfl)
  change wpX _ _ _ _ _ _ _ _ (Act.put _ (some 35) (.int .u8 (t0 : Nat))) _
  try simp only [Act.put, List.setIfInBounds_toArray, List.set_cons_succ, List.set_cons_zero]
  refine wpX_call (grows_ext) (i := 5) (v := .string (tagF t0)) (by kernel_rfl) (by kernel_rfl) rfl (by kernel_rfl) (by kernel_rfl) (by kernel_rfl) (fun _ _ _ h => h) (by kernel_rfl) _ _ ?_ (fun W hW => tag24_any t0 H0.out W) ?_
  · intro W; go_simp; try (with_reducible rfl)
  change wpX _ _ _ _ _ _ _ _ (Act.put _ (some 36) (.string (tagF t0))) _
  try simp only [Act.put, List.setIfInBounds_toArray, List.set_cons_succ, List.set_cons_zero]
  refine wpX_take (grows_ext) (i := 6) (v := .int .u8 (kk : Nat)) (by kernel_rfl) (by kernel_rfl) rfl (by kernel_rfl) (by kernel_rfl) (by kernel_rfl) (fun _ _ _ h => h) (by kernel_rfl) ?_ ?_
  · intro W hW; go_simp; try (with_reducible rfl)
  change wpX _ _ _ _ _ _ _ _ (Act.put _ (some 37) (.int .u8 (kk : Nat))) _
  try simp only [Act.put, List.setIfInBounds_toArray, List.set_cons_succ, List.set_cons_zero]
  refine wpX_take (grows_ext) (i := 7) (v := .pointer (some ⟨w.heap.size, 0, none⟩)) (by kernel_rfl) (by kernel_rfl) rfl (by kernel_rfl) (by kernel_rfl) (by kernel_rfl) (fun _ _ _ h => h) (by kernel_rfl) ?_ ?_
  · intro W hW; go_simp; try (with_reducible rfl)
  change wpX _ _ _ _ _ _ _ _ (Act.put _ (some 38) (.pointer (some ⟨w.heap.size, 0, none⟩))) _
  try simp only [Act.put, List.setIfInBounds_toArray, List.set_cons_succ, List.set_cons_zero]
  refine wpX_take (grows_ext) (i := 8) (v := .int .u8 (t0 : Nat)) (by kernel_rfl) (by kernel_rfl) rfl (by kernel_rfl) (by kernel_rfl) (by kernel_rfl) (fun _ _ _ h => h) (by kernel_rfl) ?_ ?_
  · intro W hW; have c0 := (HT1.out.ext ((Ext.refl w1).drew.trans hW)).cell (j := 0) rfl; go_simp; try (with_reducible rfl)
  change wpX _ _ _ _ _ _ _ _ (Act.put _ (some 39) (.int .u8 (t0 : Nat))) _
  try simp only [Act.put, List.setIfInBounds_toArray, List.set_cons_succ, List.set_cons_zero]
  refine wpX_call (grows_ext) (i := 9) (v := .int .i64 (lenF kk t0 : Nat)) (by kernel_rfl) (by kernel_rfl) rfl (by kernel_rfl) (by kernel_rfl) (by kernel_rfl) (fun _ _ _ h => h) (by kernel_rfl) _ _ ?_ (fun W hW => (length24_any kk t0 W).mono (fun _ _ h => ⟨h.1, h.2 ▸ Ext.refl _⟩)) ?_
  · intro W; go_simp; try (with_reducible rfl)
  change wpX _ _ _ _ _ _ _ _ (Act.put _ (some 40) (.int .i64 (lenF kk t0 : Nat))) _
  try simp only [Act.put, List.setIfInBounds_toArray, List.set_cons_succ, List.set_cons_zero]
  refine wpX_take (grows_ext) (i := 10) (v := .pointer (some ⟨w.heap.size + 1, 0, none⟩)) (by kernel_rfl) (by kernel_rfl) rfl (by kernel_rfl) (by kernel_rfl) (by kernel_rfl) (fun _ _ _ h => h) (by kernel_rfl) ?_ ?_
  · intro W hW; go_simp; try (with_reducible rfl)
  change wpX _ _ _ _ _ _ _ _ (Act.put _ (some 41) (.pointer (some ⟨w.heap.size + 1, 0, none⟩))) _
  try simp only [Act.put, List.setIfInBounds_toArray, List.set_cons_succ, List.set_cons_zero]
  refine wpX_take (grows_ext) (i := 11) (v := .int .u16 (a0 : Nat)) (by kernel_rfl) (by kernel_rfl) rfl (by kernel_rfl) (by kernel_rfl) (by kernel_rfl) (fun _ _ _ h => h) (by kernel_rfl) ?_ ?_
  · intro W hW; have c0 := (HA1.out.ext ((Ext.refl w1).drew.trans hW)).cell (j := 0) rfl; go_simp; try (with_reducible rfl)
  change wpX _ _ _ _ _ _ _ _ (Act.put _ (some 42) (.int .u16 (a0 : Nat))) _
  try simp only [Act.put, List.setIfInBounds_toArray, List.set_cons_succ, List.set_cons_zero]
  refine wpX_take (grows_ext) (i := 12) (v := .int .i64 (a0 : Nat)) (by kernel_rfl) (by kernel_rfl) rfl (by kernel_rfl) (by kernel_rfl) (by kernel_rfl) (fun _ _ _ h => h) (by kernel_rfl) ?_ ?_
  · intro W hW; go_simp; try (first | with_reducible rfl | exact IntWalk.i64_in (a0 : Int) (by have := HB0.out; omega))
  change wpX _ _ _ _ _ _ _ _ (Act.put _ (some 43) (.int .i64 (a0 : Nat))) _
  try simp only [Act.put, List.setIfInBounds_toArray, List.set_cons_succ, List.set_cons_zero]
  refine wpX_take (grows_ext) (i := 13) (v := .agg #[.string (keyF kk), .slice none 0 0, .string (tagF t0), .int .i64 (lenF kk t0 : Nat), .int .i64 (a0 : Nat)]) (by kernel_rfl) (by kernel_rfl) rfl (by kernel_rfl) (by kernel_rfl) (by kernel_rfl) (fun _ _ _ h => h) (by kernel_rfl) ?_ ?_
  · intro W hW; go_simp; try (with_reducible rfl)
  change wpX _ _ _ _ _ _ _ _ (Act.put _ (some 44) (.agg #[.string (keyF kk), .slice none 0 0, .string (tagF t0), .int .i64 (lenF kk t0 : Nat), .int .i64 (a0 : Nat)])) _
  try simp only [Act.put, List.setIfInBounds_toArray, List.set_cons_succ, List.set_cons_zero]
  refine wpX_out 14 (by kernel_rfl) (by kernel_rfl) rfl (by kernel_rfl) (fun W hW KK hKK => ?_)
  go_simp
  refine (HP.out W hW).mono ?_
  rintro e w2 ⟨rfl, hm2, hq2⟩
  refine hKK _ _ ?_
  clear hKK KK
  try simp only [Act.put, List.setIfInBounds_toArray, List.set_cons_succ, List.set_cons_zero]
  refine wpAnyC_take (i := 15) (v := .tuple #[.slice none 0 0, .nilIface]) rfl (by kernel_rfl) (by kernel_rfl) (by kernel_rfl) (fun _ _ _ h => h) trivial (by kernel_rfl) ?_ ?_
  · intro W hW; go_simp; try (with_reducible rfl)
  change wpAnyC _ _ _ _ _ _ _ (Act.put _ (some 30) (.tuple #[.slice none 0 0, .nilIface])) _
  try simp only [Act.put, List.setIfInBounds_toArray, List.set_cons_succ, List.set_cons_zero]
  refine wpAnyC_take (i := 16) (v := .slice none 0 0) rfl (by kernel_rfl) (by kernel_rfl) (by kernel_rfl) (fun _ _ _ h => h) trivial (by kernel_rfl) ?_ ?_
  · intro W hW; go_simp; try (with_reducible rfl)
  change wpAnyC _ _ _ _ _ _ _ (Act.put _ (some 46) (.slice none 0 0)) _
  try simp only [Act.put, List.setIfInBounds_toArray, List.set_cons_succ, List.set_cons_zero]
  refine wpAnyC_take (i := 17) (v := .nilIface) rfl (by kernel_rfl) (by kernel_rfl) (by kernel_rfl) (fun _ _ _ h => h) trivial (by kernel_rfl) ?_ ?_
  · intro W hW; go_simp; try (with_reducible rfl)
  change wpAnyC _ _ _ _ _ _ _ (Act.put _ (some 47) (.nilIface)) _
  try simp only [Act.put, List.setIfInBounds_toArray, List.set_cons_succ, List.set_cons_zero]
  refine wpAnyC_take (i := 18) (v := .slice none 0 0) rfl (by kernel_rfl) (by kernel_rfl) (by kernel_rfl) (fun _ _ _ h => h) trivial (by kernel_rfl) ?_ ?_
  · intro W hW; go_simp; try (with_reducible rfl)
  change wpAnyC _ _ _ _ _ _ _ (Act.put _ (some 9) (.slice none 0 0)) _
  try simp only [Act.put, List.setIfInBounds_toArray, List.set_cons_succ, List.set_cons_zero]
  refine wpAnyC_take (i := 19) (v := .nilIface) rfl (by kernel_rfl) (by kernel_rfl) (by kernel_rfl) (fun _ _ _ h => h) trivial (by kernel_rfl) ?_ ?_
  · intro W hW; go_simp; try (with_reducible rfl)
  change wpAnyC _ _ _ _ _ _ _ (Act.put _ (some 10) (.nilIface)) _
  try simp only [Act.put, List.setIfInBounds_toArray, List.set_cons_succ, List.set_cons_zero]
  refine ⟨by kernel_rfl, ?_⟩
  obtain ⟨r2, it2, A2, c2, b2, lb2, Bb2, ho2, hb2, hi2, hr2⟩ := hq2.out
  have HW2 := Lib.hid (HX1.out.trans ((Ext.refl w1).drew.trans hW))
  have HO2 := Lib.hid ho2
  have HX2 : Hid (Ext w w2) := Lib.hid (((Mod.of_ext _ HW2.out).then hm2 (fun i hi => .inr (by
    rcases hi with h | h | h
    · rw [h]; exact HGE.out.1
    · rw [h]; exact HGE.out.2.1
    · cases h))).ext (F := fun _ => False) (fun _ h => h.elim))
  have HLB := Lib.hid (show w.heap.size ≤ lb2 from Nat.le_trans HW2.out.size (Nat.le_trans hb2 ho2.body.hl))
  have HRG := Lib.hid (show ∀ g, r2 = some g → w.heap.size ≤ g from fun g hg => by
    rcases hr2 with h | ⟨g', h, h2⟩
    · rw [h] at hg; cases hg
    · rw [h] at hg; cases hg; exact Nat.le_trans HW2.out.size h2)
  have HT2 := Lib.hid (hm2.rowB (HT1.out.ext ((Ext.refl w1).drew.trans hW)) (sh_apart (HS1.out.ext ((Ext.refl w1).drew.trans hW)) (HT1.out.ext ((Ext.refl w1).drew.trans hW)) (by decide) (by decide)))
  have HA2 := Lib.hid (hm2.rowB (HA1.out.ext ((Ext.refl w1).drew.trans hW)) (sh_apart (HS1.out.ext ((Ext.refl w1).drew.trans hW)) (HA1.out.ext ((Ext.refl w1).drew.trans hW)) (by decide) (by decide)))
  have HZ2 := Lib.hid (show w0.heap.size ≤ w2.heap.size from Nat.le_trans HZ1.out (Nat.le_trans hW.size hm2.size))
  clear hq2 ho2 hb2 hi2 hr2 hm2 HW2 hW HP HT1 HA1 HS1 HX1 HZ1
  go_upto_region 10 with fail
  have HTS := Lib.hid (textF_size kk t0)
  have HNP := Lib.hid (show 1 < npc (lenF kk t0) ∧ (pcS (textF kk t0) 1).size = pto 1 (lenF kk t0) - 1 * 256 ∧ 1 * 256 ≤ pto 1 (lenF kk t0) ∧ pto 1 (lenF kk t0) ≤ 512 by
    have h1 : lenF kk t0 = kk % 6 * 170 + t0 % 3 * 30 := rfl
    have h2 := HKK.out
    have h3 : pto 1 (lenF kk t0) = min 512 (lenF kk t0) := rfl
    have h4 : kk % 6 = kk := Nat.mod_eq_of_lt (by omega)
    have h5 : t0 % 3 ≤ 2 := by omega
    rw [h4] at h1
    refine ⟨by unfold npc; omega, ?_, by omega, by omega⟩
    unfold pcS
    rw [ByteArray.size_extract, textF_size]
    omega)
  have HF := Lib.hid (fun W (hW : Ext w2 W) g cap (hg : BytesAt W g (pcS (textF kk t0) 1)) => fill_one (cap := cap) (HO2.out.ext hW) (Nat.le_trans HZ2.out hW.size) (by rw [keyF_size]; unfold maxLen; omega) (by omega) (by have := HLN.out; omega) (i := 1) HNP.out.1 rfl (g := g) hg HNP.out.2.1 (xs := [(1 * 256, pto 1 (lenF kk t0))]) (fun W A' B' hb => held_one hb HNP.out.1 HNP.out.2.1 (by have := HLN.out; omega)) (by have := HNP.out; simp; omega) (by simp) (by have := HNP.out; simp [sumR]; omega) (by have := HNP.out; simp [sumR]; omega) (by omega))
  have E2 := Lib.hid ((Ext.refl w2).drew)
  refine wp_region_X Ext grows_ext 12 (by kernel_rfl) ?_
  refine wpX_take (grows_ext) (i := 0) (v := .pointer (some ⟨s, 0, none⟩)) (by kernel_rfl) (by kernel_rfl) rfl (by kernel_rfl) (by kernel_rfl) (by kernel_rfl) (fun _ _ _ h => h) (by kernel_rfl) ?_ ?_
  · intro W hW; go_simp; try (with_reducible rfl)
  change wpX _ _ _ _ _ _ _ _ (Act.put _ (some 51) (.pointer (some ⟨s, 0, none⟩))) _
  try simp only [Act.put, List.setIfInBounds_toArray, List.set_cons_succ, List.set_cons_zero]
  refine wpX_take (grows_ext) (i := 1) (v := .int .u8 (kk : Nat)) (by kernel_rfl) (by kernel_rfl) rfl (by kernel_rfl) (by kernel_rfl) (by kernel_rfl) (fun _ _ _ h => h) (by kernel_rfl) ?_ ?_
  · intro W hW; go_simp; try (with_reducible rfl)
  change wpX _ _ _ _ _ _ _ _ (Act.put _ (some 52) (.int .u8 (kk : Nat))) _
  try simp only [Act.put, List.setIfInBounds_toArray, List.set_cons_succ, List.set_cons_zero]
  refine wpX_call (grows_ext) (i := 2) (v := .string (keyF kk)) (by kernel_rfl) (by kernel_rfl) rfl (by kernel_rfl) (by kernel_rfl) (by kernel_rfl) (fun _ _ _ h => h) (by kernel_rfl) _ _ ?_ (fun W hW => key24_any kk HKK.out.1 W) ?_
  · intro W; go_simp; try (with_reducible rfl)
  change wpX _ _ _ _ _ _ _ _ (Act.put _ (some 53) (.string (keyF kk))) _
  try simp only [Act.put, List.setIfInBounds_toArray, List.set_cons_succ, List.set_cons_zero]
  refine wpX_take (grows_ext) (i := 3) (v := .pointer (some ⟨w.heap.size, 0, none⟩)) (by kernel_rfl) (by kernel_rfl) rfl (by kernel_rfl) (by kernel_rfl) (by kernel_rfl) (fun _ _ _ h => h) (by kernel_rfl) ?_ ?_
  · intro W hW; go_simp; try (with_reducible rfl)
  change wpX _ _ _ _ _ _ _ _ (Act.put _ (some 54) (.pointer (some ⟨w.heap.size, 0, none⟩))) _
  try simp only [Act.put, List.setIfInBounds_toArray, List.set_cons_succ, List.set_cons_zero]
  refine wpX_take (grows_ext) (i := 4) (v := .int .u8 (t0 : Nat)) (by kernel_rfl) (by kernel_rfl) rfl (by kernel_rfl) (by kernel_rfl) (by kernel_rfl) (fun _ _ _ h => h) (by kernel_rfl) ?_ ?_
  · intro W hW; have c0 := (HT2.out.ext (E2.out.trans hW)).cell (j := 0) rfl; go_simp; try (with_reducible rfl)
  change wpX _ _ _ _ _ _ _ _ (Act.put _ (some 55) (.int .u8 (t0 : Nat))) _
  try simp only [Act.put, List.setIfInBounds_toArray, List.set_cons_succ, List.set_cons_zero]
  refine wpX_call (grows_ext) (i := 5) (v := .string (tagF t0)) (by kernel_rfl) (by kernel_rfl) rfl (by kernel_rfl) (by kernel_rfl) (by kernel_rfl) (fun _ _ _ h => h) (by kernel_rfl) _ _ ?_ (fun W hW => tag24_any t0 H0.out W) ?_
  · intro W; go_simp; try (with_reducible rfl)
  change wpX _ _ _ _ _ _ _ _ (Act.put _ (some 56) (.string (tagF t0))) _
  try simp only [Act.put, List.setIfInBounds_toArray, List.set_cons_succ, List.set_cons_zero]
  refine wpX_take (grows_ext) (i := 6) (v := .int .u8 (kk : Nat)) (by kernel_rfl) (by kernel_rfl) rfl (by kernel_rfl) (by kernel_rfl) (by kernel_rfl) (fun _ _ _ h => h) (by kernel_rfl) ?_ ?_
  · intro W hW; go_simp; try (with_reducible rfl)
  change wpX _ _ _ _ _ _ _ _ (Act.put _ (some 57) (.int .u8 (kk : Nat))) _
  try simp only [Act.put, List.setIfInBounds_toArray, List.set_cons_succ, List.set_cons_zero]
  refine wpX_take (grows_ext) (i := 7) (v := .pointer (some ⟨w.heap.size, 0, none⟩)) (by kernel_rfl) (by kernel_rfl) rfl (by kernel_rfl) (by kernel_rfl) (by kernel_rfl) (fun _ _ _ h => h) (by kernel_rfl) ?_ ?_
  · intro W hW; go_simp; try (with_reducible rfl)
  change wpX _ _ _ _ _ _ _ _ (Act.put _ (some 58) (.pointer (some ⟨w.heap.size, 0, none⟩))) _
  try simp only [Act.put, List.setIfInBounds_toArray, List.set_cons_succ, List.set_cons_zero]
  refine wpX_take (grows_ext) (i := 8) (v := .int .u8 (t0 : Nat)) (by kernel_rfl) (by kernel_rfl) rfl (by kernel_rfl) (by kernel_rfl) (by kernel_rfl) (fun _ _ _ h => h) (by kernel_rfl) ?_ ?_
  · intro W hW; have c0 := (HT2.out.ext (E2.out.trans hW)).cell (j := 0) rfl; go_simp; try (with_reducible rfl)
  change wpX _ _ _ _ _ _ _ _ (Act.put _ (some 59) (.int .u8 (t0 : Nat))) _
  try simp only [Act.put, List.setIfInBounds_toArray, List.set_cons_succ, List.set_cons_zero]
  refine wpX_call (grows_ext) (i := 9) (v := .string (textF kk t0)) (by kernel_rfl) (by kernel_rfl) rfl (by kernel_rfl) (by kernel_rfl) (by kernel_rfl) (fun _ _ _ h => h) (by kernel_rfl) _ _ ?_ (fun W hW => text24_any kk t0 W) ?_
  · intro W; go_simp; try (with_reducible rfl)
  change wpX _ _ _ _ _ _ _ _ (Act.put _ (some 60) (.string (textF kk t0))) _
  try simp only [Act.put, List.setIfInBounds_toArray, List.set_cons_succ, List.set_cons_zero]
  refine wpX_call (grows_ext) (i := 10) (v := .string (pcS (textF kk t0) 1)) (by kernel_rfl) (by kernel_rfl) rfl (by kernel_rfl) (by kernel_rfl) (by kernel_rfl) (fun _ _ _ h => h) (by kernel_rfl) _ _ ?_ (fun W hW => part24_in (textF kk t0) 1 (by rw [HTS.out]; have := HLN.out; omega) (by rw [HTS.out]; have := HNP.out.1; unfold npc at this; omega) W) ?_
  · intro W; go_simp; try (with_reducible rfl)
  change wpX _ _ _ _ _ _ _ _ (Act.put _ (some 61) (.string (pcS (textF kk t0) 1))) _
  try simp only [Act.put, List.setIfInBounds_toArray, List.set_cons_succ, List.set_cons_zero]
  refine wpX_bytes (fun _ _ h => h) 11 (by kernel_rfl) (by kernel_rfl) rfl (by kernel_rfl) 9 36 5 (.tmp 61) rfl Tryz.underlying9 Tryz.underlying36 Tryz.underlying5 (pcS (textF kk t0) 1) rfl ?_
  intro W1 hW1 W2 cap2 hx2 hr2 hc2
  change wpX _ _ _ _ _ _ _ _ (Act.put _ (some 62) (.slice (some ⟨W1.heap.size, 0, none⟩) (pcS (textF kk t0) 1).size cap2)) _
  try simp only [Act.put, List.setIfInBounds_toArray, List.set_cons_succ, List.set_cons_zero]
  refine wpX_out 12 (by kernel_rfl) (by kernel_rfl) rfl (by kernel_rfl) (fun W hW KK hKK => ?_)
  go_simp
  refine (HF.out W (E2.out.trans (hW1.trans (hx2.trans hW))) W1.heap.size cap2 (bytes_of_row (hr2.ext hW))).mono ?_
  rintro e w3 ⟨rfl, hm3, hq3⟩
  refine hKK _ _ ?_
  clear hKK KK
  try simp only [Act.put, List.setIfInBounds_toArray, List.set_cons_succ, List.set_cons_zero]
  refine wpAnyC_take (i := 13) (v := .tuple #[.slice none 0 0, .nilIface]) rfl (by kernel_rfl) (by kernel_rfl) (by kernel_rfl) (fun _ _ _ h => h) trivial (by kernel_rfl) ?_ ?_
  · intro W hW; go_simp; try (with_reducible rfl)
  change wpAnyC _ _ _ _ _ _ _ (Act.put _ (some 50) (.tuple #[.slice none 0 0, .nilIface])) _
  try simp only [Act.put, List.setIfInBounds_toArray, List.set_cons_succ, List.set_cons_zero]
  refine wpAnyC_take (i := 14) (v := .slice none 0 0) rfl (by kernel_rfl) (by kernel_rfl) (by kernel_rfl) (fun _ _ _ h => h) trivial (by kernel_rfl) ?_ ?_
  · intro W hW; go_simp; try (with_reducible rfl)
  change wpAnyC _ _ _ _ _ _ _ (Act.put _ (some 64) (.slice none 0 0)) _
  try simp only [Act.put, List.setIfInBounds_toArray, List.set_cons_succ, List.set_cons_zero]
  refine wpAnyC_take (i := 15) (v := .nilIface) rfl (by kernel_rfl) (by kernel_rfl) (by kernel_rfl) (fun _ _ _ h => h) trivial (by kernel_rfl) ?_ ?_
  · intro W hW; go_simp; try (with_reducible rfl)
  change wpAnyC _ _ _ _ _ _ _ (Act.put _ (some 65) (.nilIface)) _
  try simp only [Act.put, List.setIfInBounds_toArray, List.set_cons_succ, List.set_cons_zero]
  refine wpAnyC_take (i := 16) (v := .slice none 0 0) rfl (by kernel_rfl) (by kernel_rfl) (by kernel_rfl) (fun _ _ _ h => h) trivial (by kernel_rfl) ?_ ?_
  · intro W hW; go_simp; try (with_reducible rfl)
  change wpAnyC _ _ _ _ _ _ _ (Act.put _ (some 11) (.slice none 0 0)) _
  try simp only [Act.put, List.setIfInBounds_toArray, List.set_cons_succ, List.set_cons_zero]
  refine wpAnyC_take (i := 17) (v := .nilIface) rfl (by kernel_rfl) (by kernel_rfl) (by kernel_rfl) (fun _ _ _ h => h) trivial (by kernel_rfl) ?_ ?_
  · intro W hW; go_simp; try (with_reducible rfl)
  change wpAnyC _ _ _ _ _ _ _ (Act.put _ (some 12) (.nilIface)) _
  try simp only [Act.put, List.setIfInBounds_toArray, List.set_cons_succ, List.set_cons_zero]
  refine ⟨by kernel_rfl, ?_⟩
  obtain ⟨r3, ho3, hr3⟩ := hq3.out
  have HW3 := Lib.hid (HX2.out.trans (E2.out.trans (hW1.trans (hx2.trans hW))))
  have HO3 := Lib.hid ho3
  have HX3 : Hid (Ext w w3) := Lib.hid (((Mod.of_ext _ HW3.out).then hm3 (fun i hi => .inr (by
    rcases hi with h | h | h | h
    · rw [h]; exact HGE.out.1
    · rw [h]; exact HGE.out.2.1
    · exact HRG.out _ h
    · rw [h]; exact HLB.out))).ext (F := fun _ => False) (fun _ h => h.elim))
  have HRG3 := Lib.hid (show ∀ g, r3 = some g → w.heap.size ≤ g from fun g hg => by
    rcases hr3 with h | ⟨g', h, h2⟩
    · rw [h] at hg; exact HRG.out g hg
    · rw [h] at hg; cases hg; exact Nat.le_trans HW3.out.size h2)
  have XX := E2.out.trans (hW1.trans (hx2.trans hW))
  have HAP := Lib.hid (show ∀ (g : Nat) (T : TypeId) (xs : List Value), RowB W g T xs → T ≠ 146 → T ≠ 192 → T ≠ 36 → ¬ (g = mp ∨ g = q ∨ r2 = some g ∨ g = lb2) from fun g T xs hr h1 h2 h3 hh => by
    have hs := sh_apart (HO2.out.ext XX).sh hr h1 h2
    rcases hh with h | h | h | h
    · exact hs (.inl h)
    · exact hs (.inr (.inl h))
    · exact hs (.inr (.inr h))
    · obtain ⟨f, hf, -⟩ := (HO2.out.ext XX).body.row
      exact row_apart hr hf h3 h)
  have HT3 := Lib.hid (hm3.rowB (HT2.out.ext XX) (HAP.out _ _ _ (HT2.out.ext XX) (by decide) (by decide) (by decide)))
  have HA3 := Lib.hid (hm3.rowB (HA2.out.ext XX) (HAP.out _ _ _ (HA2.out.ext XX) (by decide) (by decide) (by decide)))
  have HZ3 := Lib.hid (show w0.heap.size ≤ w3.heap.size from Nat.le_trans HZ2.out (Nat.le_trans XX.size hm3.size))
  clear hq3 ho3 hr3 hm3 HW3 hW HF HT2 HA2 HO2 HX2 HZ2 XX HAP HRG HLB E2 hW1 hx2 hr2 hc2
  go_upto_region 13 with fail
  have HLL := Lib.hid (show tagF t0 = tagF t1 → lenF kk t0 = lenF kk t1 from fun h => by
    have := tagF_inj h
    unfold lenF
    rw [this])
  have HLN1 := Lib.hid (len_le kk t1)
  have HPB := Lib.hid (fun W (hW : Ext w3 W) g (hg : RowB W g 5 [.int .u8 109]) => put_both (tag1 := tagF t1) (len1 := lenF kk t1) (a1 := a1) (HO3.out.ext hW) (Nat.le_trans HZ3.out hW.size) (by rw [keyF_size]; omega) HLL.out HNP.out.1 HNP.out.2.1 HLN.out HLN1.out hg (by have := HB1.out; omega))
  have E3 := Lib.hid ((Ext.refl w3).drew)
  obtain ⟨base, hbase⟩ : ∃ n, n = w3.drew.heap.size := ⟨_, rfl⟩
  have HBE := Lib.hid hbase
  have HBW := Lib.hid (show w3.heap.size = base from hbase.symm)
  clear hbase
  refine wp_region_X (Soft base) (grows_soft base) 16 (by kernel_rfl) ?_
  refine wpX_take (grows_soft base) (i := 0) (v := .pointer (some ⟨s, 0, none⟩)) (by kernel_rfl) (by kernel_rfl) rfl (by kernel_rfl) (by kernel_rfl) (by kernel_rfl) (fun _ _ _ h => h) (by kernel_rfl) ?_ ?_
  · intro W hW; go_simp; try (with_reducible rfl)
  change wpX _ _ _ _ _ _ _ _ (Act.put _ (some 69) (.pointer (some ⟨s, 0, none⟩))) _
  try simp only [Act.put, List.setIfInBounds_toArray, List.set_cons_succ, List.set_cons_zero]
  refine wpX_take (grows_soft base) (i := 1) (v := .int .u8 (kk : Nat)) (by kernel_rfl) (by kernel_rfl) rfl (by kernel_rfl) (by kernel_rfl) (by kernel_rfl) (fun _ _ _ h => h) (by kernel_rfl) ?_ ?_
  · intro W hW; go_simp; try (with_reducible rfl)
  change wpX _ _ _ _ _ _ _ _ (Act.put _ (some 70) (.int .u8 (kk : Nat))) _
  try simp only [Act.put, List.setIfInBounds_toArray, List.set_cons_succ, List.set_cons_zero]
  refine wpX_call (grows_soft base) (i := 2) (v := .string (keyF kk)) (by kernel_rfl) (by kernel_rfl) rfl (by kernel_rfl) (by kernel_rfl) (by kernel_rfl) (fun _ _ _ h => h) (by kernel_rfl) _ _ ?_ (fun W hW => (key24_any kk HKK.out.1 W).mono (fun _ _ h => ⟨h.1, soft_ext h.2⟩)) ?_
  · intro W; go_simp; try (with_reducible rfl)
  change wpX _ _ _ _ _ _ _ _ (Act.put _ (some 71) (.string (keyF kk))) _
  try simp only [Act.put, List.setIfInBounds_toArray, List.set_cons_succ, List.set_cons_zero]
  refine wpX_take (grows_soft base) (i := 5) (v := .pointer (some ⟨w.heap.size, 1, none⟩)) (by kernel_rfl) (by kernel_rfl) rfl (by kernel_rfl) (by kernel_rfl) (by kernel_rfl) (fun _ _ _ h => h) (by kernel_rfl) ?_ ?_
  · intro W hW; go_simp; try (with_reducible rfl)
  change wpX _ _ _ _ _ _ _ _ (Act.put _ (some 74) (.pointer (some ⟨w.heap.size, 1, none⟩))) _
  try simp only [Act.put, List.setIfInBounds_toArray, List.set_cons_succ, List.set_cons_zero]
  refine wpX_take (grows_soft base) (i := 6) (v := .int .u8 (t1 : Nat)) (by kernel_rfl) (by kernel_rfl) rfl (by kernel_rfl) (by kernel_rfl) (by kernel_rfl) (fun _ _ _ h => h) (by kernel_rfl) ?_ ?_
  · intro W hW; have c0 := (HT3.out.ext (E3.out.trans (hW.ext HBE.out))).cell (j := 1) rfl; go_simp; try (with_reducible rfl)
  change wpX _ _ _ _ _ _ _ _ (Act.put _ (some 75) (.int .u8 (t1 : Nat))) _
  try simp only [Act.put, List.setIfInBounds_toArray, List.set_cons_succ, List.set_cons_zero]
  refine wpX_call (grows_soft base) (i := 7) (v := .string (tagF t1)) (by kernel_rfl) (by kernel_rfl) rfl (by kernel_rfl) (by kernel_rfl) (by kernel_rfl) (fun _ _ _ h => h) (by kernel_rfl) _ _ ?_ (fun W hW => (tag24_any t1 H1.out W).mono (fun _ _ h => ⟨h.1, soft_ext h.2⟩)) ?_
  · intro W; go_simp; try (with_reducible rfl)
  change wpX _ _ _ _ _ _ _ _ (Act.put _ (some 76) (.string (tagF t1))) _
  try simp only [Act.put, List.setIfInBounds_toArray, List.set_cons_succ, List.set_cons_zero]
  refine wpX_take (grows_soft base) (i := 8) (v := .int .u8 (kk : Nat)) (by kernel_rfl) (by kernel_rfl) rfl (by kernel_rfl) (by kernel_rfl) (by kernel_rfl) (fun _ _ _ h => h) (by kernel_rfl) ?_ ?_
  · intro W hW; go_simp; try (with_reducible rfl)
  change wpX _ _ _ _ _ _ _ _ (Act.put _ (some 77) (.int .u8 (kk : Nat))) _
  try simp only [Act.put, List.setIfInBounds_toArray, List.set_cons_succ, List.set_cons_zero]
  refine wpX_take (grows_soft base) (i := 9) (v := .pointer (some ⟨w.heap.size, 1, none⟩)) (by kernel_rfl) (by kernel_rfl) rfl (by kernel_rfl) (by kernel_rfl) (by kernel_rfl) (fun _ _ _ h => h) (by kernel_rfl) ?_ ?_
  · intro W hW; go_simp; try (with_reducible rfl)
  change wpX _ _ _ _ _ _ _ _ (Act.put _ (some 78) (.pointer (some ⟨w.heap.size, 1, none⟩))) _
  try simp only [Act.put, List.setIfInBounds_toArray, List.set_cons_succ, List.set_cons_zero]
  refine wpX_take (grows_soft base) (i := 10) (v := .int .u8 (t1 : Nat)) (by kernel_rfl) (by kernel_rfl) rfl (by kernel_rfl) (by kernel_rfl) (by kernel_rfl) (fun _ _ _ h => h) (by kernel_rfl) ?_ ?_
  · intro W hW; have c0 := (HT3.out.ext (E3.out.trans (hW.ext HBE.out))).cell (j := 1) rfl; go_simp; try (with_reducible rfl)
  change wpX _ _ _ _ _ _ _ _ (Act.put _ (some 79) (.int .u8 (t1 : Nat))) _
  try simp only [Act.put, List.setIfInBounds_toArray, List.set_cons_succ, List.set_cons_zero]
  refine wpX_call (grows_soft base) (i := 11) (v := .int .i64 (lenF kk t1 : Nat)) (by kernel_rfl) (by kernel_rfl) rfl (by kernel_rfl) (by kernel_rfl) (by kernel_rfl) (fun _ _ _ h => h) (by kernel_rfl) _ _ ?_ (fun W hW => (length24_any kk t1 W).mono (fun _ _ h => ⟨h.1, h.2 ▸ soft_ext (Ext.refl _)⟩)) ?_
  · intro W; go_simp; try (with_reducible rfl)
  change wpX _ _ _ _ _ _ _ _ (Act.put _ (some 80) (.int .i64 (lenF kk t1 : Nat))) _
  try simp only [Act.put, List.setIfInBounds_toArray, List.set_cons_succ, List.set_cons_zero]
  refine wpX_take (grows_soft base) (i := 12) (v := .pointer (some ⟨w.heap.size + 1, 1, none⟩)) (by kernel_rfl) (by kernel_rfl) rfl (by kernel_rfl) (by kernel_rfl) (by kernel_rfl) (fun _ _ _ h => h) (by kernel_rfl) ?_ ?_
  · intro W hW; go_simp; try (with_reducible rfl)
  change wpX _ _ _ _ _ _ _ _ (Act.put _ (some 81) (.pointer (some ⟨w.heap.size + 1, 1, none⟩))) _
  try simp only [Act.put, List.setIfInBounds_toArray, List.set_cons_succ, List.set_cons_zero]
  refine wpX_take (grows_soft base) (i := 13) (v := .int .u16 (a1 : Nat)) (by kernel_rfl) (by kernel_rfl) rfl (by kernel_rfl) (by kernel_rfl) (by kernel_rfl) (fun _ _ _ h => h) (by kernel_rfl) ?_ ?_
  · intro W hW; have c0 := (HA3.out.ext (E3.out.trans (hW.ext HBE.out))).cell (j := 1) rfl; go_simp; try (with_reducible rfl)
  change wpX _ _ _ _ _ _ _ _ (Act.put _ (some 82) (.int .u16 (a1 : Nat))) _
  try simp only [Act.put, List.setIfInBounds_toArray, List.set_cons_succ, List.set_cons_zero]
  refine wpX_take (grows_soft base) (i := 14) (v := .int .i64 (a1 : Nat)) (by kernel_rfl) (by kernel_rfl) rfl (by kernel_rfl) (by kernel_rfl) (by kernel_rfl) (fun _ _ _ h => h) (by kernel_rfl) ?_ ?_
  · intro W hW; go_simp; try (first | with_reducible rfl | exact IntWalk.i64_in (a1 : Int) (by have := HB1.out; omega))
  change wpX _ _ _ _ _ _ _ _ (Act.put _ (some 83) (.int .i64 (a1 : Nat))) _
  try simp only [Act.put, List.setIfInBounds_toArray, List.set_cons_succ, List.set_cons_zero]
  refine wpX_one 3 (by kernel_rfl) (by kernel_rfl) rfl (by kernel_rfl) (fun W hW KK hKK => ?_)
  go_simp
  have HF4 := Lib.hid (fresh_laid W #[.int .u8 109] 5)
  have HGW := Lib.hid (show base ≤ W.heap.size by have := hW.mod.size; rw [HBE.out]; exact this)
  have S4 := Lib.hid (hW.trans (soft_ext (base := base) ((Ext.refl W).alloc (.cells #[.int .u8 109] 5))))
  refine hKK _ _ (soft_ext ((Ext.refl W).alloc _)) ?_
  clear hKK KK
  try simp only [Act.put, List.setIfInBounds_toArray, List.set_cons_succ, List.set_cons_zero]
  obtain ⟨gm, hgm⟩ : ∃ g, W.heap.size = g := ⟨_, rfl⟩
  rw [hgm] at HF4 HGW ⊢
  clear hW
  refine wpX_one 4 (by kernel_rfl) (by kernel_rfl) rfl (by kernel_rfl) (fun W5 hW5 KK hKK => ?_)
  obtain ⟨w6, hrun, hs6, hf6⟩ := run_mark (P := Tryz.prog) (hW5.fresh HF4.out) HGW.out 36 1 1 Tryz.underlying36 Tryz.underlying5
  go_simp
  have HF6 := Lib.hid hf6
  have S6 := Lib.hid (S4.out.trans (hW5.trans hs6))
  refine hKK _ _ hs6 ?_
  clear hKK KK hrun hs6 hf6 hW5
  try simp only [Act.put, List.setIfInBounds_toArray, List.set_cons_succ, List.set_cons_zero]
  refine wpX_take (grows_soft base) (i := 15) (v := .agg #[.string (keyF kk), .slice (some ⟨gm, 0, none⟩) 1 1, .string (tagF t1), .int .i64 (lenF kk t1 : Nat), .int .i64 (a1 : Nat)]) (by kernel_rfl) (by kernel_rfl) rfl (by kernel_rfl) (by kernel_rfl) (by kernel_rfl) (fun _ _ _ h => h) (by kernel_rfl) ?_ ?_
  · intro W hW; go_simp; try (with_reducible rfl)
  change wpX _ _ _ _ _ _ _ _ (Act.put _ (some 84) (.agg #[.string (keyF kk), .slice (some ⟨gm, 0, none⟩) 1 1, .string (tagF t1), .int .i64 (lenF kk t1 : Nat), .int .i64 (a1 : Nat)])) _
  try simp only [Act.put, List.setIfInBounds_toArray, List.set_cons_succ, List.set_cons_zero]
  refine wpX_out 16 (by kernel_rfl) (by kernel_rfl) rfl (by kernel_rfl) (fun W7 hW7 KK hKK => ?_)
  go_simp
  have X7 := Lib.hid (E3.out.trans ((S6.out.trans hW7).ext HBE.out))
  refine (HPB.out W7 X7.out gm (hW7.fresh HF6.out).row).mono ?_
  rintro e w8 ⟨rfl, hm8, hq8⟩
  refine hKK _ _ ?_
  clear hKK KK
  try simp only [Act.put, List.setIfInBounds_toArray, List.set_cons_succ, List.set_cons_zero]
  refine wpAnyC_take (i := 17) (v := .tuple #[.slice none 0 0, .nilIface]) rfl (by kernel_rfl) (by kernel_rfl) (by kernel_rfl) (fun _ _ _ h => h) trivial (by kernel_rfl) ?_ ?_
  · intro W hW; go_simp; try (with_reducible rfl)
  change wpAnyC _ _ _ _ _ _ _ (Act.put _ (some 68) (.tuple #[.slice none 0 0, .nilIface])) _
  try simp only [Act.put, List.setIfInBounds_toArray, List.set_cons_succ, List.set_cons_zero]
  refine wpAnyC_take (i := 18) (v := .slice none 0 0) rfl (by kernel_rfl) (by kernel_rfl) (by kernel_rfl) (fun _ _ _ h => h) trivial (by kernel_rfl) ?_ ?_
  · intro W hW; go_simp; try (with_reducible rfl)
  change wpAnyC _ _ _ _ _ _ _ (Act.put _ (some 86) (.slice none 0 0)) _
  try simp only [Act.put, List.setIfInBounds_toArray, List.set_cons_succ, List.set_cons_zero]
  refine wpAnyC_take (i := 19) (v := .nilIface) rfl (by kernel_rfl) (by kernel_rfl) (by kernel_rfl) (fun _ _ _ h => h) trivial (by kernel_rfl) ?_ ?_
  · intro W hW; go_simp; try (with_reducible rfl)
  change wpAnyC _ _ _ _ _ _ _ (Act.put _ (some 87) (.nilIface)) _
  try simp only [Act.put, List.setIfInBounds_toArray, List.set_cons_succ, List.set_cons_zero]
  refine wpAnyC_take (i := 20) (v := .slice none 0 0) rfl (by kernel_rfl) (by kernel_rfl) (by kernel_rfl) (fun _ _ _ h => h) trivial (by kernel_rfl) ?_ ?_
  · intro W hW; go_simp; try (with_reducible rfl)
  change wpAnyC _ _ _ _ _ _ _ (Act.put _ (some 13) (.slice none 0 0)) _
  try simp only [Act.put, List.setIfInBounds_toArray, List.set_cons_succ, List.set_cons_zero]
  refine wpAnyC_take (i := 21) (v := .nilIface) rfl (by kernel_rfl) (by kernel_rfl) (by kernel_rfl) (fun _ _ _ h => h) trivial (by kernel_rfl) ?_ ?_
  · intro W hW; go_simp; try (with_reducible rfl)
  change wpAnyC _ _ _ _ _ _ _ (Act.put _ (some 14) (.nilIface)) _
  try simp only [Act.put, List.setIfInBounds_toArray, List.set_cons_succ, List.set_cons_zero]
  refine ⟨by kernel_rfl, ?_⟩
  obtain ⟨z4, r4, it4, A4, c4, b4, lb4, Bb4, D4, ho4, hg4⟩ := hq8.out
  have HW4 := Lib.hid (HX3.out.trans X7.out)
  have HO4 := Lib.hid ho4
  have HG4 := Lib.hid hg4
  have HX4 : Hid (Ext w w8) := Lib.hid (((Mod.of_ext _ HW4.out).then hm8 (fun i hi => .inr (by
    rcases hi with h | h | h
    · rw [h]; exact HGE.out.1
    · rw [h]; exact HGE.out.2.1
    · exact HRG3.out _ h))).ext (F := fun _ => False) (fun _ h => h.elim))
  have HT4 := Lib.hid (hm8.rowB (HT3.out.ext X7.out) (sh_apart (HO3.out.ext X7.out).sh (HT3.out.ext X7.out) (by decide) (by decide)))
  have HA4 := Lib.hid (hm8.rowB (HA3.out.ext X7.out) (sh_apart (HO3.out.ext X7.out).sh (HA3.out.ext X7.out) (by decide) (by decide)))
  clear hq8 ho4 hg4 hm8 HW4 X7 hW7 S6 HF6 HF4 S4 HGW hgm HBW HBE E3 HPB HT3 HA3 HX3 HZ3 HO3 HRG3 HLL
  have HGT := Lib.hid (fun W (hW : Ext w8 W) => get_one (HO4.out.ext hW) (by rw [keyF_size]; unfold maxLen; omega) (by omega))
  go_upto_region 17 with (first
    | (go_at_call 12; refine (key24_any kk HKK.out.1 _).mono ?_; rintro e w9 ⟨rfl, hx9⟩)
    | (go_at_call 18; refine (HGT.out _ hx9).mono ?_; rintro e w10 ⟨⟨A9, c9, rfl, hmv9⟩, hm9⟩))
  have HO9 := Lib.hid (HO4.out.ext hx9)
  have hsr := HO9.out.sh.sk.apart_row HO9.out.sh.row (by decide) (by decide)
  have hsm := HO9.out.sh.sk.apart_map HO9.out.sh.m
  have hsi := HO9.out.sh.sk.apart_row HO9.out.item (by decide) (by decide)
  have hst := HO9.out.sh.sk.apart_row (HT4.out.ext hx9) (by decide) (by decide)
  have hsa := HO9.out.sh.sk.apart_row (HA4.out.ext hx9) (by decide) (by decide)
  have HT10 := Lib.hid (hm9.rowB (HT4.out.ext hx9) (fun e => e.elim hst.1 hst.2))
  have HA10 := Lib.hid (hm9.rowB (HA4.out.ext hx9) (fun e => e.elim hsa.1 hsa.2))
  have HR10 := Lib.hid (hm9.rowB HO9.out.sh.row (fun e => e.elim hsr.1 hsr.2))
  have HM10 := Lib.hid (HO9.out.sh.m.mod hm9 (fun e => e.elim (fun e => hsm.1 e.symm) (fun e => hsm.2 e.symm)))
  have HI10 : Hid (ItemAt w10 it4 (keyF kk) A4 1 c4 (tagF t1) (lenF kk t1 : Nat) a1 b4) := Lib.hid (hm9.rowB HO9.out.item (fun e => e.elim hsi.1 hsi.2))
  have HB10 := Lib.hid (HO9.out.body.mod hm9 (fun x hx => .inl (by
    rcases hx with h | h
    · exact .inr (.inr (.inr (.inr (.inr (.inl h)))))
    · exact .inr (.inr (.inr (.inr (.inr (.inr h))))))))
  have HX10 : Hid (Ext w w10) := Lib.hid (((Mod.of_ext _ (HX4.out.trans hx9)).then hm9 (fun i hi => .inr (by
    rcases hi with h | h
    · rw [h]; exact HGE.out.2.2.1
    · rw [h]; exact HGE.out.2.2.2))).ext (F := fun _ => False) (fun _ h => h.elim))
  have HMV := Lib.hid hmv9.out
  clear hsr hsm hsi hst hsa hx9 hm9 hmv9 HT4 HA4 HO4 HO9 HX4 HGT
  obtain ⟨w11, hw11⟩ : ∃ x, x = w10.alloc (.cells #[.string (keyF kk), .slice A9 1 c9, .string (tagF t1), .int .i64 (lenF kk t1 : Nat), .int .i64 (a1 : Nat)] 38) := ⟨_, rfl⟩
  have X11 : Ext w10 w11 := by rw [hw11]; exact (Ext.refl w10).alloc _
  have HOB : Hid (RowB w11 w10.heap.size 38 [.string (keyF kk), .slice A9 1 c9, .string (tagF t1), .int .i64 (lenF kk t1 : Nat), .int .i64 (a1 : Nat)]) := Lib.hid (by rw [hw11]; exact row_laid w10 _ _)
  have HX11 := Lib.hid X11
  rw [← hw11]
  clear hw11 X11
  have HMI := Lib.hid (fun W (hW : Ext w11 W) => missing_one (HR10.out.ext (HX11.out.trans hW)) (HM10.out.ext (HX11.out.trans hW)) (RowB.ext HI10.out (HX11.out.trans hW)) (HB10.out.ext (HX11.out.trans hW)) (by rw [keyF_size]; unfold maxLen; omega) (by have := HLN1.out; omega) 256 257 256 (min 257 (lenF kk t1 : Int)).toNat (by omega) (by omega) rfl)
  go_upto_region 18 with (first
    | (go_at_call 12; refine (key24_any kk HKK.out.1 _).mono ?_; rintro e w12 ⟨rfl, hx12⟩)
    | (go_at_call 19; refine (HMI.out _ hx12).mono ?_; rintro e w13 ⟨v13, rfl, hx13, B13, hi13⟩))
  have HX13 := Lib.hid (hx12.trans hx13)
  have HPC := Lib.hid (show (min 257 (lenF kk t1 : Int)).toNat = 257 by
    have h1 : lenF kk t1 = kk % 6 * 170 + t1 % 3 * 30 := rfl
    have h4 : kk % 6 = kk := Nat.mod_eq_of_lt (by have := HKK.out; omega)
    have := HKK.out
    rw [h4] at h1
    omega)
  have hg := HG4.out
  rw [HPC.out, hg] at hi13
  have HI13 := Lib.hid hi13
  clear hi13 hg hx12 hx13
  obtain ⟨T1, hT1⟩ : ∃ T, (!(tagF t0).toList.isEmpty) = T := ⟨_, rfl⟩
  obtain ⟨T2, hT2⟩ : ∃ T, ((tagF t0).toList == (tagF t1).toList) = T := ⟨_, rfl⟩
  have HK := Lib.hid (show (if tagF t1 ≠ ⟨#[]⟩ ∧ tagF t0 = tagF t1 then ([] : List Nat) else [1]) = (if (T1 && T2) = true then [] else [1]) by
    rw [← hT1, ← hT2]
    have : ((!(tagF t0).toList.isEmpty) && ((tagF t0).toList == (tagF t1).toList)) = true ↔ (tagF t1 ≠ ⟨#[]⟩ ∧ tagF t0 = tagF t1) := by
      rw [Bool.and_eq_true, beq_iff_eq]
      constructor
      · rintro ⟨h1, h2⟩
        have h3 := bs_ext24 h2
        refine ⟨fun h => ?_, h3⟩
        rw [h3, h, ByteArray.toList_eq] at h1
        exact absurd h1 (by simp)
      · rintro ⟨h1, h2⟩
        refine ⟨?_, by rw [h2]⟩
        rw [h2]
        cases he : (tagF t1).toList with
        | nil => exact absurd (bs_ext24 (a := tagF t1) (b := ⟨#[]⟩) (by rw [he, ByteArray.toList_eq])) h1
        | cons x y => rfl
    by_cases h : tagF t1 ≠ ⟨#[]⟩ ∧ tagF t0 = tagF t1
    · rw [if_pos h, if_pos (this.2 h)]
    · rw [if_neg h, if_neg (fun e => h (this.1 e))])
  have E13 := Lib.hid ((Ext.refl w13).drew)
  have HT13 := Lib.hid (HT10.out.ext (HX11.out.trans HX13.out))
  have HA13 := Lib.hid (HA10.out.ext (HX11.out.trans HX13.out))
  obtain ⟨KV, hKV⟩ : ∃ b, b = (T1 && T2) := ⟨_, rfl⟩
  have HKV := Lib.hid hKV
  clear hKV
  go_cut [18] (fun v wx => v = .bool KV ∧ Hid (Ext w13 wx))
  case first =>
    refine wp_region_X Ext grows_ext 14 (by kernel_rfl) ?_
    refine wpX_take (grows_ext) (i := 0) (v := .pointer (some ⟨w.heap.size, 0, none⟩)) (by kernel_rfl) (by kernel_rfl) rfl (by kernel_rfl) (by kernel_rfl) (by kernel_rfl) (fun _ _ _ h => h) (by kernel_rfl) ?_ ?_
    · intro W hW; go_simp; try (with_reducible rfl)
    change wpX _ _ _ _ _ _ _ _ (Act.put _ (some 105) (.pointer (some ⟨w.heap.size, 0, none⟩))) _
    try simp only [Act.put, List.setIfInBounds_toArray, List.set_cons_succ, List.set_cons_zero]
    refine wpX_take (grows_ext) (i := 1) (v := .int .u8 (t0 : Nat)) (by kernel_rfl) (by kernel_rfl) rfl (by kernel_rfl) (by kernel_rfl) (by kernel_rfl) (fun _ _ _ h => h) (by kernel_rfl) ?_ ?_
    · intro W hW; have c0 := (HT13.out.ext (E13.out.trans hW)).cell (j := 0) rfl; go_simp; try (with_reducible rfl)
    change wpX _ _ _ _ _ _ _ _ (Act.put _ (some 106) (.int .u8 (t0 : Nat))) _
    try simp only [Act.put, List.setIfInBounds_toArray, List.set_cons_succ, List.set_cons_zero]
    refine wpX_call (grows_ext) (i := 2) (v := .string (tagF t0)) (by kernel_rfl) (by kernel_rfl) rfl (by kernel_rfl) (by kernel_rfl) (by kernel_rfl) (fun _ _ _ h => h) (by kernel_rfl) _ _ ?_ (fun W hW => tag24_any t0 H0.out W) ?_
    · intro W; go_simp; try (with_reducible rfl)
    change wpX _ _ _ _ _ _ _ _ (Act.put _ (some 107) (.string (tagF t0))) _
    try simp only [Act.put, List.setIfInBounds_toArray, List.set_cons_succ, List.set_cons_zero]
    refine wpX_take (grows_ext) (i := 3) (v := .bool T1) (by kernel_rfl) (by kernel_rfl) rfl (by kernel_rfl) (by kernel_rfl) (by kernel_rfl) (fun _ _ _ h => h) (by kernel_rfl) ?_ ?_
    · intro W hW; go_simp; try (with_reducible rfl)
    change wpX _ _ _ _ _ _ _ _ (Act.put _ (some 108) (.bool T1)) _
    try simp only [Act.put, List.setIfInBounds_toArray, List.set_cons_succ, List.set_cons_zero]
    refine wpX_take (grows_ext) (i := 4) (v := .bool T1) (by kernel_rfl) (by kernel_rfl) rfl (by kernel_rfl) (by kernel_rfl) (by kernel_rfl) (fun _ _ _ h => h) (by kernel_rfl) ?_ ?_
    · intro W hW; go_simp; try (with_reducible rfl)
    change wpX _ _ _ _ _ _ _ _ (Act.put _ (some 109) (.bool T1)) _
    try simp only [Act.put, List.setIfInBounds_toArray, List.set_cons_succ, List.set_cons_zero]
    cases T1 with
    | true =>
      refine wpX_take (grows_ext) (i := 5) (v := .pointer (some ⟨w.heap.size, 0, none⟩)) (by kernel_rfl) (by kernel_rfl) rfl (by kernel_rfl) (by kernel_rfl) (by kernel_rfl) (fun _ _ _ h => h) (by kernel_rfl) ?_ ?_
      · intro W hW; go_simp; try (with_reducible rfl)
      change wpX _ _ _ _ _ _ _ _ (Act.put _ (some 110) (.pointer (some ⟨w.heap.size, 0, none⟩))) _
      try simp only [Act.put, List.setIfInBounds_toArray, List.set_cons_succ, List.set_cons_zero]
      refine wpX_take (grows_ext) (i := 6) (v := .int .u8 (t0 : Nat)) (by kernel_rfl) (by kernel_rfl) rfl (by kernel_rfl) (by kernel_rfl) (by kernel_rfl) (fun _ _ _ h => h) (by kernel_rfl) ?_ ?_
      · intro W hW; have c0 := (HT13.out.ext (E13.out.trans hW)).cell (j := 0) rfl; go_simp; try (with_reducible rfl)
      change wpX _ _ _ _ _ _ _ _ (Act.put _ (some 111) (.int .u8 (t0 : Nat))) _
      try simp only [Act.put, List.setIfInBounds_toArray, List.set_cons_succ, List.set_cons_zero]
      refine wpX_call (grows_ext) (i := 7) (v := .string (tagF t0)) (by kernel_rfl) (by kernel_rfl) rfl (by kernel_rfl) (by kernel_rfl) (by kernel_rfl) (fun _ _ _ h => h) (by kernel_rfl) _ _ ?_ (fun W hW => tag24_any t0 H0.out W) ?_
      · intro W; go_simp; try (with_reducible rfl)
      change wpX _ _ _ _ _ _ _ _ (Act.put _ (some 112) (.string (tagF t0))) _
      try simp only [Act.put, List.setIfInBounds_toArray, List.set_cons_succ, List.set_cons_zero]
      refine wpX_take (grows_ext) (i := 8) (v := .pointer (some ⟨w.heap.size, 1, none⟩)) (by kernel_rfl) (by kernel_rfl) rfl (by kernel_rfl) (by kernel_rfl) (by kernel_rfl) (fun _ _ _ h => h) (by kernel_rfl) ?_ ?_
      · intro W hW; go_simp; try (with_reducible rfl)
      change wpX _ _ _ _ _ _ _ _ (Act.put _ (some 113) (.pointer (some ⟨w.heap.size, 1, none⟩))) _
      try simp only [Act.put, List.setIfInBounds_toArray, List.set_cons_succ, List.set_cons_zero]
      refine wpX_take (grows_ext) (i := 9) (v := .int .u8 (t1 : Nat)) (by kernel_rfl) (by kernel_rfl) rfl (by kernel_rfl) (by kernel_rfl) (by kernel_rfl) (fun _ _ _ h => h) (by kernel_rfl) ?_ ?_
      · intro W hW; have c0 := (HT13.out.ext (E13.out.trans hW)).cell (j := 1) rfl; go_simp; try (with_reducible rfl)
      change wpX _ _ _ _ _ _ _ _ (Act.put _ (some 114) (.int .u8 (t1 : Nat))) _
      try simp only [Act.put, List.setIfInBounds_toArray, List.set_cons_succ, List.set_cons_zero]
      refine wpX_call (grows_ext) (i := 10) (v := .string (tagF t1)) (by kernel_rfl) (by kernel_rfl) rfl (by kernel_rfl) (by kernel_rfl) (by kernel_rfl) (fun _ _ _ h => h) (by kernel_rfl) _ _ ?_ (fun W hW => tag24_any t1 H1.out W) ?_
      · intro W; go_simp; try (with_reducible rfl)
      change wpX _ _ _ _ _ _ _ _ (Act.put _ (some 115) (.string (tagF t1))) _
      try simp only [Act.put, List.setIfInBounds_toArray, List.set_cons_succ, List.set_cons_zero]
      refine wpX_take (grows_ext) (i := 11) (v := .bool T2) (by kernel_rfl) (by kernel_rfl) rfl (by kernel_rfl) (by kernel_rfl) (by kernel_rfl) (fun _ _ _ h => h) (by kernel_rfl) ?_ ?_
      · intro W hW; go_simp; try (with_reducible rfl)
      change wpX _ _ _ _ _ _ _ _ (Act.put _ (some 116) (.bool T2)) _
      try simp only [Act.put, List.setIfInBounds_toArray, List.set_cons_succ, List.set_cons_zero]
      refine wpX_take (grows_ext) (i := 12) (v := .bool T2) (by kernel_rfl) (by kernel_rfl) rfl (by kernel_rfl) (by kernel_rfl) (by kernel_rfl) (fun _ _ _ h => h) (by kernel_rfl) ?_ ?_
      · intro W hW; go_simp; try (with_reducible rfl)
      change wpX _ _ _ _ _ _ _ _ (Act.put _ (some 117) (.bool T2)) _
      try simp only [Act.put, List.setIfInBounds_toArray, List.set_cons_succ, List.set_cons_zero]
      refine wpX_take (grows_ext) (i := 13) (v := .bool T2) (by kernel_rfl) (by kernel_rfl) rfl (by kernel_rfl) (by kernel_rfl) (by kernel_rfl) (fun _ _ _ h => h) (by kernel_rfl) ?_ ?_
      · intro W hW; go_simp; try (with_reducible rfl)
      change wpX _ _ _ _ _ _ _ _ (Act.put _ (some 18) (.bool T2)) _
      try simp only [Act.put, List.setIfInBounds_toArray, List.set_cons_succ, List.set_cons_zero]
      refine wpX_done (by kernel_rfl) fun W hW => ?_
      go_wp2_with fail
      go_meet
      exact ⟨by rw [HKV.out]; rfl, Lib.hid (E13.out.trans hW)⟩
    | false =>
      refine wpX_skip (grows_ext) (i := 5) (by kernel_rfl) (by kernel_rfl) rfl (by kernel_rfl) (by kernel_rfl) (by kernel_rfl) (fun _ _ _ h => h) (by kernel_rfl) ?_
      change wpX _ _ _ _ _ _ _ _ (Act.put _ (some 110) undef) _
      try simp only [Act.put, List.setIfInBounds_toArray, List.set_cons_succ, List.set_cons_zero]
      refine wpX_skip (grows_ext) (i := 6) (by kernel_rfl) (by kernel_rfl) rfl (by kernel_rfl) (by kernel_rfl) (by kernel_rfl) (fun _ _ _ h => h) (by kernel_rfl) ?_
      change wpX _ _ _ _ _ _ _ _ (Act.put _ (some 111) undef) _
      try simp only [Act.put, List.setIfInBounds_toArray, List.set_cons_succ, List.set_cons_zero]
      refine wpX_skip (grows_ext) (i := 7) (by kernel_rfl) (by kernel_rfl) rfl (by kernel_rfl) (by kernel_rfl) (by kernel_rfl) (fun _ _ _ h => h) (by kernel_rfl) ?_
      change wpX _ _ _ _ _ _ _ _ (Act.put _ (some 112) undef) _
      try simp only [Act.put, List.setIfInBounds_toArray, List.set_cons_succ, List.set_cons_zero]
      refine wpX_skip (grows_ext) (i := 8) (by kernel_rfl) (by kernel_rfl) rfl (by kernel_rfl) (by kernel_rfl) (by kernel_rfl) (fun _ _ _ h => h) (by kernel_rfl) ?_
      change wpX _ _ _ _ _ _ _ _ (Act.put _ (some 113) undef) _
      try simp only [Act.put, List.setIfInBounds_toArray, List.set_cons_succ, List.set_cons_zero]
      refine wpX_skip (grows_ext) (i := 9) (by kernel_rfl) (by kernel_rfl) rfl (by kernel_rfl) (by kernel_rfl) (by kernel_rfl) (fun _ _ _ h => h) (by kernel_rfl) ?_
      change wpX _ _ _ _ _ _ _ _ (Act.put _ (some 114) undef) _
      try simp only [Act.put, List.setIfInBounds_toArray, List.set_cons_succ, List.set_cons_zero]
      refine wpX_skip (grows_ext) (i := 10) (by kernel_rfl) (by kernel_rfl) rfl (by kernel_rfl) (by kernel_rfl) (by kernel_rfl) (fun _ _ _ h => h) (by kernel_rfl) ?_
      change wpX _ _ _ _ _ _ _ _ (Act.put _ (some 115) undef) _
      try simp only [Act.put, List.setIfInBounds_toArray, List.set_cons_succ, List.set_cons_zero]
      refine wpX_skip (grows_ext) (i := 11) (by kernel_rfl) (by kernel_rfl) rfl (by kernel_rfl) (by kernel_rfl) (by kernel_rfl) (fun _ _ _ h => h) (by kernel_rfl) ?_
      change wpX _ _ _ _ _ _ _ _ (Act.put _ (some 116) undef) _
      try simp only [Act.put, List.setIfInBounds_toArray, List.set_cons_succ, List.set_cons_zero]
      refine wpX_take (grows_ext) (i := 12) (v := .bool false) (by kernel_rfl) (by kernel_rfl) rfl (by kernel_rfl) (by kernel_rfl) (by kernel_rfl) (fun _ _ _ h => h) (by kernel_rfl) ?_ ?_
      · intro W hW; go_simp; try (with_reducible rfl)
      change wpX _ _ _ _ _ _ _ _ (Act.put _ (some 117) (.bool false)) _
      try simp only [Act.put, List.setIfInBounds_toArray, List.set_cons_succ, List.set_cons_zero]
      refine wpX_take (grows_ext) (i := 13) (v := .bool false) (by kernel_rfl) (by kernel_rfl) rfl (by kernel_rfl) (by kernel_rfl) (by kernel_rfl) (fun _ _ _ h => h) (by kernel_rfl) ?_ ?_
      · intro W hW; go_simp; try (with_reducible rfl)
      change wpX _ _ _ _ _ _ _ _ (Act.put _ (some 18) (.bool false)) _
      try simp only [Act.put, List.setIfInBounds_toArray, List.set_cons_succ, List.set_cons_zero]
      refine wpX_done (by kernel_rfl) fun W hW => ?_
      go_wp2_with fail
      go_meet
      exact ⟨by rw [HKV.out]; rfl, Lib.hid (E13.out.trans hW)⟩
  case rest =>
  obtain ⟨rfl, hx14⟩ := hcut
  have HXX := Lib.hid (HX13.out.trans hx14.out)
  obtain ⟨nL, hnL⟩ : ∃ n, gaps D4 (pcs 256 257) = n := ⟨_, rfl⟩
  have hi14 := HI13.out
  rw [HK.out, ← HKV.out] at hi14
  obtain ⟨A13, cap13, rfl, -, -⟩ := hi14.shape
  obtain ⟨m13, hm13⟩ : ∃ m : Nat, (if KV = true then ([] : List Nat) else [1]).length = m := ⟨_, rfl⟩
  have HM13 := Lib.hid (show (((m13 : Int) == 0) == KV) = true by rw [← hm13]; cases KV <;> rfl)
  rw [hm13]
  clear hm13 hi14 hnL
  obtain ⟨g9, hA9, hr9⟩ : ∃ g, A9 = some ⟨g, 0, none⟩ ∧ RowB wc g 5 [.int .u8 109] := by
    rcases HMV.out with ⟨-, h⟩ | ⟨g, cap, h1, h2⟩
    · exact absurd h (by decide)
    · cases h1
      exact ⟨g, rfl, h2.ext (HX11.out.trans HXX.out)⟩
  subst hA9
  have hcv : (convert 36 9 (.slice (some ⟨g9, 0, none⟩) 1 c9)).run Tryz.prog wc = .ok (.string ⟨#[109]⟩) wc := RowB.toString (P := Tryz.prog) (xs := [109]) hr9 (src := 36) (dst := 9) Tryz.underlying36 Tryz.underlying5 Tryz.underlying9 c9
  have y1 := (HOB.out.ext HXX.out).cell (j := 1) rfl
  have y4 := (HOB.out.ext HXX.out).cell (j := 4) rfl
  have x1 := (HA13.out.ext hx14.out).cell (j := 1) rfl
  have hw1 : IntKind.i64.wrap (a1 : Int) = a1 := IntWalk.i64_in (a1 : Int) (by have := HB1.out; omega)
  have hq1 : ((a1 : Int) == (a1 : Int)) = true := by simp
  have hq2 : ((⟨#[109]⟩ : ByteArray).toList == (⟨#[109]⟩ : ByteArray).toList) = true := by simp
  go_wp2_with fail
  go_ret
  exact ⟨ret_bool HM13.out, HX10.out.trans (HX11.out.trans HXX.out)⟩
theorem keeps_lawI (x p q a b : Int) (hx : 0 ≤ x ∧ x ≤ 255) (hp : 0 ≤ p ∧ p ≤ 255) (hq : 0 ≤ q ∧ q ≤ 255) (ha : 0 ≤ a ∧ a ≤ 65535) (hb : 0 ≤ b ∧ b ≤ 65535) (w : World) :
    Calls Tryz.prog 3 #[.int .u8 x, .agg #[.int .u8 p, .int .u8 q], .agg #[.int .u16 a, .int .u16 b]] w fun e w' => e = .returned (.bool true) ∧ Ext w w' := by
  have := keeps_law x.toNat p.toNat q.toNat a.toNat b.toNat (by omega) (by omega) (by omega) (by omega) w
  rwa [Int.toNat_of_nonneg hx.1, Int.toNat_of_nonneg hp.1, Int.toNat_of_nonneg hq.1, Int.toNat_of_nonneg ha.1, Int.toNat_of_nonneg hb.1] at this
end Go.Proofs.YtfgjbbpkkbohhaaGreat
