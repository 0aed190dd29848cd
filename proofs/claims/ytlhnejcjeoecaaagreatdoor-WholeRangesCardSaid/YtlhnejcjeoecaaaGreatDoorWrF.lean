/- WholeRanges: the law. -/
import Derived.Test.YtlhnejcjeoecaaaGreatDoorWrG
import Derived.Test.YtlhnejcjeoecaaaGreatDoorGAD
import Derived.Test.YtlhnejcjeoecaaaGreatDoorGAL
import Derived.Test.YtlhnejcjeoecaaaGreatDoorGAB
import Derived.Deep.DeepCutAuto
import Derived.Deep.CutBlock
import Derived.Deep.RegionWith
namespace Go.Proofs.YtlhnejcjeoecaaaGreatDoor
open Go.RowKit Go.Deep
/-- a clipped range -/
def clipR (p : Int × Int) : Int × Int := (max 0 (min p.1 5000), max 0 (min p.2 5000))
def clipK (k : Nat) (xs : List (Int × Int)) : List (Int × Int) := (xs.take k).map clipR ++ xs.drop k
theorem clipK_length (k : Nat) (xs : List (Int × Int)) : (clipK k xs).length = xs.length := by unfold clipK; simp; omega
theorem clipK_zero (xs : List (Int × Int)) : clipK 0 xs = xs := by simp [clipK]
theorem clipK_all {n : Nat} {xs : List (Int × Int)} (h : xs.length = n) : clipK n xs = xs.map clipR := by subst h; simp [clipK]
theorem clipK_at {k : Nat} {xs : List (Int × Int)} {p : Int × Int} (h : xs[k]? = some p) : (clipK k xs)[k]? = some p := by
  have hk := (List.getElem?_eq_some_iff.1 h).1
  unfold clipK
  rw [List.getElem?_append_right (by simp; omega)]
  simp only [List.length_map, List.length_take]
  rw [show k - min k xs.length = 0 by omega, List.getElem?_drop, Nat.add_zero]
  exact h
theorem clipK_step {k : Nat} {xs : List (Int × Int)} {p : Int × Int} (h : xs[k]? = some p) : (clipK k xs).set k (clipR p) = clipK (k + 1) xs := by
  obtain ⟨hk, e⟩ := List.getElem?_eq_some_iff.1 h
  unfold clipK
  rw [List.set_append_right _ _ (by simp; omega)]
  simp only [List.length_map, List.length_take]
  rw [show k - min k xs.length = 0 by omega, List.drop_eq_getElem_cons hk, List.set_cons_zero, List.take_add_one, h, List.map_append, List.append_assoc]
  rfl
set_option maxRecDepth 100000 in
set_option maxHeartbeats 8000000 in
theorem ranges_law {w : World} {bv ov tv av : Value} {t : ByteArray} {os ts : List Nat} {xs : List (Int × Int)} (hb : BIn w bv t) (ho : CIn w ov os) (ht : CIn w tv ts) (ha : RIn w av xs) (hos : ∀ x ∈ os, x < 256) (hts : ∀ x ∈ ts, x < 256) (hM : MaxL w) (hP : PowT w) :
    Calls Tryz.prog 3 #[bv, ov, tv, av] w fun e w' => e = .returned (.bool true) ∧ Ext w w' := by
  have HAW := Lib.hid (fun W => P20.wawake_any W)
  have HM := Lib.hid hM
  have HP := Lib.hid hP
  have HB := Lib.hid hb
  have HO := Lib.hid ho
  have HT := Lib.hid ht
  have HA := Lib.hid ha
  obtain ⟨Ab, cb, rfl, hcb, -⟩ := hb
  obtain ⟨Ao, co, rfl, hco, -⟩ := ho
  obtain ⟨At, ct, rfl, hct, -⟩ := ht
  obtain ⟨Aa, ca, rfl, hca, har⟩ := ha
  obtain ⟨n, hn⟩ : ∃ n, t.size = n := ⟨_, rfl⟩
  obtain ⟨no, hno⟩ : ∃ n, os.length = n := ⟨_, rfl⟩
  obtain ⟨nt, hnt⟩ : ∃ n, ts.length = n := ⟨_, rfl⟩
  obtain ⟨na, hna⟩ : ∃ n, xs.length = n := ⟨_, rfl⟩
  have HN := Lib.hid hn
  have HNO := Lib.hid hno
  have HNT := Lib.hid hnt
  have HNA := Lib.hid hna
  have HOS := Lib.hid hos
  have HTS := Lib.hid hts
  rw [hn] at hcb HB ⊢
  rw [hno] at hco HO ⊢
  rw [hnt] at hct HT ⊢
  rw [hna] at hca HA har ⊢
  have HRDS := Lib.hid (fun W (hW : Ext w W) => RIn.reads (HA.out.ext hW) HNA.out.symm (fun a e h0 => by
    obtain ⟨a', e', hg⟩ := har h0
    rw [e] at e'
    cases e'
    obtain ⟨p, hp⟩ : ∃ p, xs[0]? = some p := ⟨_, List.getElem?_eq_getElem (by rw [HNA.out]; exact h0)⟩
    have h1 := (hg 0 p hp).1
    have h2 := World.block_lt_of_cell? W _ (hW.cell h1)
    rwa [block_of_add] at h2))
  clear hn hno hnt hna hM hP hos hts har
  by_cases g1 : n ≤ 2000
  · by_cases g2 : no ≤ 20
    · by_cases g3 : nt ≤ 20
      · by_cases g4 : na = 0
        · subst g4
          go_enter Tryz.func3, Tryz.ntmps3
          go_wp2_with (go_at_call 4; refine (HAW.out _).mono ?_; rintro e w1 ⟨rfl, hx1⟩)
          go_ret
          exact ⟨rfl, hx1⟩
        · have g4' : ((na : Int) == 0) = false := by simp; omega
          have g4n : 0 < na := by omega
          clear g4
          by_cases g5 : na ≤ 8
          · go_enter Tryz.func3, Tryz.ntmps3
            go_upto_region 3 with (go_at_call 4; refine (HAW.out _).mono ?_; rintro e w1 ⟨rfl, hx1⟩)
            obtain ⟨i0, hi0, hz0, hz1, hz2⟩ := info_parts rng_info
            have hown0 : (w1.alloc (.cells #[] 27)).ownsRow w1.heap.size 27 2 (.slice (some ⟨w1.heap.size, 0, none⟩) 0 0) 0 [] :=
              ⟨rfl, .inr ⟨w1.heap.size, 0, #[], rfl, Nat.le_refl _, heap_alloc_new w1 _, Nat.le_refl _, by simp only [maxLen]; omega, rfl, rfl⟩⟩
            have HOW0 := Lib.hid hown0
            have X1 : Ext w1 (w1.alloc (.cells #[] 27)) := (Ext.refl w1).alloc _
            have HXA := Lib.hid X1
            have hone : ∀ u ∈ xs.flatMap rcs2, u.oneCell' = true := by
              intro u hu
              obtain ⟨q, -, hq⟩ := List.mem_flatMap.1 hu
              simp [rcs2] at hq
              rcases hq with rfl | rfl <;> rfl
            have HONE := Lib.hid hone
            clear hown0 X1 hone
            go_upto_region 4 with (at_builtin; refine wpList_append_any _ rfl (.tmp 66) (.tmp 67) _ rfl w1.heap.size 27 i0 _ 2 16 Tryz.underlying23 hi0 hz0 hz1 hz2 rfl (by omega) _ 0 [] rfl HOW0.out _ _ na _ _ rfl (HRDS.out _ (hx1.trans HXA.out)) HONE.out (by simp only [maxLen]; omega) (by omega) (by simp) ?_; intro v2 w2 hown2 hg2 hat2; obtain ⟨g, cap2, rfl⟩ : ∃ g cap2, v2 = .slice (some ⟨g, 0, none⟩) na cap2 := (by rcases hown2.2 with ⟨_, e⟩ | ⟨g, cap2, cur, e, _⟩ <;> first | omega | exact ⟨g, cap2, by rw [e, Nat.zero_add]⟩))
            rw [Nat.zero_add, List.nil_append] at hown2
            have X2 : Ext w1 w2 := Below.grown HXA.out hg2 HXA.out.size (own_base HOW0.out)
            obtain ⟨hq2, hb2, hc2⟩ := own_qrow hown2
            have HX2 := Lib.hid (hx1.trans X2)
            have HQ2 := Lib.hid hq2
            have HGB := Lib.hid (show w.heap.size ≤ g from Nat.le_trans hx1.size hb2)
            clear hown2 hg2 hat2 X2 hq2 hb2 hx1 HXA HOW0 HONE hi0 hz0 hz1 hz2
            go_wp2_with fail
            go_loopw [71] (fun i wr => ∃ k : Nat, k ≤ na ∧ i = .int .i64 k ∧ Ext w wr ∧ Hid (QRow wr g (clipK k xs))) (fun i _ => na - (intOf i).toNat)
            case atStart => exact ⟨0, by omega, rfl, HX2.out, Lib.hid (by rw [clipK_zero]; exact HQ2.out)⟩
            case round =>
              obtain ⟨k, hk, rfl, hX, HQ⟩ := hrel
              by_cases hlt : k < na
              · have hki : (k : Int) < (na : Int) := by omega
                have hk6 : (k : Int) < 9 := by omega
                have hkc : k < cap2 := by omega
                obtain ⟨⟨f, u⟩, hp⟩ : ∃ r, xs[k]? = some r := ⟨_, List.getElem?_eq_getElem (by rw [HNA.out]; exact hlt)⟩
                have hcl := clipK_at hp
                have hlen : k < (clipK k xs).length := by rw [clipK_length, HNA.out]; exact hlt
                have hcl2 := HQ.out.at hcl
                have e0 := hcl2.1
                have e1 := hcl2.2
                have f0 := (Ext.refl wr).frozen e0
                have z0 : wr.frozen? ⟨g, k * 2, none⟩ = false := RowB.frozen HQ.out (j := k * 2) (by have := (List.getElem?_eq_some_iff.1 (r_flat _ k _ hcl 0 (by omega))).1; omega)
                have z1 : wr.frozen? ⟨g, k * 2 + 1, none⟩ = false := RowB.frozen HQ.out (j := k * 2 + 1) (by exact (List.getElem?_eq_some_iff.1 (r_flat _ k _ hcl 1 (by omega))).1)
                have HSTEP := Lib.hid (by have h := HQ.out.put hlen (max 0 (min f 5000)) (max 0 (min u 5000)); rw [show ((max 0 (min f 5000), max 0 (min u 5000)) : Int × Int) = clipR (f, u) from rfl, clipK_step hp] at h; exact h)
                have HXP := Lib.hid hp
                have HXW := Lib.hid hX
                have HC0 := Lib.hid (fun W => clip_any f 0 5000 W)
                have HC1 := Lib.hid (fun W => clip_any u 0 5000 W)
                simp only at e0 e1
                clear hp hcl hlen hcl2 hX f0
                go_upto_region 7 with fail
                go_region_with (first
                  | (go_at_call_of 5 (Value.int .i64 f); refine (HC0.out _).mono ?_; rintro e w' ⟨rfl, rfl⟩)
                  | (go_at_call_of 5 (Value.int .i64 u); refine (HC1.out _).mono ?_; rintro e w' ⟨rfl, rfl⟩))
                all_goals go_wp2_with fail
                all_goals exact ⟨⟨k + 1, by omega, by go_num, ((HXW.out.setCell HGB.out _).setCell HGB.out _).drew, Lib.hid (RowB.ext HSTEP.out (Ext.refl _).drew)⟩, by simp [intOf]; omega⟩
              · obtain rfl : k = na := by omega
                obtain ⟨ys, hys⟩ : ∃ ys, xs.map clipR = ys := ⟨_, rfl⟩
                have HQY := Lib.hid (show QRow wr g ys from by have h := HQ.out; rwa [clipK_all HNA.out, hys] at h)
                have hny : ys.length = k := by rw [← hys, List.length_map, HNA.out]
                have HNY := Lib.hid hny
                have HY5 := Lib.hid (show ∀ p ∈ ys, 0 ≤ p.1 ∧ p.2 ≤ 5000 from fun p hp => by
                  rw [← hys] at hp
                  obtain ⟨q, -, rfl⟩ := List.mem_map.1 hp
                  unfold clipR
                  simp only
                  omega)
                have HRI := Lib.hid (show RIn wr (.slice (some ⟨g, 0, none⟩) k cap2) ys from by have h := QRow.rin HQY.out (cap := cap2) (by rw [hny]; exact hc2); rwa [hny] at h)
                have HXW := Lib.hid hX
                have HFM := Lib.hid (format_any HRI.out (by rw [hny]; omega) (HP.out.ext hX))
                clear hys hny hX HQ
                cases hok : okL ys with
                | false =>
                  rw [hok] at HFM
                  clear hok
                  go_wp2_with (go_at_call 6; refine HFM.out.mono ?_; rintro e w3 ⟨rfl, hx3⟩)
                  go_ret
                  exact ⟨rfl, HXW.out.trans hx3⟩
                | true =>
                  rw [hok] at HFM
                  have HOK := Lib.hid hok
                  clear hok
                  obtain ⟨tx, htx⟩ : ∃ y, bs (pfxL ++ fmtL ys) = y := ⟨_, rfl⟩
                  have HTX := Lib.hid htx
                  rw [htx] at HFM
                  clear htx
                  go_upto_region 12 with (go_at_call 6; refine HFM.out.mono ?_; rintro e w3 ⟨rfl, hx3⟩)
                  have HX3 := Lib.hid (HXW.out.trans hx3)
                  have HQ3 := Lib.hid (RowB.ext HQY.out hx3)
                  have HRI3 := Lib.hid (HRI.out.ext hx3)
                  clear hx3 HFM
                  have hw255 : wrap64 ((n : Int) + 255) = (n : Int) + 255 := by unfold wrap64; omega
                  obtain ⟨m, hm⟩ : ∃ m, P20.npc n = m := ⟨_, rfl⟩
                  have hmd : (((n : Int) + 255).tdiv 256) = (m : Int) := by rw [← hm, Int.tdiv_eq_ediv_of_nonneg (by omega)]; unfold P20.npc; omega
                  have hm8 : m ≤ 8 := by rw [← hm]; unfold P20.npc; omega
                  have HMM := Lib.hid hm
                  clear hm
                  go_upto_region 13 with (go_at_call 7; refine (P20.new_ok ⟨#[116]⟩ n (by omega) w3 (fun _ => False) (fun _ h => h.elim)).mono ?_; rintro e w4 ⟨b, l, rfl, hx4, hba⟩)
                  have HL4 : Hid (l < w4.heap.size) := Lib.hid (by obtain ⟨fr, hf, -⟩ := hba.row; exact hf.lt)
                  have HBA4 := Lib.hid hba
                  have HX34 := Lib.hid hx4
                  clear hba hx4
                  go_upto_region 14 with (go_at_call 7; refine (P20.new_ok ⟨#[116]⟩ n (by omega) w4 (fun k => k = l) (fun k hk => hk ▸ HL4.out)).mono ?_; rintro e w5 ⟨b', l', rfl, hx5, hbb⟩)
                  have HBA5 := Lib.hid ((HBA4.out.avoid (fun k => k = l') (fun k hk => .inl (hk ▸ hbb.hl))).ext hx5)
                  have HBB5 := Lib.hid hbb
                  have HX35 := Lib.hid (HX34.out.trans hx5)
                  have HXW5 := Lib.hid (HX3.out.trans HX35.out)
                  have HLL := Lib.hid (show l' < w5.heap.size from by obtain ⟨fr, hf, -⟩ := hbb.row; exact hf.lt)
                  have HL5 := Lib.hid (Nat.lt_of_lt_of_le HL4.out hx5.size)
                  have HB34 := Lib.hid HX34.out.size
                  have hmk := run_make_row' (P := Tryz.prog) 35 4 (.bool false) 1 Tryz.underlying35 (by kernel_rfl) rfl .i64 .i64 m (by omega) (by omega) w5
                  clear hbb hx5
                  have hmade := World.rowIs_made w5 (.bool false) m 4
                  obtain ⟨w6, hw6⟩ : ∃ x, w5.alloc (.cells (madeCells #[Value.bool false] m) 4) = x := ⟨_, rfl⟩
                  have X56 : Ext w5 w6 := by rw [← hw6]; exact (Ext.refl w5).alloc _
                  rw [hw6] at hmk hmade
                  have HPS : Hid (∃ D E th, P20.Pst w3 w6 t n m b l b' l' w3.heap.size w4.heap.size w5.heap.size D E th) := Lib.hid ⟨fun _ => none, fun _ => none, fun _ => false, by
                    refine ⟨(HBA5.out.avoid (fun k => k = l' ∨ k = w5.heap.size) (fun k hk => ?_)).ext X56, (HBB5.out.avoid (fun k => k = l ∨ k = w5.heap.size) (fun k hk => ?_)).ext X56, P20.Fit.none_ t, P20.Fit.none_ t, hmade, fun i _ => rfl, Ext.trans HX35.out X56⟩
                    · rcases hk with e | e
                      · exact .inr (.inr e)
                      · exact .inl (by omega)
                    · rcases hk with e | e
                      · exact .inr (.inr e)
                      · exact .inl (by omega)⟩
                  have HQB := Lib.hid (show w3.heap.size ≤ w5.heap.size from HX35.out.size)
                  clear hw6 hmade X56
                  obtain ⟨q, hq⟩ : ∃ q, w5.heap.size = q := ⟨_, rfl⟩
                  have HQQ := Lib.hid hq
                  rw [hq] at hmk HPS HQB
                  go_upto_region 19 with fail
                  try rw [hq]
                  clear hmk hq
                  go_loopw [129] (fun i wr => ∃ sd : Nat, sd ≤ 2 ∧ i = .int .i64 sd ∧ Hid (∃ D E th, P20.Pst w3 wr t n m b l b' l' w3.heap.size w4.heap.size q D E th)) (fun i _ => 2 - (intOf i).toNat)
                  case atStart => exact ⟨0, by omega, rfl, HPS⟩
                  case round =>
                    obtain ⟨sd, hsd, rfl, HS⟩ := hrel
                    by_cases hlt : sd < 2
                    · have hsd2 : sd = 0 ∨ sd = 1 := by omega
                      rcases hsd2 with rfl | rfl
                      · as_aux_lemma =>
                        rw [show ((0 : Nat) : Int) = 0 from rfl]
                        have hix := ix_l0 (.slice Ao no co) (.slice At nt ct)
                        go_upto_region 21 with fail
                        clear hix
                        generalize wr = wo at *
                        go_wp2_with fail
                        go_loopw [135] (fun i wx => ∃ j : Nat, j ≤ no ∧ i = .int .i64 j ∧ Hid (∃ D E th, P20.Pst w3 wx t n m b l b' l' w3.heap.size w4.heap.size q D E th)) (fun i _ => no - (intOf i).toNat)
                        case atStart => exact ⟨0, by omega, rfl, HS⟩
                        case round =>
                          obtain ⟨j, hj, rfl, HI⟩ := hrel
                          by_cases hl2 : j < no
                          · have hji : (j : Int) < (no : Int) := by omega
                            have hj6 : (j : Int) < 21 := by omega
                            have hjc : j < co := by omega
                            obtain ⟨a, rfl, hg⟩ := HO.out.at (by omega)
                            obtain ⟨x, hx⟩ : ∃ x, os[j]? = some x := ⟨_, List.getElem?_eq_getElem (by rw [HNO.out]; exact hl2)⟩
                            obtain ⟨D, E, th, hp⟩ := HI.out
                            have c0 := (show Ext w _ from Ext.trans HX3.out hp.bel).cell (hg j x hx)
                            have hx8 : x < 256 := HOS.out x (List.mem_of_getElem? hx)
                            have HPT := Lib.hid hp
                            clear hg hx hp
                            by_cases hm0 : m = 0
                            · have hm0' : ((m : Int) == 0) = true := by simp [hm0]
                              have HM0 := Lib.hid hm0
                              clear hm0
                              go_wp2_with fail
                              exact ⟨⟨1, by omega, rfl, HI⟩, by decide⟩
                            · have hm0' : ((m : Int) == 0) = false := by simp [hm0]
                              have hmm0 : ¬ (m : Int) = 0 := by omega
                              have hx5 : ((x : Int).tmod (m : Int)) = ((x % m : Nat) : Int) := by rw [Int.tmod_eq_emod_of_nonneg (by omega)]; rfl
                              obtain ⟨ii, hii⟩ : ∃ ii, x % m = ii := ⟨_, rfl⟩
                              have hi2 : ii < m := by rw [← hii]; exact Nat.mod_lt _ (by omega)
                              rw [hii] at hx5
                              have hi8 : ii ≤ 8 := by omega
                              have r0 := HPT.out.row.cell hi2
                              have r1 := HPT.out.row.frozen ii
                              have hnpos : 256 * ii < n := by have := HMM.out; unfold P20.npc at this; omega
                              obtain ⟨gb, ob, rfl, hgb, hby⟩ := HB.out.at (by omega)
                              have HBY := Lib.hid (And.intro hgb hby)
                              have hw1 : wrap64 (256 * (ii : Int)) = 256 * (ii : Int) := by unfold wrap64; omega
                              have hw2 : wrap64 (256 * (ii : Int) + 256) = 256 * (ii : Int) + 256 := by unfold wrap64; omega
                              have HV1 := Lib.hid (show IntKind.i64.wrap (256 * (ii : Int)) = 256 * (ii : Int) by rw [IntKind.wrap_i64]; omega)
                              have HV2 := Lib.hid (show IntKind.i64.wrap (256 * (ii : Int) + 256) = 256 * (ii : Int) + 256 by rw [IntKind.wrap_i64]; omega)
                              have HII := Lib.hid hii
                              clear hii hgb hby
                              go_upto_region 27 with fail
                              clear c0 r0 r1
                              refine wp_region_C (C := fun _ => True) (by kernel_rfl) ?_
                              have hixb := ix_b0 (.pointer (some ⟨b, 0, none⟩)) (.pointer (some ⟨b', 0, none⟩))
                              refine wpAnyC_take (i := 0) (v := .pointer (some ⟨b, 0, none⟩)) rfl (by kernel_rfl) (by kernel_rfl) (by kernel_rfl) (fun _ _ _ h => h) trivial (by kernel_rfl) ?_ ?_
                              · intro W _; go_simp; try (first | (with_reducible rfl) | exact HV1.out | exact HV2.out)
                              change wpAnyC _ _ _ _ _ _ _ (Act.put _ (some 148) (.pointer (some ⟨b, 0, none⟩))) _
                              try simp only [Act.put, List.setIfInBounds_toArray, List.set_cons_succ, List.set_cons_zero]
                              refine wpAnyC_take (i := 1) (v := .pointer (some ⟨b', 0, none⟩)) rfl (by kernel_rfl) (by kernel_rfl) (by kernel_rfl) (fun _ _ _ h => h) trivial (by kernel_rfl) ?_ ?_
                              · intro W _; go_simp; try (first | (with_reducible rfl) | exact HV1.out | exact HV2.out)
                              change wpAnyC _ _ _ _ _ _ _ (Act.put _ (some 149) (.pointer (some ⟨b', 0, none⟩))) _
                              try simp only [Act.put, List.setIfInBounds_toArray, List.set_cons_succ, List.set_cons_zero]
                              refine wpAnyC_take (i := 2) (v := (.agg #[.pointer (some ⟨b, 0, none⟩), .pointer (some ⟨b', 0, none⟩)])) rfl (by kernel_rfl) (by kernel_rfl) (by kernel_rfl) (fun _ _ _ h => h) trivial (by kernel_rfl) ?_ ?_
                              · intro W _; go_simp; try (first | (with_reducible rfl) | exact HV1.out | exact HV2.out)
                              change wpAnyC _ _ _ _ _ _ _ (Act.put _ (some 150) ((.agg #[.pointer (some ⟨b, 0, none⟩), .pointer (some ⟨b', 0, none⟩)]))) _
                              try simp only [Act.put, List.setIfInBounds_toArray, List.set_cons_succ, List.set_cons_zero]
                              refine wpAnyC_take (i := 3) (v := .int .i64 0) rfl (by kernel_rfl) (by kernel_rfl) (by kernel_rfl) (fun _ _ _ h => h) trivial (by kernel_rfl) ?_ ?_
                              · intro W _; go_simp; try (first | (with_reducible rfl) | exact HV1.out | exact HV2.out)
                              change wpAnyC _ _ _ _ _ _ _ (Act.put _ (some 151) (.int .i64 0)) _
                              try simp only [Act.put, List.setIfInBounds_toArray, List.set_cons_succ, List.set_cons_zero]
                              refine wpAnyC_take (i := 4) (v := .pointer (some ⟨b, 0, none⟩)) rfl (by kernel_rfl) (by kernel_rfl) (by kernel_rfl) (fun _ _ _ h => h) trivial (by kernel_rfl) ?_ ?_
                              · intro W _; go_simp; try (first | (with_reducible rfl) | exact HV1.out | exact HV2.out)
                              change wpAnyC _ _ _ _ _ _ _ (Act.put _ (some 152) (.pointer (some ⟨b, 0, none⟩))) _
                              try simp only [Act.put, List.setIfInBounds_toArray, List.set_cons_succ, List.set_cons_zero]
                              refine wpAnyC_take (i := 5) (v := .int .i64 ii) rfl (by kernel_rfl) (by kernel_rfl) (by kernel_rfl) (fun _ _ _ h => h) trivial (by kernel_rfl) ?_ ?_
                              · intro W _; go_simp; try (first | (with_reducible rfl) | exact HV1.out | exact HV2.out)
                              change wpAnyC _ _ _ _ _ _ _ (Act.put _ (some 153) (.int .i64 ii)) _
                              try simp only [Act.put, List.setIfInBounds_toArray, List.set_cons_succ, List.set_cons_zero]
                              refine wpAnyC_take (i := 6) (v := .slice (some ⟨gb, ob, none⟩) n cb) rfl (by kernel_rfl) (by kernel_rfl) (by kernel_rfl) (fun _ _ _ h => h) trivial (by kernel_rfl) ?_ ?_
                              · intro W _; go_simp; try (first | (with_reducible rfl) | exact HV1.out | exact HV2.out)
                              change wpAnyC _ _ _ _ _ _ _ (Act.put _ (some 154) (.slice (some ⟨gb, ob, none⟩) n cb)) _
                              try simp only [Act.put, List.setIfInBounds_toArray, List.set_cons_succ, List.set_cons_zero]
                              refine wpAnyC_take (i := 7) (v := .int .i64 ii) rfl (by kernel_rfl) (by kernel_rfl) (by kernel_rfl) (fun _ _ _ h => h) trivial (by kernel_rfl) ?_ ?_
                              · intro W _; go_simp; try (first | (with_reducible rfl) | exact HV1.out | exact HV2.out)
                              change wpAnyC _ _ _ _ _ _ _ (Act.put _ (some 155) (.int .i64 ii)) _
                              try simp only [Act.put, List.setIfInBounds_toArray, List.set_cons_succ, List.set_cons_zero]
                              refine wpAnyC_take (i := 8) (v := .int .i64 (256 * (ii : Int))) rfl (by kernel_rfl) (by kernel_rfl) (by kernel_rfl) (fun _ _ _ h => h) trivial (by kernel_rfl) ?_ ?_
                              · intro W _; go_simp; try (first | (with_reducible rfl) | exact HV1.out | exact HV2.out)
                              change wpAnyC _ _ _ _ _ _ _ (Act.put _ (some 156) (.int .i64 (256 * (ii : Int)))) _
                              try simp only [Act.put, List.setIfInBounds_toArray, List.set_cons_succ, List.set_cons_zero]
                              refine wpAnyC_take (i := 9) (v := .int .i64 ii) rfl (by kernel_rfl) (by kernel_rfl) (by kernel_rfl) (fun _ _ _ h => h) trivial (by kernel_rfl) ?_ ?_
                              · intro W _; go_simp; try (first | (with_reducible rfl) | exact HV1.out | exact HV2.out)
                              change wpAnyC _ _ _ _ _ _ _ (Act.put _ (some 157) (.int .i64 ii)) _
                              try simp only [Act.put, List.setIfInBounds_toArray, List.set_cons_succ, List.set_cons_zero]
                              refine wpAnyC_take (i := 10) (v := .int .i64 (256 * (ii : Int))) rfl (by kernel_rfl) (by kernel_rfl) (by kernel_rfl) (fun _ _ _ h => h) trivial (by kernel_rfl) ?_ ?_
                              · intro W _; go_simp; try (first | (with_reducible rfl) | exact HV1.out | exact HV2.out)
                              change wpAnyC _ _ _ _ _ _ _ (Act.put _ (some 158) (.int .i64 (256 * (ii : Int)))) _
                              try simp only [Act.put, List.setIfInBounds_toArray, List.set_cons_succ, List.set_cons_zero]
                              refine wpAnyC_take (i := 11) (v := .int .i64 (256 * (ii : Int) + 256)) rfl (by kernel_rfl) (by kernel_rfl) (by kernel_rfl) (fun _ _ _ h => h) trivial (by kernel_rfl) ?_ ?_
                              · intro W _; go_simp; try (first | (with_reducible rfl) | exact HV1.out | exact HV2.out)
                              change wpAnyC _ _ _ _ _ _ _ (Act.put _ (some 159) (.int .i64 (256 * (ii : Int) + 256))) _
                              try simp only [Act.put, List.setIfInBounds_toArray, List.set_cons_succ, List.set_cons_zero]
                              refine wpAnyC_take (i := 12) (v := .slice (some ⟨gb, ob, none⟩) n cb) rfl (by kernel_rfl) (by kernel_rfl) (by kernel_rfl) (fun _ _ _ h => h) trivial (by kernel_rfl) ?_ ?_
                              · intro W _; go_simp; try (first | (with_reducible rfl) | exact HV1.out | exact HV2.out)
                              change wpAnyC _ _ _ _ _ _ _ (Act.put _ (some 160) (.slice (some ⟨gb, ob, none⟩) n cb)) _
                              try simp only [Act.put, List.setIfInBounds_toArray, List.set_cons_succ, List.set_cons_zero]
                              refine wpAnyC_take (i := 13) (v := .int .i64 n) rfl (by kernel_rfl) (by kernel_rfl) (by kernel_rfl) (fun _ _ _ h => h) trivial (by kernel_rfl) ?_ ?_
                              · intro W _; go_simp; try (first | (with_reducible rfl) | exact HV1.out | exact HV2.out)
                              change wpAnyC _ _ _ _ _ _ _ (Act.put _ (some 161) (.int .i64 n)) _
                              try simp only [Act.put, List.setIfInBounds_toArray, List.set_cons_succ, List.set_cons_zero]
                              refine wpAnyC_take (i := 14) (v := .int .i64 (min (256 * (ii : Int) + 256) n)) rfl (by kernel_rfl) (by kernel_rfl) (by kernel_rfl) (fun _ _ _ h => h) trivial (by kernel_rfl) ?_ ?_
                              · intro W _; go_simp; try (first | (with_reducible rfl) | exact HV1.out | exact HV2.out)
                              change wpAnyC _ _ _ _ _ _ _ (Act.put _ (some 162) (.int .i64 (min (256 * (ii : Int) + 256) n))) _
                              try simp only [Act.put, List.setIfInBounds_toArray, List.set_cons_succ, List.set_cons_zero]
                              obtain ⟨sz, hsz⟩ : ∃ z, (P20.pcS t ii).size = z := ⟨_, rfl⟩
                              have hsz2 : (sz : Int) = min (256 * (ii : Int) + 256) n - 256 * (ii : Int) := by
                                rw [← hsz, P20.pcS_size t ii (by rw [HN.out]; omega), HN.out]; unfold P20.pto; omega
                              have hfl : ¬ cb = 256 * ii := by omega
                              have hmn : (min (256 * (ii : Int) + 256) (n : Int)) ≤ (cb : Int) := by omega
                              have hmn2 : 256 * (ii : Int) ≤ min (256 * (ii : Int) + 256) (n : Int) := by omega
                              refine wpAnyC_take (i := 15) (v := .slice (some ⟨gb, ob + ii * 256, none⟩) sz (cb - ii * 256)) rfl (by kernel_rfl) (by kernel_rfl) (by kernel_rfl) (fun _ _ _ h => h) trivial (by kernel_rfl) ?_ ?_
                              · intro W _
                                go_simp
                                rw [if_pos (by omega), if_pos (by omega), if_neg (by omega), show (256 * (ii : Int)).toNat = ii * 256 by omega, show (min (256 * (ii : Int) + 256) (n : Int)).toNat - ii * 256 = sz by omega]
                              change wpAnyC _ _ _ _ _ _ _ (Act.put _ (some 163) (.slice (some ⟨gb, ob + ii * 256, none⟩) sz (cb - ii * 256))) _
                              try simp only [Act.put, List.setIfInBounds_toArray, List.set_cons_succ, List.set_cons_zero]
                              refine wpAnyC_one 16 (by kernel_rfl) rfl (by kernel_rfl) (fun KK hKK => ?_)
                              go_simp
                              have hst := HPT.out.store HQB.out ii
                              have XDR : Ext (wr.setCell ⟨q, ii, none⟩ (.bool true)) (wr.setCell ⟨q, ii, none⟩ (.bool true)).drew := (Ext.refl _).drew
                              have HPF := Lib.hid (P20.put_fit (hst.1.ext XDR) HPT.out.fd HN.out (by omega) ii (by rw [HMM.out]; exact hi2) gb (ob + ii * 256) (cb - ii * 256) (BIn.piece (fun y hy => by
                                have hlt : gb < w3.heap.size := Nat.lt_of_lt_of_le HBY.out.1 HX3.out.size
                                exact (Below.cell hst.2.2.2 (p := ⟨gb, ob + y, none⟩) hlt).trans (HX3.out.cell (HBY.out.2 y hy))) HN.out (by rw [HMM.out]; exact hi2)) (fun z hz => by
                                  have := HPT.out.lts
                                  rcases hz with rfl | rfl <;> simp <;> omega))
                              rw [hsz] at HPF
                              refine HPF.out.mono ?_
                              rintro e w7 ⟨rfl, hb7, hk7, hba7⟩
                              have HP7 := Lib.hid (HPT.out.put_a HQB.out hi2 (Below.trans (Below.drew (Below.refl _ _)) hb7) ((P20.Kept.of_ext l XDR).trans hk7) hba7)
                              refine hKK _ _ trivial ?_
                              clear hKK KK
                              try simp only [Act.put, List.setIfInBounds_toArray, List.set_cons_succ, List.set_cons_zero]
                              refine wpAnyC_take (i := 17) (v := .bool false) rfl (by kernel_rfl) (by kernel_rfl) (by kernel_rfl) (fun _ _ _ h => h) trivial (by kernel_rfl) ?_ ?_
                              · intro W _; go_simp; try (with_reducible rfl)
                              change wpAnyC _ _ _ _ _ _ _ (Act.put _ (some 165) (.bool false)) _
                              try simp only [Act.put, List.setIfInBounds_toArray, List.set_cons_succ, List.set_cons_zero]
                              refine ⟨by kernel_rfl, ?_⟩
                              go_wp2_with fail
                              exact ⟨⟨j + 1, by omega, by go_num, Lib.hid ⟨_, _, _, HP7.out⟩⟩, by simp [intOf]; omega⟩
                          · obtain rfl : j = no := by omega
                            go_wp2_with fail
                            exact ⟨⟨1, by omega, rfl, HI⟩, by decide⟩
                      · as_aux_lemma =>
                        rw [show ((1 : Nat) : Int) = 1 from rfl]
                        have hix := ix_l1 (.slice Ao no co) (.slice At nt ct)
                        go_upto_region 21 with fail
                        clear hix
                        generalize wr = wo at *
                        go_wp2_with fail
                        go_loopw [135] (fun i wx => ∃ j : Nat, j ≤ nt ∧ i = .int .i64 j ∧ Hid (∃ D E th, P20.Pst w3 wx t n m b l b' l' w3.heap.size w4.heap.size q D E th)) (fun i _ => nt - (intOf i).toNat)
                        case atStart => exact ⟨0, by omega, rfl, HS⟩
                        case round =>
                          obtain ⟨j, hj, rfl, HI⟩ := hrel
                          by_cases hl2 : j < nt
                          · have hji : (j : Int) < (nt : Int) := by omega
                            have hj6 : (j : Int) < 21 := by omega
                            have hjc : j < ct := by omega
                            obtain ⟨a, rfl, hg⟩ := HT.out.at (by omega)
                            obtain ⟨x, hx⟩ : ∃ x, ts[j]? = some x := ⟨_, List.getElem?_eq_getElem (by rw [HNT.out]; exact hl2)⟩
                            obtain ⟨D, E, th, hp⟩ := HI.out
                            have c0 := (show Ext w _ from Ext.trans HX3.out hp.bel).cell (hg j x hx)
                            have hx8 : x < 256 := HTS.out x (List.mem_of_getElem? hx)
                            have HPT := Lib.hid hp
                            clear hg hx hp
                            by_cases hm0 : m = 0
                            · have hm0' : ((m : Int) == 0) = true := by simp [hm0]
                              have HM0 := Lib.hid hm0
                              clear hm0
                              go_wp2_with fail
                              exact ⟨⟨2, by omega, rfl, HI⟩, by decide⟩
                            · have hm0' : ((m : Int) == 0) = false := by simp [hm0]
                              have hmm0 : ¬ (m : Int) = 0 := by omega
                              have hx5 : ((x : Int).tmod (m : Int)) = ((x % m : Nat) : Int) := by rw [Int.tmod_eq_emod_of_nonneg (by omega)]; rfl
                              obtain ⟨ii, hii⟩ : ∃ ii, x % m = ii := ⟨_, rfl⟩
                              have hi2 : ii < m := by rw [← hii]; exact Nat.mod_lt _ (by omega)
                              rw [hii] at hx5
                              have hi8 : ii ≤ 8 := by omega
                              have r0 := HPT.out.row.cell hi2
                              have r1 := HPT.out.row.frozen ii
                              have hnpos : 256 * ii < n := by have := HMM.out; unfold P20.npc at this; omega
                              obtain ⟨gb, ob, rfl, hgb, hby⟩ := HB.out.at (by omega)
                              have HBY := Lib.hid (And.intro hgb hby)
                              have hw1 : wrap64 (256 * (ii : Int)) = 256 * (ii : Int) := by unfold wrap64; omega
                              have hw2 : wrap64 (256 * (ii : Int) + 256) = 256 * (ii : Int) + 256 := by unfold wrap64; omega
                              have HV1 := Lib.hid (show IntKind.i64.wrap (256 * (ii : Int)) = 256 * (ii : Int) by rw [IntKind.wrap_i64]; omega)
                              have HV2 := Lib.hid (show IntKind.i64.wrap (256 * (ii : Int) + 256) = 256 * (ii : Int) + 256 by rw [IntKind.wrap_i64]; omega)
                              have HII := Lib.hid hii
                              clear hii hgb hby
                              go_upto_region 27 with fail
                              clear c0 r0 r1
                              refine wp_region_C (C := fun _ => True) (by kernel_rfl) ?_
                              have hixb := ix_b1 (.pointer (some ⟨b, 0, none⟩)) (.pointer (some ⟨b', 0, none⟩))
                              refine wpAnyC_take (i := 0) (v := .pointer (some ⟨b, 0, none⟩)) rfl (by kernel_rfl) (by kernel_rfl) (by kernel_rfl) (fun _ _ _ h => h) trivial (by kernel_rfl) ?_ ?_
                              · intro W _; go_simp; try (first | (with_reducible rfl) | exact HV1.out | exact HV2.out)
                              change wpAnyC _ _ _ _ _ _ _ (Act.put _ (some 148) (.pointer (some ⟨b, 0, none⟩))) _
                              try simp only [Act.put, List.setIfInBounds_toArray, List.set_cons_succ, List.set_cons_zero]
                              refine wpAnyC_take (i := 1) (v := .pointer (some ⟨b', 0, none⟩)) rfl (by kernel_rfl) (by kernel_rfl) (by kernel_rfl) (fun _ _ _ h => h) trivial (by kernel_rfl) ?_ ?_
                              · intro W _; go_simp; try (first | (with_reducible rfl) | exact HV1.out | exact HV2.out)
                              change wpAnyC _ _ _ _ _ _ _ (Act.put _ (some 149) (.pointer (some ⟨b', 0, none⟩))) _
                              try simp only [Act.put, List.setIfInBounds_toArray, List.set_cons_succ, List.set_cons_zero]
                              refine wpAnyC_take (i := 2) (v := (.agg #[.pointer (some ⟨b, 0, none⟩), .pointer (some ⟨b', 0, none⟩)])) rfl (by kernel_rfl) (by kernel_rfl) (by kernel_rfl) (fun _ _ _ h => h) trivial (by kernel_rfl) ?_ ?_
                              · intro W _; go_simp; try (first | (with_reducible rfl) | exact HV1.out | exact HV2.out)
                              change wpAnyC _ _ _ _ _ _ _ (Act.put _ (some 150) ((.agg #[.pointer (some ⟨b, 0, none⟩), .pointer (some ⟨b', 0, none⟩)]))) _
                              try simp only [Act.put, List.setIfInBounds_toArray, List.set_cons_succ, List.set_cons_zero]
                              refine wpAnyC_take (i := 3) (v := .int .i64 1) rfl (by kernel_rfl) (by kernel_rfl) (by kernel_rfl) (fun _ _ _ h => h) trivial (by kernel_rfl) ?_ ?_
                              · intro W _; go_simp; try (first | (with_reducible rfl) | exact HV1.out | exact HV2.out)
                              change wpAnyC _ _ _ _ _ _ _ (Act.put _ (some 151) (.int .i64 1)) _
                              try simp only [Act.put, List.setIfInBounds_toArray, List.set_cons_succ, List.set_cons_zero]
                              refine wpAnyC_take (i := 4) (v := .pointer (some ⟨b', 0, none⟩)) rfl (by kernel_rfl) (by kernel_rfl) (by kernel_rfl) (fun _ _ _ h => h) trivial (by kernel_rfl) ?_ ?_
                              · intro W _; go_simp; try (first | (with_reducible rfl) | exact HV1.out | exact HV2.out)
                              change wpAnyC _ _ _ _ _ _ _ (Act.put _ (some 152) (.pointer (some ⟨b', 0, none⟩))) _
                              try simp only [Act.put, List.setIfInBounds_toArray, List.set_cons_succ, List.set_cons_zero]
                              refine wpAnyC_take (i := 5) (v := .int .i64 ii) rfl (by kernel_rfl) (by kernel_rfl) (by kernel_rfl) (fun _ _ _ h => h) trivial (by kernel_rfl) ?_ ?_
                              · intro W _; go_simp; try (first | (with_reducible rfl) | exact HV1.out | exact HV2.out)
                              change wpAnyC _ _ _ _ _ _ _ (Act.put _ (some 153) (.int .i64 ii)) _
                              try simp only [Act.put, List.setIfInBounds_toArray, List.set_cons_succ, List.set_cons_zero]
                              refine wpAnyC_take (i := 6) (v := .slice (some ⟨gb, ob, none⟩) n cb) rfl (by kernel_rfl) (by kernel_rfl) (by kernel_rfl) (fun _ _ _ h => h) trivial (by kernel_rfl) ?_ ?_
                              · intro W _; go_simp; try (first | (with_reducible rfl) | exact HV1.out | exact HV2.out)
                              change wpAnyC _ _ _ _ _ _ _ (Act.put _ (some 154) (.slice (some ⟨gb, ob, none⟩) n cb)) _
                              try simp only [Act.put, List.setIfInBounds_toArray, List.set_cons_succ, List.set_cons_zero]
                              refine wpAnyC_take (i := 7) (v := .int .i64 ii) rfl (by kernel_rfl) (by kernel_rfl) (by kernel_rfl) (fun _ _ _ h => h) trivial (by kernel_rfl) ?_ ?_
                              · intro W _; go_simp; try (first | (with_reducible rfl) | exact HV1.out | exact HV2.out)
                              change wpAnyC _ _ _ _ _ _ _ (Act.put _ (some 155) (.int .i64 ii)) _
                              try simp only [Act.put, List.setIfInBounds_toArray, List.set_cons_succ, List.set_cons_zero]
                              refine wpAnyC_take (i := 8) (v := .int .i64 (256 * (ii : Int))) rfl (by kernel_rfl) (by kernel_rfl) (by kernel_rfl) (fun _ _ _ h => h) trivial (by kernel_rfl) ?_ ?_
                              · intro W _; go_simp; try (first | (with_reducible rfl) | exact HV1.out | exact HV2.out)
                              change wpAnyC _ _ _ _ _ _ _ (Act.put _ (some 156) (.int .i64 (256 * (ii : Int)))) _
                              try simp only [Act.put, List.setIfInBounds_toArray, List.set_cons_succ, List.set_cons_zero]
                              refine wpAnyC_take (i := 9) (v := .int .i64 ii) rfl (by kernel_rfl) (by kernel_rfl) (by kernel_rfl) (fun _ _ _ h => h) trivial (by kernel_rfl) ?_ ?_
                              · intro W _; go_simp; try (first | (with_reducible rfl) | exact HV1.out | exact HV2.out)
                              change wpAnyC _ _ _ _ _ _ _ (Act.put _ (some 157) (.int .i64 ii)) _
                              try simp only [Act.put, List.setIfInBounds_toArray, List.set_cons_succ, List.set_cons_zero]
                              refine wpAnyC_take (i := 10) (v := .int .i64 (256 * (ii : Int))) rfl (by kernel_rfl) (by kernel_rfl) (by kernel_rfl) (fun _ _ _ h => h) trivial (by kernel_rfl) ?_ ?_
                              · intro W _; go_simp; try (first | (with_reducible rfl) | exact HV1.out | exact HV2.out)
                              change wpAnyC _ _ _ _ _ _ _ (Act.put _ (some 158) (.int .i64 (256 * (ii : Int)))) _
                              try simp only [Act.put, List.setIfInBounds_toArray, List.set_cons_succ, List.set_cons_zero]
                              refine wpAnyC_take (i := 11) (v := .int .i64 (256 * (ii : Int) + 256)) rfl (by kernel_rfl) (by kernel_rfl) (by kernel_rfl) (fun _ _ _ h => h) trivial (by kernel_rfl) ?_ ?_
                              · intro W _; go_simp; try (first | (with_reducible rfl) | exact HV1.out | exact HV2.out)
                              change wpAnyC _ _ _ _ _ _ _ (Act.put _ (some 159) (.int .i64 (256 * (ii : Int) + 256))) _
                              try simp only [Act.put, List.setIfInBounds_toArray, List.set_cons_succ, List.set_cons_zero]
                              refine wpAnyC_take (i := 12) (v := .slice (some ⟨gb, ob, none⟩) n cb) rfl (by kernel_rfl) (by kernel_rfl) (by kernel_rfl) (fun _ _ _ h => h) trivial (by kernel_rfl) ?_ ?_
                              · intro W _; go_simp; try (first | (with_reducible rfl) | exact HV1.out | exact HV2.out)
                              change wpAnyC _ _ _ _ _ _ _ (Act.put _ (some 160) (.slice (some ⟨gb, ob, none⟩) n cb)) _
                              try simp only [Act.put, List.setIfInBounds_toArray, List.set_cons_succ, List.set_cons_zero]
                              refine wpAnyC_take (i := 13) (v := .int .i64 n) rfl (by kernel_rfl) (by kernel_rfl) (by kernel_rfl) (fun _ _ _ h => h) trivial (by kernel_rfl) ?_ ?_
                              · intro W _; go_simp; try (first | (with_reducible rfl) | exact HV1.out | exact HV2.out)
                              change wpAnyC _ _ _ _ _ _ _ (Act.put _ (some 161) (.int .i64 n)) _
                              try simp only [Act.put, List.setIfInBounds_toArray, List.set_cons_succ, List.set_cons_zero]
                              refine wpAnyC_take (i := 14) (v := .int .i64 (min (256 * (ii : Int) + 256) n)) rfl (by kernel_rfl) (by kernel_rfl) (by kernel_rfl) (fun _ _ _ h => h) trivial (by kernel_rfl) ?_ ?_
                              · intro W _; go_simp; try (first | (with_reducible rfl) | exact HV1.out | exact HV2.out)
                              change wpAnyC _ _ _ _ _ _ _ (Act.put _ (some 162) (.int .i64 (min (256 * (ii : Int) + 256) n))) _
                              try simp only [Act.put, List.setIfInBounds_toArray, List.set_cons_succ, List.set_cons_zero]
                              obtain ⟨sz, hsz⟩ : ∃ z, (P20.pcS t ii).size = z := ⟨_, rfl⟩
                              have hsz2 : (sz : Int) = min (256 * (ii : Int) + 256) n - 256 * (ii : Int) := by
                                rw [← hsz, P20.pcS_size t ii (by rw [HN.out]; omega), HN.out]; unfold P20.pto; omega
                              have hfl : ¬ cb = 256 * ii := by omega
                              have hmn : (min (256 * (ii : Int) + 256) (n : Int)) ≤ (cb : Int) := by omega
                              have hmn2 : 256 * (ii : Int) ≤ min (256 * (ii : Int) + 256) (n : Int) := by omega
                              refine wpAnyC_take (i := 15) (v := .slice (some ⟨gb, ob + ii * 256, none⟩) sz (cb - ii * 256)) rfl (by kernel_rfl) (by kernel_rfl) (by kernel_rfl) (fun _ _ _ h => h) trivial (by kernel_rfl) ?_ ?_
                              · intro W _
                                go_simp
                                rw [if_pos (by omega), if_pos (by omega), if_neg (by omega), show (256 * (ii : Int)).toNat = ii * 256 by omega, show (min (256 * (ii : Int) + 256) (n : Int)).toNat - ii * 256 = sz by omega]
                              change wpAnyC _ _ _ _ _ _ _ (Act.put _ (some 163) (.slice (some ⟨gb, ob + ii * 256, none⟩) sz (cb - ii * 256))) _
                              try simp only [Act.put, List.setIfInBounds_toArray, List.set_cons_succ, List.set_cons_zero]
                              refine wpAnyC_one 16 (by kernel_rfl) rfl (by kernel_rfl) (fun KK hKK => ?_)
                              go_simp
                              have hst := HPT.out.store HQB.out ii
                              have XDR : Ext (wr.setCell ⟨q, ii, none⟩ (.bool true)) (wr.setCell ⟨q, ii, none⟩ (.bool true)).drew := (Ext.refl _).drew
                              have HPF := Lib.hid (P20.put_fit (hst.2.1.ext XDR) HPT.out.fe HN.out (by omega) ii (by rw [HMM.out]; exact hi2) gb (ob + ii * 256) (cb - ii * 256) (BIn.piece (fun y hy => by
                                have hlt : gb < w3.heap.size := Nat.lt_of_lt_of_le HBY.out.1 HX3.out.size
                                exact (Below.cell hst.2.2.2 (p := ⟨gb, ob + y, none⟩) hlt).trans (HX3.out.cell (HBY.out.2 y hy))) HN.out (by rw [HMM.out]; exact hi2)) (fun z hz => by
                                  have := HPT.out.lts
                                  rcases hz with rfl | rfl <;> simp <;> omega))
                              rw [hsz] at HPF
                              refine HPF.out.mono ?_
                              rintro e w7 ⟨rfl, hb7, hk7, hba7⟩
                              have HP7 := Lib.hid (HPT.out.put_b HQB.out HB34.out hi2 (Below.trans (Below.drew (Below.refl _ _)) hb7) ((P20.Kept.of_ext l' XDR).trans hk7) hba7)
                              refine hKK _ _ trivial ?_
                              clear hKK KK
                              try simp only [Act.put, List.setIfInBounds_toArray, List.set_cons_succ, List.set_cons_zero]
                              refine wpAnyC_take (i := 17) (v := .bool false) rfl (by kernel_rfl) (by kernel_rfl) (by kernel_rfl) (fun _ _ _ h => h) trivial (by kernel_rfl) ?_ ?_
                              · intro W _; go_simp; try (with_reducible rfl)
                              change wpAnyC _ _ _ _ _ _ _ (Act.put _ (some 165) (.bool false)) _
                              try simp only [Act.put, List.setIfInBounds_toArray, List.set_cons_succ, List.set_cons_zero]
                              refine ⟨by kernel_rfl, ?_⟩
                              go_wp2_with fail
                              exact ⟨⟨j + 1, by omega, by go_num, Lib.hid ⟨_, _, _, HP7.out⟩⟩, by simp [intOf]; omega⟩
                          · obtain rfl : j = nt := by omega
                            go_wp2_with fail
                            exact ⟨⟨2, by omega, rfl, HI⟩, by decide⟩
                    · obtain rfl : sd = 2 := by omega
                      obtain ⟨D, E, th, hp⟩ := HS.out
                      have HPT := Lib.hid hp
                      clear hp
                      have HJN := Lib.hid (P20.join_ok HPT.out.ba HPT.out.bb (fun z hz => by
                        have := HPT.out.lts
                        rcases hz with rfl | rfl <;> omega) (.inl rfl) (by omega) (by rw [ByteArray.toList_eq]; rfl) (HPT.out.fe.ok HN.out) (fun i _ s s' h1 h2 => HPT.out.fd.same HPT.out.fe i s s' h1 h2))
                      go_upto_region 33 with (go_at_call 9; refine HJN.out.mono ?_; rintro e w7 ⟨rfl, hb7, hk7, hba7, -⟩)
                      obtain ⟨J, hJ⟩ : ∃ J, P20.jn D E = J := ⟨_, rfl⟩
                      have HFJ := Lib.hid (show P20.Fit t J from hJ ▸ HPT.out.fd.jn HPT.out.fe)
                      have HBJ := Lib.hid (show P20.BodyAt w7 w3.heap.size (fun k => k = l' ∨ k = q) b l ⟨#[116]⟩ n J from hJ ▸ hba7)
                      have HTH := Lib.hid (show w7.rowIs q 4 m (fun i => .bool (th i)) from HPT.out.row.of_block (hk7.2 q HPT.out.lts.2.2.1 (fun e => HPT.out.lts.2.2.2.1 e.symm)))
                      have HLK := Lib.hid (show ∀ i, i < m → th i = (J i).isSome from fun i hi => by rw [HPT.out.lk i hi, ← hJ, P20.jn_some])
                      have HX37 := Lib.hid (show Ext w3 w7 from HPT.out.bel.trans hb7)
                      have HX7 := Lib.hid (Ext.trans HX3.out HX37.out)
                      clear hJ hba7 hk7 hb7 HJN HPT HS
                      have hy8 : ys.length ≤ 8 := by rw [HNY.out]; omega
                      obtain ⟨hne, hall⟩ := okL_true HOK.out
                      have HALL := Lib.hid hall
                      have htz : tx.size ≤ 90000 := by
                        rw [← HTX.out, bs_size, List.length_append]
                        have h1 := fmt_length ys hall
                        have h3 : pfxL.length = 6 := rfl
                        omega
                      have HPF := Lib.hid (show parseF tx n = if (cutR n ys).length = 0 then ([], 1) else (cutR n ys, 0) from by rw [← HTX.out]; exact fmt_cut ys n hne hy8 (by omega) hall)
                      have HPA := Lib.hid (parse_in tx n (by omega) htz w7 (HM.out.ext HX7.out))
                      rw [HPF.out] at HPA
                      clear hne hall htz hy8
                      by_cases hc : (cutR n ys).length = 0
                      · rw [if_pos hc] at HPA
                        have HNO4 := Lib.hid (cut_none hc)
                        clear hc
                        go_upto_region 35 with (go_at_call 10; refine HPA.out.mono ?_; rintro e w8 ⟨⟨v8, ev8, rfl, hv8, hev⟩, hx8⟩; obtain rfl : ev8 = errV 1 := hev)
                        have HQ8 := Lib.hid (show QRow w8 g ys from RowB.ext HQ3.out (Ext.trans HX37.out hx8))
                        have HX8 := Lib.hid (Ext.trans HX7.out hx8)
                        clear hx8 hv8
                        generalize wr = wo at *
                        go_wp2_with fail
                        go_loopw [183] (fun i wr => ∃ j : Nat, j ≤ k ∧ i = .int .i64 j ∧ Ext w8 wr) (fun i _ => k - (intOf i).toNat)
                        case atStart => exact ⟨0, by omega, rfl, Ext.refl _⟩
                        case round =>
                          obtain ⟨j, hj, rfl, hX⟩ := hrel
                          by_cases hlj : j < k
                          · have hji : (j : Int) < (k : Int) := by omega
                            have hj6 : (j : Int) < 9 := by omega
                            have hjc : j < cap2 := by omega
                            obtain ⟨⟨f, u⟩, hp⟩ : ∃ r, ys[j]? = some r := ⟨_, List.getElem?_eq_getElem (by rw [HNY.out]; exact hlj)⟩
                            have hcl := QRow.at (RowB.ext HQ8.out hX) hp
                            have e0 := hcl.1
                            have e1 := hcl.2
                            have hnl : ¬ f < min u (n : Int) := by have := HNO4.out (f, u) (List.mem_of_getElem? hp); simp only at this; omega
                            simp only at e0 e1
                            clear hcl hp
                            go_wp2_with fail
                            go_roundw
                            case rel => exact ⟨j + 1, by omega, by go_num, hX.alloc _⟩
                            case measure => first | (simp [intOf]; omega) | omega
                          · obtain rfl : j = k := by omega
                            go_wp2_with fail
                            go_ret
                            exact ⟨rfl, Ext.trans HX8.out hX⟩
                      · as_aux_lemma =>
                        rw [if_neg hc] at HPA
                        go_upto_region 42 with (go_at_call 10; refine HPA.out.mono ?_; rintro e w8 ⟨⟨v8, ev8, rfl, hv8, hev⟩, hx8⟩; obtain rfl : ev8 = .nilIface := hev)
                        obtain ⟨ps, hps⟩ : ∃ ps, cutR n ys = ps := ⟨_, rfl⟩
                        rw [hps] at hv8 hc
                        have HPP : Hid (∀ p ∈ ps, 0 ≤ p.1 ∧ p.1 < p.2 ∧ p.2 ≤ (n : Int)) := Lib.hid (fun p hp => by
                          rw [← hps] at hp
                          obtain ⟨q, hq, e, hlt⟩ := cut_mem hp
                          have h5 := HY5.out q hq
                          subst e
                          simp only at hlt ⊢
                          omega)
                        obtain ⟨np, hnp⟩ : ∃ np, ps.length = np := ⟨_, rfl⟩
                        have hnp8 : np ≤ 8 := by rw [← hnp, ← hps]; have := cut_length n ys; rw [HNY.out] at this; omega
                        have HNP := Lib.hid hnp
                        have hn0 : 0 < n := by
                          obtain ⟨p, hp⟩ := List.exists_mem_of_length_pos (by omega : 0 < ps.length)
                          have := HPP.out p hp
                          omega
                        have HPSE := Lib.hid hps
                        have HV8 := Lib.hid hv8
                        obtain ⟨g8, cap8, rfl, hcl8⟩ : ∃ g8 cap8, v8 = .slice (some ⟨g8, 0, none⟩) np cap8 ∧ ∀ i e, ps[i]? = some e → ∀ j u, (rcs2 e)[j]? = some u → w8.cell? ⟨g8, i * 2 + j, none⟩ = some u := by
                          rcases hv8.1 with ⟨_, e⟩ | ⟨g, cap, e, hg⟩
                          · rw [e] at hc; exact absurd rfl hc
                          · exact ⟨g, cap, by rw [e, hnp], hg⟩
                        have hcap8 : np ≤ cap8 := by
                          obtain ⟨A, cap, e, hle⟩ := hv8.2
                          injection e with e1 e2 e3
                          omega
                        have HCL8 := Lib.hid hcl8
                        have HB8 := Lib.hid (HBJ.out.ext hx8)
                        have HX8 := Lib.hid (Ext.trans HX7.out hx8)
                        have HT8 := Lib.hid (show w8.rowIs q 4 m (fun i => .bool (th i)) from HTH.out.of_block (hx8.block q HTH.out.lt))
                        clear hps hnp hv8 hc hcl8 hx8 HPA HPF
                        generalize wr = wo at *
                        go_wp2_with fail
                        go_loopw [25, 198] (fun al i wr => ∃ (k : Nat) (c : Bool), k ≤ np ∧ i = .int .i64 k ∧ al = .bool c ∧ Ext w8 wr) (fun _ i _ => np - (intOf i).toNat)
                        case atStart => exact ⟨0, true, by omega, rfl, rfl, Ext.refl _⟩
                        case round =>
                          obtain ⟨kk, ca, hkk, rfl, rfl, hX⟩ := hrel
                          by_cases hlk : kk < np
                          · as_aux_lemma =>
                            have hki : (kk : Int) < (np : Int) := by omega
                            have hk6 : (kk : Int) < 9 := by omega
                            have hkc : kk < cap8 := by omega
                            obtain ⟨⟨fi, ui⟩, hp⟩ : ∃ r, ps[kk]? = some r := ⟨_, List.getElem?_eq_getElem (by rw [HNP.out]; exact hlk)⟩
                            have hpp := HPP.out (fi, ui) (List.mem_of_getElem? hp)
                            simp only at hpp
                            obtain ⟨f, rfl⟩ := Int.eq_ofNat_of_zero_le hpp.1
                            obtain ⟨u, rfl⟩ := Int.eq_ofNat_of_zero_le (show 0 ≤ ui by omega)
                            have e0 := hX.cell (HCL8.out kk _ hp 0 (.int .i64 (f : Nat)) rfl)
                            have e1 := hX.cell (HCL8.out kk _ hp 1 (.int .i64 (u : Nat)) rfl)
                            rw [Nat.add_zero] at e0
                            have hfu : f < u := by omega
                            have hun : u ≤ n := by omega
                            have HPC := Lib.hid (fun W => P20.pieces_any (f : Int) (u : Int) n f u (by omega) (by omega) (by omega) (by omega) W)
                            have HXW := Lib.hid hX
                            clear hp hpp hX
                            go_upto_region 47 with fail
                            obtain ⟨wa, hwa⟩ : ∃ x, x = wr.alloc (.cells #[.int .i64 (f : Nat), .int .i64 (u : Nat)] 27) := ⟨_, rfl⟩
                            have HXA : Hid (Ext wr wa) := Lib.hid (by rw [hwa]; exact (Ext.refl wr).alloc _)
                            have HBXA : Hid (RowB wa wr.heap.size 27 [.int .i64 (f : Nat), .int .i64 (u : Nat)]) := Lib.hid (by rw [hwa]; exact row_laid wr 27 [.int .i64 (f : Nat), .int .i64 (u : Nat)])
                            rw [← hwa]
                            obtain ⟨q27, hq27⟩ : ∃ z, wr.heap.size = z := ⟨_, rfl⟩
                            rw [hq27] at HBXA ⊢
                            clear hwa hq27 e0 e1
                            have z0 := HBXA.out.cell (j := 0) rfl
                            have z1 := HBXA.out.cell (j := 1) rfl
                            go_upto_region 48 with (go_at_call 11; refine (HPC.out _).mono ?_; rintro e w9a ⟨v9, rfl, hx9, ho9⟩; obtain ⟨A9, cap9, rfl, hcap9, -⟩ := ho9.shape)
                            have HO9 := Lib.hid ho9
                            have HB9a := Lib.hid (HB8.out.ext ((HXW.out.trans HXA.out).trans hx9))
                            have HX9a := Lib.hid ((HXW.out.trans HXA.out).trans hx9)
                            have HBX9a := Lib.hid (HBXA.out.ext hx9)
                            obtain ⟨L, hL⟩ : ∃ L, P20.pcs f u = L := ⟨_, rfl⟩
                            have HL := Lib.hid hL
                            rw [hL] at hcap9 HO9 ⊢
                            obtain ⟨nl, hnl⟩ : ∃ nl, L.length = nl := ⟨_, rfl⟩
                            have hnl8 : nl ≤ 256 := by rw [← hnl, ← hL]; exact P20.pcs_length f u (by omega)
                            have HNL := Lib.hid hnl
                            rw [hnl] at hcap9 HO9 ⊢
                            clear z0 z1 hx9 ho9 hL hnl HPC
                            generalize wr = wo at *
                            go_wp2_with fail
                            go_loopw [28, 207] (fun wv i wr => ∃ j : Nat, j ≤ nl ∧ i = .int .i64 j ∧ wv = .bool (P20.whB J (L.take j)) ∧ Ext w9a wr) (fun _ i _ => nl - (intOf i).toNat)
                            case atStart => exact ⟨0, by omega, rfl, rfl, Ext.refl _⟩
                            case round =>
                              obtain ⟨j, hj, rfl, rfl, hX⟩ := hrel
                              by_cases hlj : j < nl
                              · have hji : (j : Int) < (nl : Int) := by omega
                                have hj6 : (j : Int) < 257 := by omega
                                have hjc : j < cap9 := by omega
                                obtain ⟨g9, c9, e9, -, -, -, hce⟩ := P20.IntsOwn.cell HO9.out j (by rw [HNL.out]; exact hlj)
                                obtain ⟨x, hx⟩ : ∃ x, L[j]? = some x := ⟨_, List.getElem?_eq_getElem (by rw [HNL.out]; exact hlj)⟩
                                rw [hx, Option.getD_some] at hce
                                obtain rfl : A9 = some ⟨g9, 0, none⟩ := by injection e9
                                have c0 := hX.cell hce
                                have hxm : x < m := by
                                  have h1 : x ∈ P20.pcs f u := by rw [HL.out]; exact List.mem_of_getElem? hx
                                  have h2 := P20.pcs_mem hun h1
                                  rw [HMM.out] at h2
                                  exact h2
                                have hst := P20.whB_step (J := J) hx
                                have c1 : wr.cell? ⟨q, x, none⟩ = some (.bool (th x)) := (Ext.trans HX9a.out hX).cell (HT8.out.cell hxm)
                                rw [HLK.out x hxm] at c1
                                have hxi : (x : Int) < (m : Int) := by omega
                                have hx8 : (x : Int) < 9 := by omega
                                have HXX := Lib.hid hX
                                have HST := Lib.hid hst
                                clear e9 hce hx hst hX
                                cases hw0 : P20.whB J (L.take j) with
                                | false =>
                                  rw [hw0] at HST
                                  clear hw0
                                  go_wp2_with fail
                                  go_roundw
                                  case rel => exact ⟨j + 1, by omega, by go_num, by rw [HST.out]; rfl, HXX.out⟩
                                  case measure => simp [intOf]; omega
                                | true =>
                                  rw [hw0] at HST
                                  clear hw0
                                  go_wp2_with fail
                                  go_roundw
                                  case rel => exact ⟨j + 1, by omega, by go_num, by rw [HST.out]; rfl, HXX.out⟩
                                  case measure => simp [intOf]; omega
                              · obtain rfl : j = nl := by omega
                                have htk : L.take j = L := by rw [← HNL.out, List.take_length]
                                rw [htk]
                                have HXW9 := Lib.hid hX
                                clear htk hX
                                have HB9w := Lib.hid (HB9a.out.ext HXW9.out)
                                have HBX9w := Lib.hid (HBX9a.out.ext HXW9.out)
                                have HRDW := Lib.hid (P20.read_wh HB9w.out HFJ.out HN.out f u (by omega) (Nat.le_of_lt hfu) hun)
                                have HMIS := Lib.hid (fun W (hW : P20.BodyAt W w3.heap.size (fun k => k = l' ∨ k = q) b l ⟨#[116]⟩ n J) => P20.missing_len hW f u (by omega) (Nat.le_of_lt hfu) hun)
                                have HCOV := Lib.hid (fun W B v h1 h2 => P20.cover_held (w := W) (B := B) (v := v) (n := n) (J := J) (by omega) h1 h2 hfu hun)
                                rw [HL.out] at HRDW HMIS HCOV
                                have z0 := HBX9w.out.cell (j := 0) rfl
                                have z1 := HBX9w.out.cell (j := 1) rfl
                                obtain ⟨gb, ob, rfl, hgb, hby⟩ := HB.out.at (by omega)
                                have HBY := Lib.hid (show BO w gb ob t from ⟨hgb, hby⟩)
                                have hun2 : u ≤ t.size := by rw [HN.out]; exact hun
                                have HUN2 := Lib.hid hun2
                                clear hgb hby hun2
                                have hfcb : ¬ cb = f := by omega
                                have hucb : (u : Int) ≤ (cb : Int) := by omega
                                have hfu' : (f : Int) ≤ (u : Int) := by omega
                                cases hwh : P20.whB J L with
                                | false =>
                                  as_aux_lemma =>
                                  rw [hwh] at HRDW HMIS HCOV
                                  clear hwh
                                  go_upto_region 53 with (go_at_call 12; refine HRDW.out.mono ?_; rintro e w9 ⟨got, evr, rfl, hx9r, HEV, HG1⟩; obtain rfl : evr = errV 3 := HEV.out)
                                  have HB9 := Lib.hid (HB9w.out.ext hx9r)
                                  have HBX9 := Lib.hid (HBX9w.out.ext hx9r)
                                  have HXK9 := Lib.hid ((HX9a.out.trans HXW9.out).trans hx9r)
                                  have HXB9 := Lib.hid (Ext.trans HX8.out HXK9.out)
                                  have HMI := Lib.hid (fun W (hW : Ext w9 W) => HMIS.out W (HB9.out.ext hW))
                                  have HHE := Lib.hid (fun W (hW : Ext w9 W) => P20.held_rng (HB9.out.ext hW) (HFJ.out.ok HN.out) (by omega))
                                  clear z0 z1 hx9r HRDW HMIS HEV
                                  refine wp_region_C (C := fun w' => Ext w9 w') (by kernel_rfl) ?_
                                  have HN1 := Lib.hid (Ext.drew (Ext.refl w9))
                                  refine wpAnyC_take (i := 0) (v := errV 3) rfl (by kernel_rfl) (by kernel_rfl) (by kernel_rfl) (fun _ _ _ h => h) HN1.out (by kernel_rfl) ?_ ?_
                                  · intro W hW; go_simp; try (first | (with_reducible rfl) | done)
                                  change wpAnyC _ _ _ _ _ _ _ (Act.put _ (some 230) (errV 3)) _
                                  try simp only [Act.put, List.setIfInBounds_toArray, List.set_cons_succ, List.set_cons_zero]
                                  refine wpAnyC_take (i := 1) (v := .bool false) rfl (by kernel_rfl) (by kernel_rfl) (by kernel_rfl) (fun _ _ _ h => h) HN1.out (by kernel_rfl) ?_ ?_
                                  · intro W hW; go_simp; try (first | (with_reducible rfl) | done)
                                  change wpAnyC _ _ _ _ _ _ _ (Act.put _ (some 231) (.bool false)) _
                                  try simp only [Act.put, List.setIfInBounds_toArray, List.set_cons_succ, List.set_cons_zero]
                                  refine wpAnyC_take (i := 2) (v := .bool false) rfl (by kernel_rfl) (by kernel_rfl) (by kernel_rfl) (fun _ _ _ h => h) HN1.out (by kernel_rfl) ?_ ?_
                                  · intro W hW; go_simp; try (first | (with_reducible rfl) | done)
                                  change wpAnyC _ _ _ _ _ _ _ (Act.put _ (some 232) (.bool false)) _
                                  try simp only [Act.put, List.setIfInBounds_toArray, List.set_cons_succ, List.set_cons_zero]
                                  refine wpAnyC_take (i := 3) (v := .bool false) rfl (by kernel_rfl) (by kernel_rfl) (by kernel_rfl) (fun _ _ _ h => h) HN1.out (by kernel_rfl) ?_ ?_
                                  · intro W hW; go_simp; try (first | (with_reducible rfl) | done)
                                  change wpAnyC _ _ _ _ _ _ _ (Act.put _ (some 233) (.bool false)) _
                                  try simp only [Act.put, List.setIfInBounds_toArray, List.set_cons_succ, List.set_cons_zero]
                                  refine wpAnyC_take (i := 4) (v := .bool false) rfl (by kernel_rfl) (by kernel_rfl) (by kernel_rfl) (fun _ _ _ h => h) HN1.out (by kernel_rfl) ?_ ?_
                                  · intro W hW; go_simp; try (first | (with_reducible rfl) | done)
                                  change wpAnyC _ _ _ _ _ _ _ (Act.put _ (some 234) (.bool false)) _
                                  try simp only [Act.put, List.setIfInBounds_toArray, List.set_cons_succ, List.set_cons_zero]
                                  refine wpAnyC_take (i := 5) (v := .bool false) rfl (by kernel_rfl) (by kernel_rfl) (by kernel_rfl) (fun _ _ _ h => h) HN1.out (by kernel_rfl) ?_ ?_
                                  · intro W hW; go_simp; try (first | (with_reducible rfl) | done)
                                  change wpAnyC _ _ _ _ _ _ _ (Act.put _ (some 235) (.bool false)) _
                                  try simp only [Act.put, List.setIfInBounds_toArray, List.set_cons_succ, List.set_cons_zero]
                                  refine wpAnyC_take (i := 6) (v := .bool false) rfl (by kernel_rfl) (by kernel_rfl) (by kernel_rfl) (fun _ _ _ h => h) HN1.out (by kernel_rfl) ?_ ?_
                                  · intro W hW; go_simp; try (first | (with_reducible rfl) | done)
                                  change wpAnyC _ _ _ _ _ _ _ (Act.put _ (some 236) (.bool false)) _
                                  try simp only [Act.put, List.setIfInBounds_toArray, List.set_cons_succ, List.set_cons_zero]
                                  refine wpAnyC_skip (i := 7) rfl (by kernel_rfl) (by kernel_rfl) (by kernel_rfl) (fun _ _ _ h => h) HN1.out (by kernel_rfl) ?_
                                  change wpAnyC _ _ _ _ _ _ _ (Act.put _ (some 237) (undef)) _
                                  try simp only [Act.put, List.setIfInBounds_toArray, List.set_cons_succ, List.set_cons_zero]
                                  refine wpAnyC_skip (i := 8) rfl (by kernel_rfl) (by kernel_rfl) (by kernel_rfl) (fun _ _ _ h => h) HN1.out (by kernel_rfl) ?_
                                  change wpAnyC _ _ _ _ _ _ _ (Act.put _ (some 238) (undef)) _
                                  try simp only [Act.put, List.setIfInBounds_toArray, List.set_cons_succ, List.set_cons_zero]
                                  refine wpAnyC_skip (i := 9) rfl (by kernel_rfl) (by kernel_rfl) (by kernel_rfl) (fun _ _ _ h => h) HN1.out (by kernel_rfl) ?_
                                  change wpAnyC _ _ _ _ _ _ _ (Act.put _ (some 239) (undef)) _
                                  try simp only [Act.put, List.setIfInBounds_toArray, List.set_cons_succ, List.set_cons_zero]
                                  refine wpAnyC_skip (i := 10) rfl (by kernel_rfl) (by kernel_rfl) (by kernel_rfl) (fun _ _ _ h => h) HN1.out (by kernel_rfl) ?_
                                  change wpAnyC _ _ _ _ _ _ _ (Act.put _ (some 240) (undef)) _
                                  try simp only [Act.put, List.setIfInBounds_toArray, List.set_cons_succ, List.set_cons_zero]
                                  refine wpAnyC_skip (i := 11) rfl (by kernel_rfl) (by kernel_rfl) (by kernel_rfl) (fun _ _ _ h => h) HN1.out (by kernel_rfl) ?_
                                  change wpAnyC _ _ _ _ _ _ _ (Act.put _ (some 241) (undef)) _
                                  try simp only [Act.put, List.setIfInBounds_toArray, List.set_cons_succ, List.set_cons_zero]
                                  refine wpAnyC_skip (i := 12) rfl (by kernel_rfl) (by kernel_rfl) (by kernel_rfl) (fun _ _ _ h => h) HN1.out (by kernel_rfl) ?_
                                  change wpAnyC _ _ _ _ _ _ _ (Act.put _ (some 242) (undef)) _
                                  try simp only [Act.put, List.setIfInBounds_toArray, List.set_cons_succ, List.set_cons_zero]
                                  refine wpAnyC_skip (i := 13) rfl (by kernel_rfl) (by kernel_rfl) (by kernel_rfl) (fun _ _ _ h => h) HN1.out (by kernel_rfl) ?_
                                  change wpAnyC _ _ _ _ _ _ _ (Act.put _ (some 243) (undef)) _
                                  try simp only [Act.put, List.setIfInBounds_toArray, List.set_cons_succ, List.set_cons_zero]
                                  refine wpAnyC_skip (i := 14) rfl (by kernel_rfl) (by kernel_rfl) (by kernel_rfl) (fun _ _ _ h => h) HN1.out (by kernel_rfl) ?_
                                  change wpAnyC _ _ _ _ _ _ _ (Act.put _ (some 244) (undef)) _
                                  try simp only [Act.put, List.setIfInBounds_toArray, List.set_cons_succ, List.set_cons_zero]
                                  refine wpAnyC_skip (i := 15) rfl (by kernel_rfl) (by kernel_rfl) (by kernel_rfl) (fun _ _ _ h => h) HN1.out (by kernel_rfl) ?_
                                  change wpAnyC _ _ _ _ _ _ _ (Act.put _ (some 245) (undef)) _
                                  try simp only [Act.put, List.setIfInBounds_toArray, List.set_cons_succ, List.set_cons_zero]
                                  refine wpAnyC_take (i := 16) (v := .bool false) rfl (by kernel_rfl) (by kernel_rfl) (by kernel_rfl) (fun _ _ _ h => h) HN1.out (by kernel_rfl) ?_ ?_
                                  · intro W hW; go_simp; try (first | (with_reducible rfl) | done)
                                  change wpAnyC _ _ _ _ _ _ _ (Act.put _ (some 246) (.bool false)) _
                                  try simp only [Act.put, List.setIfInBounds_toArray, List.set_cons_succ, List.set_cons_zero]
                                  refine wpAnyC_take (i := 17) (v := .bool false) rfl (by kernel_rfl) (by kernel_rfl) (by kernel_rfl) (fun _ _ _ h => h) HN1.out (by kernel_rfl) ?_ ?_
                                  · intro W hW; go_simp; try (first | (with_reducible rfl) | done)
                                  change wpAnyC _ _ _ _ _ _ _ (Act.put _ (some 247) (.bool false)) _
                                  try simp only [Act.put, List.setIfInBounds_toArray, List.set_cons_succ, List.set_cons_zero]
                                  refine wpAnyC_take (i := 18) (v := .bool false) rfl (by kernel_rfl) (by kernel_rfl) (by kernel_rfl) (fun _ _ _ h => h) HN1.out (by kernel_rfl) ?_ ?_
                                  · intro W hW; go_simp; try (first | (with_reducible rfl) | done)
                                  change wpAnyC _ _ _ _ _ _ _ (Act.put _ (some 248) (.bool false)) _
                                  try simp only [Act.put, List.setIfInBounds_toArray, List.set_cons_succ, List.set_cons_zero]
                                  refine wpAnyC_take (i := 19) (v := .pointer (some ⟨b, 0, none⟩)) rfl (by kernel_rfl) (by kernel_rfl) (by kernel_rfl) (fun _ _ _ h => h) HN1.out (by kernel_rfl) ?_ ?_
                                  · intro W hW; go_simp; try (first | (with_reducible rfl) | done)
                                  change wpAnyC _ _ _ _ _ _ _ (Act.put _ (some 249) (.pointer (some ⟨b, 0, none⟩))) _
                                  try simp only [Act.put, List.setIfInBounds_toArray, List.set_cons_succ, List.set_cons_zero]
                                  refine wpAnyC_take (i := 20) (v := .agg #[.int .i64 (f : Nat), .int .i64 (u : Nat)]) rfl (by kernel_rfl) (by kernel_rfl) (by kernel_rfl) (fun _ _ _ h => h) HN1.out (by kernel_rfl) ?_ ?_
                                  · intro W hW; have z0 := (HBX9.out.ext hW).cell (j := 0) rfl; have z1 := (HBX9.out.ext hW).cell (j := 1) rfl; go_simp; try (first | (with_reducible rfl) | done)
                                  change wpAnyC _ _ _ _ _ _ _ (Act.put _ (some 250) (.agg #[.int .i64 (f : Nat), .int .i64 (u : Nat)])) _
                                  try simp only [Act.put, List.setIfInBounds_toArray, List.set_cons_succ, List.set_cons_zero]
                                  refine wpAnyC_take (i := 24) (v := .bool false) rfl (by kernel_rfl) (by kernel_rfl) (by kernel_rfl) (fun _ _ _ h => h) HN1.out (by kernel_rfl) ?_ ?_
                                  · intro W hW; go_simp; try (first | (with_reducible rfl) | done)
                                  change wpAnyC _ _ _ _ _ _ _ (Act.put _ (some 254) (.bool false)) _
                                  try simp only [Act.put, List.setIfInBounds_toArray, List.set_cons_succ, List.set_cons_zero]
                                  refine wpAnyC_one 21 (by kernel_rfl) rfl (by kernel_rfl) (fun KK hKK => ?_)
                                  go_simp
                                  refine (HMI.out _ HN1.out).mono ?_
                                  rintro e w11 ⟨A1, km, cm, rfl, hx11, hkm⟩
                                  refine hKK _ _ (HN1.out.trans hx11) ?_
                                  clear hKK KK
                                  have HN2 := Lib.hid (HN1.out.trans hx11)
                                  try simp only [Act.put, List.setIfInBounds_toArray, List.set_cons_succ, List.set_cons_zero]
                                  refine wpAnyC_take (i := 22) (v := .int .i64 (km : Nat)) rfl (by kernel_rfl) (by kernel_rfl) (by kernel_rfl) (fun _ _ _ h => h) HN2.out (by kernel_rfl) ?_ ?_
                                  · intro W hW; go_simp; try (first | (with_reducible rfl) | done)
                                  change wpAnyC _ _ _ _ _ _ _ (Act.put _ (some 252) (.int .i64 (km : Nat))) _
                                  try simp only [Act.put, List.setIfInBounds_toArray, List.set_cons_succ, List.set_cons_zero]
                                  refine wpAnyC_take (i := 23) (v := .bool false) rfl (by kernel_rfl) (by kernel_rfl) (by kernel_rfl) (fun _ _ _ h => h) HN2.out (by kernel_rfl) ?_ ?_
                                  · intro W hW; go_simp; try (first | (with_reducible rfl) | (rw [hkm]))
                                  change wpAnyC _ _ _ _ _ _ _ (Act.put _ (some 253) (.bool false)) _
                                  try simp only [Act.put, List.setIfInBounds_toArray, List.set_cons_succ, List.set_cons_zero]
                                  refine wpAnyC_take (i := 25) (v := .bool false) rfl (by kernel_rfl) (by kernel_rfl) (by kernel_rfl) (fun _ _ _ h => h) HN2.out (by kernel_rfl) ?_ ?_
                                  · intro W hW; go_simp; try (first | (with_reducible rfl) | done)
                                  change wpAnyC _ _ _ _ _ _ _ (Act.put _ (some 255) (.bool false)) _
                                  try simp only [Act.put, List.setIfInBounds_toArray, List.set_cons_succ, List.set_cons_zero]
                                  refine wpAnyC_take (i := 26) (v := .bool false) rfl (by kernel_rfl) (by kernel_rfl) (by kernel_rfl) (fun _ _ _ h => h) HN2.out (by kernel_rfl) ?_ ?_
                                  · intro W hW; go_simp; try (first | (with_reducible rfl) | done)
                                  change wpAnyC _ _ _ _ _ _ _ (Act.put _ (some 256) (.bool false)) _
                                  try simp only [Act.put, List.setIfInBounds_toArray, List.set_cons_succ, List.set_cons_zero]
                                  refine wpAnyC_take (i := 27) (v := .bool false) rfl (by kernel_rfl) (by kernel_rfl) (by kernel_rfl) (fun _ _ _ h => h) HN2.out (by kernel_rfl) ?_ ?_
                                  · intro W hW; go_simp; try (first | (with_reducible rfl) | done)
                                  change wpAnyC _ _ _ _ _ _ _ (Act.put _ (some 257) (.bool false)) _
                                  try simp only [Act.put, List.setIfInBounds_toArray, List.set_cons_succ, List.set_cons_zero]
                                  refine wpAnyC_take (i := 28) (v := .pointer (some ⟨b, 0, none⟩)) rfl (by kernel_rfl) (by kernel_rfl) (by kernel_rfl) (fun _ _ _ h => h) HN2.out (by kernel_rfl) ?_ ?_
                                  · intro W hW; go_simp; try (first | (with_reducible rfl) | done)
                                  change wpAnyC _ _ _ _ _ _ _ (Act.put _ (some 258) (.pointer (some ⟨b, 0, none⟩))) _
                                  try simp only [Act.put, List.setIfInBounds_toArray, List.set_cons_succ, List.set_cons_zero]
                                  refine wpAnyC_take (i := 30) (v := .agg #[.int .i64 (f : Nat), .int .i64 (u : Nat)]) rfl (by kernel_rfl) (by kernel_rfl) (by kernel_rfl) (fun _ _ _ h => h) HN2.out (by kernel_rfl) ?_ ?_
                                  · intro W hW; have z0 := (HBX9.out.ext hW).cell (j := 0) rfl; have z1 := (HBX9.out.ext hW).cell (j := 1) rfl; go_simp; try (first | (with_reducible rfl) | done)
                                  change wpAnyC _ _ _ _ _ _ _ (Act.put _ (some 260) (.agg #[.int .i64 (f : Nat), .int .i64 (u : Nat)])) _
                                  try simp only [Act.put, List.setIfInBounds_toArray, List.set_cons_succ, List.set_cons_zero]
                                  refine wpAnyC_take (i := 32) (v := .bool false) rfl (by kernel_rfl) (by kernel_rfl) (by kernel_rfl) (fun _ _ _ h => h) HN2.out (by kernel_rfl) ?_ ?_
                                  · intro W hW; go_simp; try (first | (with_reducible rfl) | done)
                                  change wpAnyC _ _ _ _ _ _ _ (Act.put _ (some 262) (.bool false)) _
                                  try simp only [Act.put, List.setIfInBounds_toArray, List.set_cons_succ, List.set_cons_zero]
                                  refine wpAnyC_one 29 (by kernel_rfl) rfl (by kernel_rfl) (fun KK hKK => ?_)
                                  go_simp
                                  refine (HHE.out _ HN2.out).mono ?_
                                  rintro e w12 ⟨v12, rfl, hx12, ho12, hn12⟩
                                  refine hKK _ _ (HN2.out.trans hx12) ?_
                                  clear hKK KK
                                  have HN3 := Lib.hid (HN2.out.trans hx12)
                                  try simp only [Act.put, List.setIfInBounds_toArray, List.set_cons_succ, List.set_cons_zero]
                                  refine wpAnyC_one 31 (by kernel_rfl) rfl (by kernel_rfl) (fun KK hKK => ?_)
                                  go_simp
                                  refine (HCOV.out _ _ _ ho12 hn12).mono ?_
                                  rintro e w13 ⟨rfl, hx13⟩
                                  refine hKK _ _ (HN3.out.trans hx13) ?_
                                  clear hKK KK
                                  have HN4 := Lib.hid (HN3.out.trans hx13)
                                  try simp only [Act.put, List.setIfInBounds_toArray, List.set_cons_succ, List.set_cons_zero]
                                  refine wpAnyC_take (i := 33) (v := .bool false) rfl (by kernel_rfl) (by kernel_rfl) (by kernel_rfl) (fun _ _ _ h => h) HN4.out (by kernel_rfl) ?_ ?_
                                  · intro W hW; go_simp; try (first | (with_reducible rfl) | done)
                                  change wpAnyC _ _ _ _ _ _ _ (Act.put _ (some 263) (.bool false)) _
                                  try simp only [Act.put, List.setIfInBounds_toArray, List.set_cons_succ, List.set_cons_zero]
                                  refine wpAnyC_take (i := 34) (v := .bool false) rfl (by kernel_rfl) (by kernel_rfl) (by kernel_rfl) (fun _ _ _ h => h) HN4.out (by kernel_rfl) ?_ ?_
                                  · intro W hW; go_simp; try (first | (with_reducible rfl) | done)
                                  change wpAnyC _ _ _ _ _ _ _ (Act.put _ (some 264) (.bool false)) _
                                  try simp only [Act.put, List.setIfInBounds_toArray, List.set_cons_succ, List.set_cons_zero]
                                  refine ⟨by kernel_rfl, ?_⟩
                                  cases ca with
                                  | false =>
                                    go_wp2_with fail
                                    go_roundw
                                    case rel => exact ⟨kk + 1, _, by omega, by go_num, rfl, HXK9.out.trans HN4.out⟩
                                    case measure => simp [intOf]; omega
                                  | true =>
                                    go_wp2_with fail
                                    go_roundw
                                    case rel => exact ⟨kk + 1, _, by omega, by go_num, rfl, HXK9.out.trans HN4.out⟩
                                    case measure => simp [intOf]; omega
                                | true =>
                                  as_aux_lemma =>
                                  rw [hwh] at HRDW HMIS HCOV
                                  clear hwh
                                  go_upto_region 53 with (go_at_call 12; refine HRDW.out.mono ?_; rintro e w9 ⟨got, evr, rfl, hx9r, HEV, HG1⟩; obtain rfl : evr = .nilIface := HEV.out; have HGOT := Lib.hid (HG1.out rfl); clear HG1)
                                  have HB9 := Lib.hid (HB9w.out.ext hx9r)
                                  have HBX9 := Lib.hid (HBX9w.out.ext hx9r)
                                  have HXK9 := Lib.hid ((HX9a.out.trans HXW9.out).trans hx9r)
                                  have HXB9 := Lib.hid (Ext.trans HX8.out HXK9.out)
                                  have HMI := Lib.hid (fun W (hW : Ext w9 W) => HMIS.out W (HB9.out.ext hW))
                                  have HHE := Lib.hid (fun W (hW : Ext w9 W) => P20.held_rng (HB9.out.ext hW) (HFJ.out.ok HN.out) (by omega))
                                  clear z0 z1 hx9r HRDW HMIS HEV
                                  refine wp_region_C (C := fun w' => Ext w9 w') (by kernel_rfl) ?_
                                  have HN1 := Lib.hid (Ext.drew (Ext.refl w9))
                                  refine wpAnyC_take (i := 0) (v := .nilIface) rfl (by kernel_rfl) (by kernel_rfl) (by kernel_rfl) (fun _ _ _ h => h) HN1.out (by kernel_rfl) ?_ ?_
                                  · intro W hW; go_simp; try (first | (with_reducible rfl) | done)
                                  change wpAnyC _ _ _ _ _ _ _ (Act.put _ (some 230) (.nilIface)) _
                                  try simp only [Act.put, List.setIfInBounds_toArray, List.set_cons_succ, List.set_cons_zero]
                                  refine wpAnyC_take (i := 1) (v := .bool true) rfl (by kernel_rfl) (by kernel_rfl) (by kernel_rfl) (fun _ _ _ h => h) HN1.out (by kernel_rfl) ?_ ?_
                                  · intro W hW; go_simp; try (first | (with_reducible rfl) | done)
                                  change wpAnyC _ _ _ _ _ _ _ (Act.put _ (some 231) (.bool true)) _
                                  try simp only [Act.put, List.setIfInBounds_toArray, List.set_cons_succ, List.set_cons_zero]
                                  refine wpAnyC_take (i := 2) (v := .bool true) rfl (by kernel_rfl) (by kernel_rfl) (by kernel_rfl) (fun _ _ _ h => h) HN1.out (by kernel_rfl) ?_ ?_
                                  · intro W hW; go_simp; try (first | (with_reducible rfl) | done)
                                  change wpAnyC _ _ _ _ _ _ _ (Act.put _ (some 232) (.bool true)) _
                                  try simp only [Act.put, List.setIfInBounds_toArray, List.set_cons_succ, List.set_cons_zero]
                                  refine wpAnyC_take (i := 3) (v := .bool false) rfl (by kernel_rfl) (by kernel_rfl) (by kernel_rfl) (fun _ _ _ h => h) HN1.out (by kernel_rfl) ?_ ?_
                                  · intro W hW; go_simp; try (first | (with_reducible rfl) | done)
                                  change wpAnyC _ _ _ _ _ _ _ (Act.put _ (some 233) (.bool false)) _
                                  try simp only [Act.put, List.setIfInBounds_toArray, List.set_cons_succ, List.set_cons_zero]
                                  refine wpAnyC_take (i := 4) (v := .bool false) rfl (by kernel_rfl) (by kernel_rfl) (by kernel_rfl) (fun _ _ _ h => h) HN1.out (by kernel_rfl) ?_ ?_
                                  · intro W hW; go_simp; try (first | (with_reducible rfl) | done)
                                  change wpAnyC _ _ _ _ _ _ _ (Act.put _ (some 234) (.bool false)) _
                                  try simp only [Act.put, List.setIfInBounds_toArray, List.set_cons_succ, List.set_cons_zero]
                                  refine wpAnyC_take (i := 5) (v := .bool true) rfl (by kernel_rfl) (by kernel_rfl) (by kernel_rfl) (fun _ _ _ h => h) HN1.out (by kernel_rfl) ?_ ?_
                                  · intro W hW; go_simp; try (first | (with_reducible rfl) | done)
                                  change wpAnyC _ _ _ _ _ _ _ (Act.put _ (some 235) (.bool true)) _
                                  try simp only [Act.put, List.setIfInBounds_toArray, List.set_cons_succ, List.set_cons_zero]
                                  refine wpAnyC_take (i := 6) (v := .bool true) rfl (by kernel_rfl) (by kernel_rfl) (by kernel_rfl) (fun _ _ _ h => h) HN1.out (by kernel_rfl) ?_ ?_
                                  · intro W hW; go_simp; try (first | (with_reducible rfl) | done)
                                  change wpAnyC _ _ _ _ _ _ _ (Act.put _ (some 236) (.bool true)) _
                                  try simp only [Act.put, List.setIfInBounds_toArray, List.set_cons_succ, List.set_cons_zero]
                                  refine wpAnyC_take (i := 7) (v := got) rfl (by kernel_rfl) (by kernel_rfl) (by kernel_rfl) (fun _ _ _ h => h) HN1.out (by kernel_rfl) ?_ ?_
                                  · intro W hW; go_simp; try (first | (with_reducible rfl) | done)
                                  change wpAnyC _ _ _ _ _ _ _ (Act.put _ (some 237) (got)) _
                                  try simp only [Act.put, List.setIfInBounds_toArray, List.set_cons_succ, List.set_cons_zero]
                                  refine wpAnyC_take (i := 8) (v := .slice (some ⟨gb, ob, none⟩) n cb) rfl (by kernel_rfl) (by kernel_rfl) (by kernel_rfl) (fun _ _ _ h => h) HN1.out (by kernel_rfl) ?_ ?_
                                  · intro W hW; go_simp; try (first | (with_reducible rfl) | done)
                                  change wpAnyC _ _ _ _ _ _ _ (Act.put _ (some 238) (.slice (some ⟨gb, ob, none⟩) n cb)) _
                                  try simp only [Act.put, List.setIfInBounds_toArray, List.set_cons_succ, List.set_cons_zero]
                                  refine wpAnyC_take (i := 9) (v := .pointer (some ⟨q27, 0, none⟩)) rfl (by kernel_rfl) (by kernel_rfl) (by kernel_rfl) (fun _ _ _ h => h) HN1.out (by kernel_rfl) ?_ ?_
                                  · intro W hW; go_simp; try (first | (with_reducible rfl) | done)
                                  change wpAnyC _ _ _ _ _ _ _ (Act.put _ (some 239) (.pointer (some ⟨q27, 0, none⟩))) _
                                  try simp only [Act.put, List.setIfInBounds_toArray, List.set_cons_succ, List.set_cons_zero]
                                  refine wpAnyC_take (i := 10) (v := .int .i64 (f : Nat)) rfl (by kernel_rfl) (by kernel_rfl) (by kernel_rfl) (fun _ _ _ h => h) HN1.out (by kernel_rfl) ?_ ?_
                                  · intro W hW; have z0 := (HBX9.out.ext hW).cell (j := 0) rfl; have z1 := (HBX9.out.ext hW).cell (j := 1) rfl; go_simp; try (first | (with_reducible rfl) | done)
                                  change wpAnyC _ _ _ _ _ _ _ (Act.put _ (some 240) (.int .i64 (f : Nat))) _
                                  try simp only [Act.put, List.setIfInBounds_toArray, List.set_cons_succ, List.set_cons_zero]
                                  refine wpAnyC_take (i := 11) (v := .pointer (some ⟨q27, 1, none⟩)) rfl (by kernel_rfl) (by kernel_rfl) (by kernel_rfl) (fun _ _ _ h => h) HN1.out (by kernel_rfl) ?_ ?_
                                  · intro W hW; go_simp; try (first | (with_reducible rfl) | done)
                                  change wpAnyC _ _ _ _ _ _ _ (Act.put _ (some 241) (.pointer (some ⟨q27, 1, none⟩))) _
                                  try simp only [Act.put, List.setIfInBounds_toArray, List.set_cons_succ, List.set_cons_zero]
                                  refine wpAnyC_take (i := 12) (v := .int .i64 (u : Nat)) rfl (by kernel_rfl) (by kernel_rfl) (by kernel_rfl) (fun _ _ _ h => h) HN1.out (by kernel_rfl) ?_ ?_
                                  · intro W hW; have z0 := (HBX9.out.ext hW).cell (j := 0) rfl; have z1 := (HBX9.out.ext hW).cell (j := 1) rfl; go_simp; try (first | (with_reducible rfl) | done)
                                  change wpAnyC _ _ _ _ _ _ _ (Act.put _ (some 242) (.int .i64 (u : Nat))) _
                                  try simp only [Act.put, List.setIfInBounds_toArray, List.set_cons_succ, List.set_cons_zero]
                                  refine wpAnyC_take (i := 13) (v := .slice (some ⟨gb, ob + f, none⟩) (u - f) (cb - f)) rfl (by kernel_rfl) (by kernel_rfl) (by kernel_rfl) (fun _ _ _ h => h) HN1.out (by kernel_rfl) ?_ ?_
                                  · intro W hW; go_simp; try (rfl)
                                  change wpAnyC _ _ _ _ _ _ _ (Act.put _ (some 243) (.slice (some ⟨gb, ob + f, none⟩) (u - f) (cb - f))) _
                                  try simp only [Act.put, List.setIfInBounds_toArray, List.set_cons_succ, List.set_cons_zero]
                                  refine wpAnyC_one 14 (by kernel_rfl) rfl (by kernel_rfl) (fun KK hKK => ?_)
                                  go_simp
                                  refine (bytes_same (HGOT.out _ HN1.out) (part_conv (cap := cb - f) ((HBY.out.ext HXB9.out).ext HN1.out) (Nat.le_of_lt hfu) HUN2.out)).mono ?_
                                  rintro e w10 ⟨rfl, rfl⟩
                                  refine hKK _ _ HN1.out ?_
                                  clear hKK KK
                                  try simp only [Act.put, List.setIfInBounds_toArray, List.set_cons_succ, List.set_cons_zero]
                                  refine wpAnyC_take (i := 15) (v := .bool false) rfl (by kernel_rfl) (by kernel_rfl) (by kernel_rfl) (fun _ _ _ h => h) HN1.out (by kernel_rfl) ?_ ?_
                                  · intro W hW; go_simp; try (first | (with_reducible rfl) | done)
                                  change wpAnyC _ _ _ _ _ _ _ (Act.put _ (some 245) (.bool false)) _
                                  try simp only [Act.put, List.setIfInBounds_toArray, List.set_cons_succ, List.set_cons_zero]
                                  refine wpAnyC_take (i := 16) (v := .bool false) rfl (by kernel_rfl) (by kernel_rfl) (by kernel_rfl) (fun _ _ _ h => h) HN1.out (by kernel_rfl) ?_ ?_
                                  · intro W hW; go_simp; try (first | (with_reducible rfl) | done)
                                  change wpAnyC _ _ _ _ _ _ _ (Act.put _ (some 246) (.bool false)) _
                                  try simp only [Act.put, List.setIfInBounds_toArray, List.set_cons_succ, List.set_cons_zero]
                                  refine wpAnyC_take (i := 17) (v := .bool false) rfl (by kernel_rfl) (by kernel_rfl) (by kernel_rfl) (fun _ _ _ h => h) HN1.out (by kernel_rfl) ?_ ?_
                                  · intro W hW; go_simp; try (first | (with_reducible rfl) | done)
                                  change wpAnyC _ _ _ _ _ _ _ (Act.put _ (some 247) (.bool false)) _
                                  try simp only [Act.put, List.setIfInBounds_toArray, List.set_cons_succ, List.set_cons_zero]
                                  refine wpAnyC_take (i := 18) (v := .bool false) rfl (by kernel_rfl) (by kernel_rfl) (by kernel_rfl) (fun _ _ _ h => h) HN1.out (by kernel_rfl) ?_ ?_
                                  · intro W hW; go_simp; try (first | (with_reducible rfl) | done)
                                  change wpAnyC _ _ _ _ _ _ _ (Act.put _ (some 248) (.bool false)) _
                                  try simp only [Act.put, List.setIfInBounds_toArray, List.set_cons_succ, List.set_cons_zero]
                                  refine wpAnyC_take (i := 19) (v := .pointer (some ⟨b, 0, none⟩)) rfl (by kernel_rfl) (by kernel_rfl) (by kernel_rfl) (fun _ _ _ h => h) HN1.out (by kernel_rfl) ?_ ?_
                                  · intro W hW; go_simp; try (first | (with_reducible rfl) | done)
                                  change wpAnyC _ _ _ _ _ _ _ (Act.put _ (some 249) (.pointer (some ⟨b, 0, none⟩))) _
                                  try simp only [Act.put, List.setIfInBounds_toArray, List.set_cons_succ, List.set_cons_zero]
                                  refine wpAnyC_take (i := 20) (v := .agg #[.int .i64 (f : Nat), .int .i64 (u : Nat)]) rfl (by kernel_rfl) (by kernel_rfl) (by kernel_rfl) (fun _ _ _ h => h) HN1.out (by kernel_rfl) ?_ ?_
                                  · intro W hW; have z0 := (HBX9.out.ext hW).cell (j := 0) rfl; have z1 := (HBX9.out.ext hW).cell (j := 1) rfl; go_simp; try (first | (with_reducible rfl) | done)
                                  change wpAnyC _ _ _ _ _ _ _ (Act.put _ (some 250) (.agg #[.int .i64 (f : Nat), .int .i64 (u : Nat)])) _
                                  try simp only [Act.put, List.setIfInBounds_toArray, List.set_cons_succ, List.set_cons_zero]
                                  refine wpAnyC_take (i := 24) (v := .bool true) rfl (by kernel_rfl) (by kernel_rfl) (by kernel_rfl) (fun _ _ _ h => h) HN1.out (by kernel_rfl) ?_ ?_
                                  · intro W hW; go_simp; try (first | (with_reducible rfl) | done)
                                  change wpAnyC _ _ _ _ _ _ _ (Act.put _ (some 254) (.bool true)) _
                                  try simp only [Act.put, List.setIfInBounds_toArray, List.set_cons_succ, List.set_cons_zero]
                                  refine wpAnyC_one 21 (by kernel_rfl) rfl (by kernel_rfl) (fun KK hKK => ?_)
                                  go_simp
                                  refine (HMI.out _ HN1.out).mono ?_
                                  rintro e w11 ⟨A1, km, cm, rfl, hx11, hkm⟩
                                  refine hKK _ _ (HN1.out.trans hx11) ?_
                                  clear hKK KK
                                  have HN2 := Lib.hid (HN1.out.trans hx11)
                                  try simp only [Act.put, List.setIfInBounds_toArray, List.set_cons_succ, List.set_cons_zero]
                                  refine wpAnyC_take (i := 22) (v := .int .i64 (km : Nat)) rfl (by kernel_rfl) (by kernel_rfl) (by kernel_rfl) (fun _ _ _ h => h) HN2.out (by kernel_rfl) ?_ ?_
                                  · intro W hW; go_simp; try (first | (with_reducible rfl) | done)
                                  change wpAnyC _ _ _ _ _ _ _ (Act.put _ (some 252) (.int .i64 (km : Nat))) _
                                  try simp only [Act.put, List.setIfInBounds_toArray, List.set_cons_succ, List.set_cons_zero]
                                  refine wpAnyC_take (i := 23) (v := .bool true) rfl (by kernel_rfl) (by kernel_rfl) (by kernel_rfl) (fun _ _ _ h => h) HN2.out (by kernel_rfl) ?_ ?_
                                  · intro W hW; go_simp; try (first | (with_reducible rfl) | (rw [hkm]))
                                  change wpAnyC _ _ _ _ _ _ _ (Act.put _ (some 253) (.bool true)) _
                                  try simp only [Act.put, List.setIfInBounds_toArray, List.set_cons_succ, List.set_cons_zero]
                                  refine wpAnyC_take (i := 25) (v := .bool false) rfl (by kernel_rfl) (by kernel_rfl) (by kernel_rfl) (fun _ _ _ h => h) HN2.out (by kernel_rfl) ?_ ?_
                                  · intro W hW; go_simp; try (first | (with_reducible rfl) | done)
                                  change wpAnyC _ _ _ _ _ _ _ (Act.put _ (some 255) (.bool false)) _
                                  try simp only [Act.put, List.setIfInBounds_toArray, List.set_cons_succ, List.set_cons_zero]
                                  refine wpAnyC_take (i := 26) (v := .bool false) rfl (by kernel_rfl) (by kernel_rfl) (by kernel_rfl) (fun _ _ _ h => h) HN2.out (by kernel_rfl) ?_ ?_
                                  · intro W hW; go_simp; try (first | (with_reducible rfl) | done)
                                  change wpAnyC _ _ _ _ _ _ _ (Act.put _ (some 256) (.bool false)) _
                                  try simp only [Act.put, List.setIfInBounds_toArray, List.set_cons_succ, List.set_cons_zero]
                                  refine wpAnyC_take (i := 27) (v := .bool false) rfl (by kernel_rfl) (by kernel_rfl) (by kernel_rfl) (fun _ _ _ h => h) HN2.out (by kernel_rfl) ?_ ?_
                                  · intro W hW; go_simp; try (first | (with_reducible rfl) | done)
                                  change wpAnyC _ _ _ _ _ _ _ (Act.put _ (some 257) (.bool false)) _
                                  try simp only [Act.put, List.setIfInBounds_toArray, List.set_cons_succ, List.set_cons_zero]
                                  refine wpAnyC_take (i := 28) (v := .pointer (some ⟨b, 0, none⟩)) rfl (by kernel_rfl) (by kernel_rfl) (by kernel_rfl) (fun _ _ _ h => h) HN2.out (by kernel_rfl) ?_ ?_
                                  · intro W hW; go_simp; try (first | (with_reducible rfl) | done)
                                  change wpAnyC _ _ _ _ _ _ _ (Act.put _ (some 258) (.pointer (some ⟨b, 0, none⟩))) _
                                  try simp only [Act.put, List.setIfInBounds_toArray, List.set_cons_succ, List.set_cons_zero]
                                  refine wpAnyC_take (i := 30) (v := .agg #[.int .i64 (f : Nat), .int .i64 (u : Nat)]) rfl (by kernel_rfl) (by kernel_rfl) (by kernel_rfl) (fun _ _ _ h => h) HN2.out (by kernel_rfl) ?_ ?_
                                  · intro W hW; have z0 := (HBX9.out.ext hW).cell (j := 0) rfl; have z1 := (HBX9.out.ext hW).cell (j := 1) rfl; go_simp; try (first | (with_reducible rfl) | done)
                                  change wpAnyC _ _ _ _ _ _ _ (Act.put _ (some 260) (.agg #[.int .i64 (f : Nat), .int .i64 (u : Nat)])) _
                                  try simp only [Act.put, List.setIfInBounds_toArray, List.set_cons_succ, List.set_cons_zero]
                                  refine wpAnyC_take (i := 32) (v := .bool true) rfl (by kernel_rfl) (by kernel_rfl) (by kernel_rfl) (fun _ _ _ h => h) HN2.out (by kernel_rfl) ?_ ?_
                                  · intro W hW; go_simp; try (first | (with_reducible rfl) | done)
                                  change wpAnyC _ _ _ _ _ _ _ (Act.put _ (some 262) (.bool true)) _
                                  try simp only [Act.put, List.setIfInBounds_toArray, List.set_cons_succ, List.set_cons_zero]
                                  refine wpAnyC_one 29 (by kernel_rfl) rfl (by kernel_rfl) (fun KK hKK => ?_)
                                  go_simp
                                  refine (HHE.out _ HN2.out).mono ?_
                                  rintro e w12 ⟨v12, rfl, hx12, ho12, hn12⟩
                                  refine hKK _ _ (HN2.out.trans hx12) ?_
                                  clear hKK KK
                                  have HN3 := Lib.hid (HN2.out.trans hx12)
                                  try simp only [Act.put, List.setIfInBounds_toArray, List.set_cons_succ, List.set_cons_zero]
                                  refine wpAnyC_one 31 (by kernel_rfl) rfl (by kernel_rfl) (fun KK hKK => ?_)
                                  go_simp
                                  refine (HCOV.out _ _ _ ho12 hn12).mono ?_
                                  rintro e w13 ⟨rfl, hx13⟩
                                  refine hKK _ _ (HN3.out.trans hx13) ?_
                                  clear hKK KK
                                  have HN4 := Lib.hid (HN3.out.trans hx13)
                                  try simp only [Act.put, List.setIfInBounds_toArray, List.set_cons_succ, List.set_cons_zero]
                                  refine wpAnyC_take (i := 33) (v := .bool false) rfl (by kernel_rfl) (by kernel_rfl) (by kernel_rfl) (fun _ _ _ h => h) HN4.out (by kernel_rfl) ?_ ?_
                                  · intro W hW; go_simp; try (first | (with_reducible rfl) | done)
                                  change wpAnyC _ _ _ _ _ _ _ (Act.put _ (some 263) (.bool false)) _
                                  try simp only [Act.put, List.setIfInBounds_toArray, List.set_cons_succ, List.set_cons_zero]
                                  refine wpAnyC_take (i := 34) (v := .bool false) rfl (by kernel_rfl) (by kernel_rfl) (by kernel_rfl) (fun _ _ _ h => h) HN4.out (by kernel_rfl) ?_ ?_
                                  · intro W hW; go_simp; try (first | (with_reducible rfl) | done)
                                  change wpAnyC _ _ _ _ _ _ _ (Act.put _ (some 264) (.bool false)) _
                                  try simp only [Act.put, List.setIfInBounds_toArray, List.set_cons_succ, List.set_cons_zero]
                                  refine ⟨by kernel_rfl, ?_⟩
                                  cases ca with
                                  | false =>
                                    go_wp2_with fail
                                    go_roundw
                                    case rel => exact ⟨kk + 1, _, by omega, by go_num, rfl, HXK9.out.trans HN4.out⟩
                                    case measure => simp [intOf]; omega
                                  | true =>
                                    go_wp2_with fail
                                    go_roundw
                                    case rel => exact ⟨kk + 1, _, by omega, by go_num, rfl, HXK9.out.trans HN4.out⟩
                                    case measure => simp [intOf]; omega
                          · as_aux_lemma =>
                            obtain rfl : kk = np := by omega
                            have HXW := Lib.hid hX
                            clear hX
                            cases ca with
                            | false =>
                              go_wp2_with fail
                              go_ret
                              exact ⟨rfl, Ext.trans HX8.out HXW.out⟩
                            | true =>
                              obtain ⟨gb, ob, rfl, hgb, hby⟩ := HB.out.at hn0
                              have HBY := Lib.hid (show BO w gb ob t from ⟨hgb, hby⟩)
                              have HXB := Lib.hid (Ext.trans HX8.out HXW.out)
                              have HRI8 := Lib.hid (show RIn wr (.slice (some ⟨g8, 0, none⟩) kk cap8) ps from ⟨_, cap8, by rw [HNP.out], by rw [HNP.out]; exact hcap8, fun _ => ⟨_, rfl, fun i p hp => by
                                have h0 := HXW.out.cell (HCL8.out i p hp 0 _ rfl)
                                have h1 := HXW.out.cell (HCL8.out i p hp 1 _ rfl)
                                rw [Addr.add_lit, Nat.zero_add]
                                exact ⟨h0, h1⟩⟩⟩)
                              have HMU := Lib.hid (multO_any ⟨#[98, 111, 114, 100, 101, 114, 57, 120]⟩ ⟨#[97, 47, 98]⟩ t (by decide) (by decide) (by rw [HN.out]; omega) HRI8.out (by rw [HNP.out]; omega) (dv := .slice (some ⟨gb, ob, none⟩) n cb) (cd := cb) (by rw [HN.out]) (by rw [HN.out]; exact hcb) (HBY.out.ext HXB.out) (HM.out.ext HXB.out) (HP.out.ext HXB.out))
                              clear hgb hby
                              go_upto_region 60 with (go_at_call 17; refine HMU.out.mono ?_; rintro e w9 ⟨v9, ev9, rfl, HMR, hx9⟩)
                              have HX9 := Lib.hid (HXB.out.trans hx9)
                              obtain ⟨s, c, hev, hout, hyes, hnot⟩ := HMR.out
                              rcases hout with ⟨g1', g2', g3', hs3, rfl⟩ | ⟨m1, m2, m3, rfl⟩ | ⟨m1, m2, rfl⟩
                              · obtain rfl : ev9 = .nilIface := hev
                                have HYES := Lib.hid (hyes rfl)
                                obtain ⟨gv, cv, rfl, -, -⟩ := (hyes rfl).1
                                obtain ⟨q1, q2, q3⟩ := good_parts g1'
                                have hsz : s.size ≤ 64000 := by
                                  have h1 := preS_size (bnd_size q1) (kind_size q3) (show t.size ≤ 3000 by rw [HN.out]; omega) ps g3'
                                  rw [hs3, app_size]
                                  have h2 : (finB ⟨#[98, 111, 114, 100, 101, 114, 57, 120]⟩).size ≤ 46 := by decide
                                  have h3 := HNP.out
                                  omega
                                have HRD := Lib.hid (show rdF ⟨#[98, 111, 114, 100, 101, 114, 57, 120]⟩ s none = some (ps.map fun p => (p.1, p.2, cutO t p), (n : Int)) from by
                                  rw [hs3, ← HN.out]
                                  exact rd_written q3 q2 ps none g3' (.inl rfl) (.inl g2'))
                                have HQ1 := Lib.hid q1
                                have HG3 := Lib.hid g3'
                                have HRM := Lib.hid (readm_any ⟨#[98, 111, 114, 100, 101, 114, 57, 120]⟩ s (by decide) (by omega) (show BytesV w9 0 (.slice (some ⟨gv, 0, none⟩) s.size cv) s from by obtain ⟨g', c', e, -, hr⟩ := HYES.out.1; exact ⟨g', c', e, Nat.zero_le _, hr⟩) (HM.out.ext HX9.out) (HP.out.ext HX9.out))
                                have HX89 := Lib.hid (HXW.out.trans hx9)
                                clear g1' g2' g3' hs3 hx9 q1 q2 q3 hyes hnot
                                go_upto_region 63 with (go_at_call 18; refine HRM.out.mono ?_; rintro e w10 ⟨v10, n10, ev10, rfl, H10, hx10⟩)
                                rcases H10.out with ⟨ps', ⟨hbn, hrd⟩, rfl, hpt, hpl⟩ | ⟨hno, h2⟩
                                · rw [HRD.out] at hrd
                                  obtain ⟨hps, hn10⟩ := Prod.mk.inj (Option.some.inj hrd)
                                  subst hps
                                  subst hn10
                                  have HX10 := Lib.hid (HX9.out.trans hx10)
                                  obtain ⟨ds, hdl, hp3, hdd⟩ := hpt
                                  have HDD := Lib.hid hdd
                                  have hzl : ((((ps.map fun p => (p.1, p.2, cutO t p)) : List (Int × Int × ByteArray)).zip ds).map fun q => (q.1.1, q.1.2.1, q.2)).length = kk := by
                                    rw [List.length_map, List.length_zip, hdl, List.length_map, HNP.out]; omega
                                  obtain ⟨A3, c3', e3, hc3, hg3⟩ := hp3.parts
                                  rw [hzl] at e3 hc3
                                  subst e3
                                  have HG3' := Lib.hid hg3
                                  have HDL := Lib.hid (show ds.length = kk by rw [hdl, List.length_map, HNP.out])
                                  have hbb : ((n : Int) != (n : Int)) = false := by simp
                                  have hnn : ((kk : Int) != (kk : Int)) = false := by simp
                                  have HXR := Lib.hid hx10
                                  clear hg3 hdl hdd hp3 hzl hrd hpl hbn H10 HRM HRD hx10
                                  generalize wr = wo at *
                                  go_wp2_with fail
                                  go_loopw [303] (fun i wr => ∃ j : Nat, j ≤ kk ∧ i = .int .i64 j ∧ Ext w10 wr) (fun i _ => kk - (intOf i).toNat)
                                  case atStart => exact ⟨0, by omega, rfl, Ext.refl _⟩
                                  case round =>
                                    obtain ⟨j, hj, rfl, hX⟩ := hrel
                                    by_cases hlj : j < kk
                                    · as_aux_lemma =>
                                      have hki : (j : Int) < (kk : Int) := by omega
                                      have hk6 : (j : Int) < 13 := by omega
                                      have hmc3 : j < c3' := by omega
                                      have hmc : j < cap8 := by omega
                                      obtain ⟨⟨fi, ui⟩, hp⟩ : ∃ r, ps[j]? = some r := ⟨_, List.getElem?_eq_getElem (by rw [HNP.out]; exact hlj)⟩
                                      obtain ⟨dv, hdv⟩ : ∃ r, ds[j]? = some r := ⟨_, List.getElem?_eq_getElem (by rw [HDL.out]; exact hlj)⟩
                                      have hp3 : ((ps.map fun p => (p.1, p.2, cutO t p)) : List (Int × Int × ByteArray))[j]? = some (fi, ui, cutO t (fi, ui)) := by rw [List.getElem?_map, hp]; rfl
                                      have hz3 : ((((ps.map fun p => (p.1, p.2, cutO t p)) : List (Int × Int × ByteArray)).zip ds).map fun q => (q.1.1, q.1.2.1, q.2))[j]? = some (fi, ui, dv) := by
                                        rw [List.getElem?_map, show ((ps.map fun p => (p.1, p.2, cutO t p)).zip ds)[j]? = some ((fi, ui, cutO t (fi, ui)), dv) from List.getElem?_zip_eq_some.2 ⟨hp3, hdv⟩]; rfl
                                      obtain ⟨g3, rfl, d0, d1, d2⟩ := HG3'.out j _ hz3
                                      have hpp := HPP.out (fi, ui) (List.mem_of_getElem? hp)
                                      simp only at hpp
                                      obtain ⟨f, rfl⟩ := Int.eq_ofNat_of_zero_le hpp.1
                                      obtain ⟨u, rfl⟩ := Int.eq_ofNat_of_zero_le (show 0 ≤ ui by omega)
                                      have hBV : BytesV w10 w9.heap.size dv (cutO t ((f : Int), (u : Int))) := HDD.out j dv _ hdv hp3
                                      obtain ⟨z, hzz⟩ : ∃ z, t.extract f u = z := ⟨_, rfl⟩
                                      have hcut : cutO t ((f : Int), (u : Int)) = z := by unfold cutO; simpa using hzz
                                      rw [hcut] at hBV
                                      have hfu : f < u := by omega
                                      have hun : u ≤ n := by omega
                                      have hfcb : ¬ cb = f := by omega
                                      have hucb : (u : Int) ≤ (cb : Int) := by omega
                                      have hfu' : (f : Int) ≤ (u : Int) := by omega
                                      obtain ⟨gb2, capb, rfl, -, hrb⟩ := hBV
                                      have e0 := hX.cell d0
                                      have e1 := hX.cell d1
                                      have e2 := hX.cell d2
                                      simp only at e0 e1 e2
                                      have HZZ := Lib.hid hzz
                                      have HRB := Lib.hid (hrb.ext hX)
                                      have HC0 := Lib.hid (HCL8.out j _ hp 0 (.int .i64 (f : Nat)) rfl)
                                      have HC1 := Lib.hid (HCL8.out j _ hp 1 (.int .i64 (u : Nat)) rfl)
                                      have HXJ := Lib.hid hX
                                      clear d0 d1 d2 hz3 hp hp3 hdv hrb hcut hzz hpp hX
                                      go_upto_region 68 with fail
                                      obtain ⟨wX, hwX⟩ : ∃ x, x = wr.alloc (.cells #[.int .i64 (f : Nat), .int .i64 (u : Nat), .slice (some ⟨gb2, 0, none⟩) z.size capb] 55) := ⟨_, rfl⟩
                                      have XX : Ext wr wX := by rw [hwX]; exact (Ext.refl wr).alloc _
                                      have hrow1 : RowB wX wr.heap.size 55 [.int .i64 (f : Nat), .int .i64 (u : Nat), .slice (some ⟨gb2, 0, none⟩) z.size capb] := by rw [hwX]; exact row_laid wr 55 [.int .i64 (f : Nat), .int .i64 (u : Nat), .slice (some ⟨gb2, 0, none⟩) z.size capb]
                                      rw [← hwX]
                                      clear hwX e0 e1 e2
                                      have XJ : Ext w8 wX := ((HX89.out.trans HXR.out).trans HXJ.out).trans XX
                                      have r0 := fun q => ((Ext.refl wX).drewN q).cell (hrow1.cell (j := 0) rfl)
                                      have r1 := fun q => ((Ext.refl wX).drewN q).cell (hrow1.cell (j := 1) rfl)
                                      have r2 := fun q => ((Ext.refl wX).drewN q).cell (hrow1.cell (j := 2) rfl)
                                      have s0 := fun q => (XJ.drewN q).cell HC0.out
                                      have s1 := fun q => (XJ.drewN q).cell HC1.out
                                      have HCV1 := Lib.hid (fun q => BytesV.conv (w := wX.drewN q) (B := 0) ⟨gb2, capb, rfl, Nat.zero_le _, HRB.out.ext (XX.drewN q)⟩)
                                      have HCV2 := Lib.hid (fun q => part_conv (cap := cb - f) (HBY.out.ext ((Ext.trans HX8.out XJ).drewN q)) (Nat.le_of_lt hfu) (show u ≤ t.size by rw [HN.out]; exact hun))
                                      have HXX := Lib.hid (HXJ.out.trans XX)
                                      rw [HZZ.out] at HCV2
                                      clear XX XJ hrow1
                                      try simp only [Nat.add_zero] at r0 r1 r2 s0 s1
                                      refine wp_region_quiet_lit (by kernel_rfl) (by kernel_rfl) ?_
                                      repeat (go_big_quiet_step ((go_at_call 13; exact Calls.quiet_of_same ((bytes_same (HCV1.out _) (HCV2.out _)).mono fun _ _ h => ⟨h.1, h.2.symm⟩))))
                                      refine wpQuiet_nil ?_
                                      rintro _ ⟨nq, rfl⟩
                                      go_wp2_with fail
                                      go_roundw
                                      case rel => exact ⟨j + 1, by omega, by go_num, HXX.out.drewN _⟩
                                      case measure => first | (simp [intOf]; omega) | omega
                                    · obtain rfl : j = kk := by omega
                                      go_wp2_with fail
                                      go_ret
                                      exact ⟨rfl, HX10.out.trans hX⟩
                                · exact absurd (hno HQ1.out) (by rw [HRD.out]; simp)
                              · obtain rfl : ev9 = errV 1 := hev
                                clear hyes hnot hx9 m1 m2
                                go_wp2_with fail
                                go_ret
                                exact ⟨rfl, HX9.out⟩
                              · obtain rfl : ev9 = errV 2 := hev
                                clear hyes hnot hx9 m1 m2
                                go_wp2_with fail
                                go_ret
                                exact ⟨rfl, HX9.out⟩
          · have g5' : (8 : Int) < (na : Int) := by omega
            go_enter Tryz.func3, Tryz.ntmps3
            go_wp2_with (go_at_call 4; refine (HAW.out _).mono ?_; rintro e w1 ⟨rfl, hx1⟩)
            go_ret
            exact ⟨rfl, hx1⟩
      · have g3' : (20 : Int) < (nt : Int) := by omega
        go_enter Tryz.func3, Tryz.ntmps3
        go_wp2_with (go_at_call 4; refine (HAW.out _).mono ?_; rintro e w1 ⟨rfl, hx1⟩)
        go_ret
        exact ⟨rfl, hx1⟩
    · have g2' : (20 : Int) < (no : Int) := by omega
      go_enter Tryz.func3, Tryz.ntmps3
      go_wp2_with (go_at_call 4; refine (HAW.out _).mono ?_; rintro e w1 ⟨rfl, hx1⟩)
      go_ret
      exact ⟨rfl, hx1⟩
  · have g1' : (2000 : Int) < (n : Int) := by omega
    go_enter Tryz.func3, Tryz.ntmps3
    go_wp2_with (go_at_call 4; refine (HAW.out _).mono ?_; rintro e w1 ⟨rfl, hx1⟩)
    go_ret
    exact ⟨rfl, hx1⟩
end Go.Proofs.YtlhnejcjeoecaaaGreatDoor
