/- Chapter 20: the reference's Join of bodies with one head. -/
import Derived.Test.YtfjpaacanoocmaaPg2
import Derived.Deep.RegionWith
import Derived.Deep.DeepCutAuto
namespace Go.Proofs.Ytfjpaacanoocmaa
open Go.RowKit Go.Deep Go.Sort
theorem slot_new {wr w5 : World} {d3 t3 len : Nat} {tag : ByteArray} {F : Nat → Option ByteArray} (hX : Ext wr w5) (hr : RefAt w5 d3 t3 len F) :
    Ext wr (w5.alloc (.cells (refL tag len d3 t3).toArray 29)) ∧ RowB (w5.alloc (.cells (refL tag len d3 t3).toArray 29)) w5.heap.size 29 (refL tag len d3 t3) ∧ RefAt (w5.alloc (.cells (refL tag len d3 t3).toArray 29)) d3 t3 len F :=
  ⟨hX.alloc _, RowB.laid _ _ _, hr.ext ((Ext.refl _).alloc _)⟩
def sSt (w : World) (nb : Nat) (tag : ByteArray) (len d t : Nat) : World := (((w.setCell ⟨nb, 0, none⟩ (.string tag)).setCell ⟨nb, 1, none⟩ (.int .i64 len)).setCell ⟨nb, 2, none⟩ (.slice (some ⟨d, 0, none⟩) (npc len) (npc len))).setCell ⟨nb, 3, none⟩ (.slice (some ⟨t, 0, none⟩) (npc len) (npc len))
theorem sSt_kept (w : World) (nb : Nat) (tag : ByteArray) (len d t : Nat) : Kept nb w (sSt w nb tag len d t) := ((((Kept.refl nb w).set _ _).set _ _).set _ _).set _ _
theorem sSt_row {w : World} {nb : Nat} {v0 v1 v2 v3 : Value} (h : RowB w nb 29 [v0, v1, v2, v3]) (tag : ByteArray) (len d t : Nat) : RowB (sSt w nb tag len d t) nb 29 (refL tag len d t) :=
  (((h.set 0 (.string tag) (by simp)).set 1 (.int .i64 len) (by simp)).set 2 (.slice (some ⟨d, 0, none⟩) (npc len) (npc len)) (by simp)).set 3 (.slice (some ⟨t, 0, none⟩) (npc len) (npc len)) (by simp)
theorem slot_set {wr w5 : World} {nb d3 t3 len : Nat} {tag : ByteArray} {F : Nat → Option ByteArray} {v0 v1 v2 v3 : Value} (hX : Ext wr w5) (hnb : wr.heap.size ≤ nb) (hzr : RowB w5 nb 29 [v0, v1, v2, v3]) (hr : RefAt w5 d3 t3 len F) (n1 : d3 ≠ nb) (n2 : t3 ≠ nb) :
    Ext wr (sSt w5 nb tag len d3 t3) ∧ RowB (sSt w5 nb tag len d3 t3) nb 29 (refL tag len d3 t3) ∧ RefAt (sSt w5 nb tag len d3 t3) d3 t3 len F :=
  ⟨(((hX.setCell hnb _).setCell hnb _).setCell hnb _).setCell hnb _, sSt_row hzr tag len d3 t3, hr.of_blocks ((sSt_kept w5 nb tag len d3 t3).2 d3 hr.data.lt n1) ((sSt_kept w5 nb tag len d3 t3).2 t3 hr.there.lt n2)⟩
set_option maxRecDepth 100000 in
set_option maxHeartbeats 8000000 in
theorem rjoin_any {w : World} {d t len d' t' : Nat} {tag : ByteArray} {D E : Nat → Option ByteArray} (h : RefAt w d t len D) (h' : RefAt w d' t' len E) (hl : len ≤ 65536) (q1 : (tag.toList == []) = false) (hok : PcOk len E) :
    Calls Try.prog 34 #[refV tag len d t, refV tag len d' t'] w fun e w' => Ext w w' ∧
      ((e = .returned (.tuple #[refV tag len d t, .int .i64 20]) ∧ ∃ i s s', i < npc len ∧ D i = some s ∧ E i = some s' ∧ s ≠ s') ∨
       ∃ d2 t2, e = .returned (.tuple #[refV tag len d2 t2, .int .i64 0]) ∧ RefAt w' d2 t2 len (jn D E) ∧ ∀ i, i < npc len → ∀ s s', D i = some s → E i = some s' → s = s') := by
  have hn : npc len ≤ 256 := by unfold npc; omega
  have HA := Lib.hid h
  have HE := Lib.hid h'
  clear h h'
  obtain ⟨ws, hws⟩ : ∃ ws, ws = ((w.alloc (.cells (refL tag len d t).toArray 29)).alloc (.cells (refL tag len d' t').toArray 29)).alloc (.cells #[.string ⟨#[]⟩, .int .i64 0, .slice none 0 0, .slice none 0 0] 29) := ⟨_, rfl⟩
  have hX0 : Ext w ws := by rw [hws]; exact (((Ext.refl w).alloc _).alloc _).alloc _
  have R0 : RowB ws w.heap.size 29 (refL tag len d t) := by rw [hws]; exact ((RowB.laid w _ _).ext ((Ext.refl _).alloc _)).ext ((Ext.refl _).alloc _)
  have R1 : RowB ws (w.heap.size + 1) 29 (refL tag len d' t') := by rw [hws]; exact (by simpa using RowB.laid (w.alloc (.cells (refL tag len d t).toArray 29)) 29 (refL tag len d' t') : RowB _ (w.heap.size + 1) _ _).ext ((Ext.refl _).alloc _)
  have R2 : RowB ws (w.heap.size + 1 + 1) 29 [.string ⟨#[]⟩, .int .i64 0, .slice none 0 0, .slice none 0 0] := by rw [hws]; simpa using RowB.laid ((w.alloc (.cells (refL tag len d t).toArray 29)).alloc (.cells (refL tag len d' t').toArray 29)) 29 [.string ⟨#[]⟩, .int .i64 0, .slice none 0 0, .slice none 0 0]
  have HR0 := Lib.hid R0
  have HR1 := Lib.hid R1
  have HR2 := Lib.hid R2
  have a0 := R0.cell (j := 0) rfl
  have a1 := R0.cell (j := 1) rfl
  have a2 := R0.cell (j := 2) rfl
  have a3 := R0.cell (j := 3) rfl
  have b0 := R1.cell (j := 0) rfl
  have b1 := R1.cell (j := 1) rfl
  have q2 : ((len : Int) != (len : Int)) = false := by simp
  clear R0 R1 R2
  go_enter Try.func34, Try.ntmps34
  go_upto_region 1 with fail
  rw [← hws]
  clear hws
  go_upto_region 4 with fail
  obtain ⟨w1, hw1⟩ : ∃ w1, w1 = ws.alloc (.cells #[.string tag, .int .i64 len, .slice (some ⟨d, 0, none⟩) (npc len) (npc len), .slice (some ⟨t, 0, none⟩) (npc len) (npc len)] 29) := ⟨_, rfl⟩
  obtain ⟨ob, hob⟩ : ∃ ob, ob = ws.heap.size := ⟨_, rfl⟩
  have X01 : Ext ws w1 := by rw [hw1]; exact (Ext.refl _).alloc _
  have hRO : RowB w1 ob 29 (refL tag len d t) := by rw [hw1, hob]; exact RowB.laid _ _ _
  have HOB := Lib.hid (show w.heap.size + 1 + 1 < ob ∧ w.heap.size ≤ ob ∧ w.heap.size + 1 ≠ ob ∧ w.heap.size ≠ ob ∧ d ≠ ob ∧ t ≠ ob ∧ d' ≠ ob ∧ t' ≠ ob by
    have h1 := HR2.out.lt
    have h2 := HA.out.data.lt
    have h3 := HA.out.there.lt
    have h4 := HE.out.data.lt
    have h5 := HE.out.there.lt
    have h6 := hX0.size
    omega)
  rw [← hw1, ← hob]
  clear hw1 hob a0 a1 a2 a3 b0 b1
  have HX1 := Lib.hid (hX0.trans X01)
  have HRO := Lib.hid hRO
  have HR01 := Lib.hid (HR0.out.ext X01)
  have HR11 := Lib.hid (HR1.out.ext X01)
  have HR21 := Lib.hid (HR2.out.ext X01)
  have b3 := HR11.out.cell (j := 3) rfl
  clear hRO
  go_wp2_with fail
  clear b3
  go_loopw [32] (fun i wr => ∃ k : Nat, k ≤ npc len ∧ i = .int .i64 k ∧ (∀ i, i < k → ∀ s s', D i = some s → E i = some s' → s = s') ∧ (∃ d2 t2, RowB wr ob 29 (refL tag len d2 t2) ∧ RefAt wr d2 t2 len (jnK D E k) ∧ d2 ≠ ob ∧ t2 ≠ ob ∧ d2 ≠ w.heap.size + 1 + 1 ∧ t2 ≠ w.heap.size + 1 + 1) ∧ Kept ob w1 wr ∧ Ext w wr) (fun i _ => npc len - (intOf i).toNat)
  case atStart => exact ⟨0, by omega, rfl, fun i hi => by omega, ⟨d, t, HRO.out, by rw [jnK_zero]; exact HA.out.ext HX1.out, HOB.out.2.2.2.2.1, HOB.out.2.2.2.2.2.1, by have := HA.out.data.lt; omega, by have := HA.out.there.lt; omega⟩, Kept.refl _ _, HX1.out⟩
  case round =>
    obtain ⟨k, hk, rfl, hfit, ⟨d2, t2, hro, hra, hd2, ht2, hd2', ht2'⟩, hK, hXw⟩ := hrel
    have hr0 := HR01.out.kept (hK.2 _ HR01.out.lt HOB.out.2.2.2.1)
    have hr1 := HR11.out.kept (hK.2 _ HR11.out.lt HOB.out.2.2.1)
    have hr2 := HR21.out.kept (hK.2 _ HR21.out.lt (by have := HOB.out.1; omega))
    have hE1 := HE.out.ext HX1.out
    have hEk := hE1.of_blocks (hK.2 _ hE1.data.lt HOB.out.2.2.2.2.2.2.1) (hK.2 _ hE1.there.lt HOB.out.2.2.2.2.2.2.2)
    clear hE1
    by_cases hlt : k < npc len
    · have hki : (k : Int) < (npc len : Int) := by omega
      have hk6 : k < 256 := by omega
      have b3 := hr1.cell (j := 3) rfl
      have c3 := hEk.there.cell hlt
      have p1 : decide ((k : Int) < 0) = false := by simp
      have p2 : decide (npc len ≤ k) = false := by simp; omega
      have HKK := Lib.hid (And.intro hK hXw)
      have HRO1 := Lib.hid (And.intro hro (And.intro hra (And.intro hd2 (And.intro ht2 (And.intro hd2' ht2')))))
      have HFIT := Lib.hid hfit
      clear hro hra hd2 ht2 hd2' ht2' hK hXw hfit
      cases hEE : E k with
      | none =>
        rw [hEE] at c3
        simp only [Option.isSome_none] at c3
        have HJ := Lib.hid (jnK_miss (D := D) hEE)
        have HF2 := Lib.hid (show ∀ i, i < k + 1 → ∀ s s', D i = some s → E i = some s' → s = s' by
          intro i hi s s' h1 h2
          by_cases e : i = k
          · rw [e, hEE] at h2; cases h2
          · exact HFIT.out i (by omega) s s' h1 h2)
        clear hEE
        go_wp2_with fail
        go_roundw
        case rel => exact ⟨k + 1, hlt, by go_num, HF2.out, ⟨d2, t2, HRO1.out.1, by rw [HJ.out]; exact HRO1.out.2.1, HRO1.out.2.2⟩, HKK.out.1, HKK.out.2⟩
        case measure => simp [intOf]; omega
      | some s =>
        have b2 := hr1.cell (j := 2) rfl
        have c2 := hEk.data.cell hlt
        rw [hEE] at c3 c2
        simp only [Option.isSome_some, Option.getD_some] at c3 c2
        have o0 := HRO1.out.1.cell (j := 0) rfl
        have o1 := HRO1.out.1.cell (j := 1) rfl
        have o2 := HRO1.out.1.cell (j := 2) rfl
        have o3 := HRO1.out.1.cell (j := 3) rfl
        have HZ := Lib.hid (hok k hlt s hEE)
        have HJ := Lib.hid (jnK_hit (D := D) hEE)
        by_cases hcf : jnK D E k k = none ∨ jnK D E k k = some s
        · have HP := Lib.hid (fun W (hW : Ext wr W) => rput_fit (tag := tag) (HRO1.out.2.1.ext hW) hl k hlt s HZ.out hcf)
          have HF2 := Lib.hid (show ∀ i, i < k + 1 → ∀ s s', D i = some s → E i = some s' → s = s' by
            intro i hi x x' h1 h2
            by_cases e : i = k
            · subst e
              have h3 : jnK D E i i = D i := by unfold jnK; rw [if_neg (by omega)]
              rw [h3, h1] at hcf
              rw [hEE] at h2
              obtain rfl := Option.some.inj h2
              rcases hcf with h | h
              · cases h
              · exact Option.some.inj h
            · exact HFIT.out i (by omega) x x' h1 h2)
          clear hcf hEE
          have b2o := fun o => (hr1.ext ((Ext.refl wr).alloc o)).cell (j := 2) rfl
          have c2o : ∀ o, (wr.alloc o).cell? ⟨d', k, none⟩ = some (.string s) := fun o => ((Ext.refl wr).alloc o).cell c2
          have o0o := fun o => (HRO1.out.1.ext ((Ext.refl wr).alloc o)).cell (j := 0) rfl
          have o1o := fun o => (HRO1.out.1.ext ((Ext.refl wr).alloc o)).cell (j := 1) rfl
          have o2o := fun o => (HRO1.out.1.ext ((Ext.refl wr).alloc o)).cell (j := 2) rfl
          have o3o := fun o => (HRO1.out.1.ext ((Ext.refl wr).alloc o)).cell (j := 3) rfl
          go_upto_region 8 with fail
          go_cut [8, 9] (fun pv cv wx => ∃ nb d3 t3, pv = .pointer (some ⟨nb, 0, none⟩) ∧ cv = .int .i64 0 ∧ Ext wr wx ∧ RowB wx nb 29 (refL tag len d3 t3) ∧ RefAt wx d3 t3 len (jnK D E (k + 1)) ∧ d3 ≠ ob ∧ t3 ≠ ob ∧ d3 ≠ w.heap.size + 1 + 1 ∧ t3 ≠ w.heap.size + 1 + 1)
          case first =>
            go_region_with (go_at_call 32; refine (HP.out _ (by repeat' (first | exact Ext.refl _ | refine Ext.drew ?_ | refine Ext.drewN ?_ _ | refine Ext.alloc ?_ _))).mono ?_; rintro e w5 ⟨d3, t3, rfl, hx5, hd5, hr5⟩; first
              | (have hzr : RowB w5 wr.heap.size 29 [.string ⟨#[]⟩, .int .i64 0, .slice none 0 0, .slice none 0 0] := RowB.ext (RowB.ext (RowB.laid _ 29 [.string ⟨#[]⟩, .int .i64 0, .slice none 0 0, .slice none 0 0]) (Ext.refl _)) hx5; have z0 := hzr.cell (j := 0) rfl; have y0 := hzr.frozen (j := 0) (by simp); have z1 := hzr.cell (j := 1) rfl; have y1 := hzr.frozen (j := 1) (by simp); have z2 := hzr.cell (j := 2) rfl; have y2 := hzr.frozen (j := 2) (by simp); have z3 := hzr.cell (j := 3) rfl; have y3 := hzr.frozen (j := 3) (by simp))
              | (have hzr : RowB w5 wr.heap.size 29 [.string ⟨#[]⟩, .int .i64 0, .slice none 0 0, .slice none 0 0] := RowB.ext (RowB.ext (RowB.laid _ 29 [.string ⟨#[]⟩, .int .i64 0, .slice none 0 0, .slice none 0 0]) (Ext.refl _).drew) hx5; have z0 := hzr.cell (j := 0) rfl; have y0 := hzr.frozen (j := 0) (by simp); have z1 := hzr.cell (j := 1) rfl; have y1 := hzr.frozen (j := 1) (by simp); have z2 := hzr.cell (j := 2) rfl; have y2 := hzr.frozen (j := 2) (by simp); have z3 := hzr.cell (j := 3) rfl; have y3 := hzr.frozen (j := 3) (by simp))
              | (have hzr : RowB w5 wr.heap.size 29 [.string ⟨#[]⟩, .int .i64 0, .slice none 0 0, .slice none 0 0] := RowB.ext (RowB.ext (RowB.laid _ 29 [.string ⟨#[]⟩, .int .i64 0, .slice none 0 0, .slice none 0 0]) ((Ext.refl _).drewN _)) hx5; have z0 := hzr.cell (j := 0) rfl; have y0 := hzr.frozen (j := 0) (by simp); have z1 := hzr.cell (j := 1) rfl; have y1 := hzr.frozen (j := 1) (by simp); have z2 := hzr.cell (j := 2) rfl; have y2 := hzr.frozen (j := 2) (by simp); have z3 := hzr.cell (j := 3) rfl; have y3 := hzr.frozen (j := 3) (by simp))
              | skip)
            all_goals go_wp2_with fail
            all_goals (try simp only [Act.put, List.getElem_toArray, List.getElem_cons_succ, List.getElem_cons_zero, List.setIfInBounds_toArray, List.set_cons_succ, List.set_cons_zero])
            all_goals go_meet
            all_goals have XW := Ext.trans (show Ext wr _ from (by repeat' (first | exact Ext.refl _ | refine Ext.drew ?_ | refine Ext.drewN ?_ _ | refine Ext.alloc ?_ _))) hx5
            all_goals have hsz := Nat.le_trans (Ext.size (show Ext wr _ from (by repeat' (first | exact Ext.refl _ | refine Ext.drew ?_ | refine Ext.drewN ?_ _ | refine Ext.alloc ?_ _)))) hd5.1
            all_goals have hsz2 := Nat.le_trans (Ext.size (show Ext wr _ from (by repeat' (first | exact Ext.refl _ | refine Ext.drew ?_ | refine Ext.drewN ?_ _ | refine Ext.alloc ?_ _)))) hd5.2
            all_goals have hob1 := HRO1.out.1.lt
            all_goals have hob2 := HOB.out.1
            all_goals first
              | (obtain ⟨s1, s2, s3⟩ := slot_new (tag := tag) XW hr5; exact ⟨_, d3, t3, rfl, rfl, s1, s2, by rw [HJ.out]; exact s3, by omega, by omega, by omega, by omega⟩)
              | (obtain ⟨s1, s2, s3⟩ := slot_set (tag := tag) XW (Nat.le_refl _) hzr hr5 (by have h := hd5.1; simp at h; omega) (by have h := hd5.2; simp at h; omega); exact ⟨_, d3, t3, rfl, rfl, s1, s2, by rw [HJ.out]; exact s3, by omega, by omega, by omega, by omega⟩)
          case rest =>
            obtain ⟨nb, d3, t3, rfl, rfl, hxc, hrn, hrf, hd3, ht3, hd3', ht3'⟩ := hcut
            have n0 := hrn.cell (j := 0) rfl
            have n1 := hrn.cell (j := 1) rfl
            have n2 := hrn.cell (j := 2) rfl
            have n3 := hrn.cell (j := 3) rfl
            have hro3 := HRO1.out.1.ext hxc
            have p0 := hro3.cell (j := 0) rfl
            have p1' := hro3.cell (j := 1) rfl
            have p2' := hro3.cell (j := 2) rfl
            have p3 := hro3.cell (j := 3) rfl
            have f0 := hro3.frozen (j := 0) (by simp)
            have f1 := hro3.frozen (j := 1) (by simp)
            have f2 := hro3.frozen (j := 2) (by simp)
            have f3 := hro3.frozen (j := 3) (by simp)
            have HN := Lib.hid (sSt_row hro3 tag len d3 t3)
            have HRF := Lib.hid (hrf.of_blocks ((sSt_kept wc ob tag len d3 t3).2 d3 hrf.data.lt hd3) ((sSt_kept wc ob tag len d3 t3).2 t3 hrf.there.lt ht3))
            have HKN := Lib.hid ((HKK.out.1.trans (Kept.of_ext ob hxc)).trans (sSt_kept wc ob tag len d3 t3))
            have hwo : w.heap.size ≤ ob := HOB.out.2.1
            have HXN := Lib.hid (show Ext w (sSt wc ob tag len d3 t3) from ((((HKK.out.2.trans hxc).setCell hwo _).setCell hwo _).setCell hwo _).setCell hwo _)
            have HDT := Lib.hid (And.intro hd3 (And.intro ht3 (And.intro hd3' ht3')))
            clear hro3 hrn hrf hwo b2 c2 b3 c3 o0 o1 o2 o3
            go_wp2_with fail
            go_roundw
            case rel => exact ⟨k + 1, hlt, by go_num, HF2.out, ⟨d3, t3, HN.out, HRF.out, HDT.out⟩, HKN.out, HXN.out⟩
            case measure => simp [intOf]; omega
        · obtain ⟨s', hs'⟩ : ∃ s', jnK D E k k = some s' := by
            cases hj : jnK D E k k with
            | none => exact absurd (.inl hj) hcf
            | some s' => exact ⟨s', rfl⟩
          have hne : (s'.toList == s.toList) = false := by
            rw [beq_eq_false_iff_ne]
            intro e
            rw [ByteArray.toList_eq, ByteArray.toList_eq] at e
            exact hcf (.inr (by rw [hs', ByteArray.ext (Array.toList_inj.1 e)]))
          have HCF := Lib.hid (show ∃ i s s', i < npc len ∧ D i = some s ∧ E i = some s' ∧ s ≠ s' from ⟨k, s', s, hlt, by rw [← hs']; unfold jnK; rw [if_neg (by omega)], hEE, fun e => by rw [e] at hne; simp at hne⟩)
          have HP2 := Lib.hid (fun W (hW : Ext wr W) => rput_mixed (tag := tag) (HRO1.out.2.1.ext hW) hl k hlt s s' HZ.out hs' hne)
          clear hcf hEE hs' hne
          have b2o := fun o => (hr1.ext ((Ext.refl wr).alloc o)).cell (j := 2) rfl
          have c2o : ∀ o, (wr.alloc o).cell? ⟨d', k, none⟩ = some (.string s) := fun o => ((Ext.refl wr).alloc o).cell c2
          have o0o := fun o => (HRO1.out.1.ext ((Ext.refl wr).alloc o)).cell (j := 0) rfl
          have o1o := fun o => (HRO1.out.1.ext ((Ext.refl wr).alloc o)).cell (j := 1) rfl
          have o2o := fun o => (HRO1.out.1.ext ((Ext.refl wr).alloc o)).cell (j := 2) rfl
          have o3o := fun o => (HRO1.out.1.ext ((Ext.refl wr).alloc o)).cell (j := 3) rfl
          have HRR0 := Lib.hid hr0
          have HRR2 := Lib.hid hr2
          clear hr0 hr2
          go_upto_region 8 with fail
          go_cut [9] (fun cv wx => cv = .int .i64 20 ∧ Ext wr wx)
          case first =>
            go_region_with (go_at_call 32; refine (HP2.out _ (by repeat' (first | exact Ext.refl _ | refine Ext.drew ?_ | refine Ext.drewN ?_ _ | refine Ext.alloc ?_ _))).mono ?_; rintro e w5 ⟨rfl, hx5⟩; first
              | (have hzr : RowB w5 wr.heap.size 29 [.string ⟨#[]⟩, .int .i64 0, .slice none 0 0, .slice none 0 0] := RowB.ext (RowB.ext (RowB.laid _ 29 [.string ⟨#[]⟩, .int .i64 0, .slice none 0 0, .slice none 0 0]) (Ext.refl _)) hx5; have z0 := hzr.cell (j := 0) rfl; have y0 := hzr.frozen (j := 0) (by simp); have z1 := hzr.cell (j := 1) rfl; have y1 := hzr.frozen (j := 1) (by simp); have z2 := hzr.cell (j := 2) rfl; have y2 := hzr.frozen (j := 2) (by simp); have z3 := hzr.cell (j := 3) rfl; have y3 := hzr.frozen (j := 3) (by simp))
              | (have hzr : RowB w5 wr.heap.size 29 [.string ⟨#[]⟩, .int .i64 0, .slice none 0 0, .slice none 0 0] := RowB.ext (RowB.ext (RowB.laid _ 29 [.string ⟨#[]⟩, .int .i64 0, .slice none 0 0, .slice none 0 0]) (Ext.refl _).drew) hx5; have z0 := hzr.cell (j := 0) rfl; have y0 := hzr.frozen (j := 0) (by simp); have z1 := hzr.cell (j := 1) rfl; have y1 := hzr.frozen (j := 1) (by simp); have z2 := hzr.cell (j := 2) rfl; have y2 := hzr.frozen (j := 2) (by simp); have z3 := hzr.cell (j := 3) rfl; have y3 := hzr.frozen (j := 3) (by simp))
              | (have hzr : RowB w5 wr.heap.size 29 [.string ⟨#[]⟩, .int .i64 0, .slice none 0 0, .slice none 0 0] := RowB.ext (RowB.ext (RowB.laid _ 29 [.string ⟨#[]⟩, .int .i64 0, .slice none 0 0, .slice none 0 0]) ((Ext.refl _).drewN _)) hx5; have z0 := hzr.cell (j := 0) rfl; have y0 := hzr.frozen (j := 0) (by simp); have z1 := hzr.cell (j := 1) rfl; have y1 := hzr.frozen (j := 1) (by simp); have z2 := hzr.cell (j := 2) rfl; have y2 := hzr.frozen (j := 2) (by simp); have z3 := hzr.cell (j := 3) rfl; have y3 := hzr.frozen (j := 3) (by simp))
              | skip)
            all_goals go_wp2_with fail
            all_goals (try simp only [Act.put, List.getElem_toArray, List.getElem_cons_succ, List.getElem_cons_zero, List.setIfInBounds_toArray, List.set_cons_succ, List.set_cons_zero])
            all_goals go_meet
            all_goals have XW := Ext.trans (show Ext wr _ from (by repeat' (first | exact Ext.refl _ | refine Ext.drew ?_ | refine Ext.drewN ?_ _ | refine Ext.alloc ?_ _))) hx5
            all_goals first
              | exact ⟨rfl, XW.alloc _⟩
              | exact ⟨rfl, (((XW.setCell (Nat.le_refl _) _).setCell (Nat.le_refl _) _).setCell (Nat.le_refl _) _).setCell (Nat.le_refl _) _⟩
          case rest =>
            obtain ⟨rfl, hxc⟩ := hcut
            have hrb := HRR0.out.ext hxc
            have hrs := HRR2.out.ext hxc
            have XC := HKK.out.2.trans hxc
            have e0 := hrb.cell (j := 0) rfl
            have e1 := hrb.cell (j := 1) rfl
            have e2 := hrb.cell (j := 2) rfl
            have e3 := hrb.cell (j := 3) rfl
            have z0 := hrs.cell (j := 0) rfl
            have z1 := hrs.cell (j := 1) rfl
            have z2 := hrs.cell (j := 2) rfl
            have z3 := hrs.cell (j := 3) rfl
            have f0 := hrs.frozen (j := 0) (by simp)
            have f1 := hrs.frozen (j := 1) (by simp)
            have f2 := hrs.frozen (j := 2) (by simp)
            have f3 := hrs.frozen (j := 3) (by simp)
            have HY := Lib.hid (sSt_row hrs tag len d t)
            have hws2 : w.heap.size ≤ w.heap.size + 1 + 1 := by omega
            have HXE := Lib.hid (show Ext w (sSt wc (w.heap.size + 1 + 1) tag len d t) from (((XC.setCell hws2 _).setCell hws2 _).setCell hws2 _).setCell hws2 _)
            clear hrb hrs XC hws2 b2 c2 b3 c3 o0 o1 o2 o3 b2o c2o o0o o1o o2o o3o
            go_wp2_with fail
            have y0 := HY.out.cell (j := 0) rfl
            have y1 := HY.out.cell (j := 1) rfl
            have y2 := HY.out.cell (j := 2) rfl
            have y3 := HY.out.cell (j := 3) rfl
            unfold sSt at y0 y1 y2 y3
            refine bodyPost_ret (by simp [results, Try.results34, go_sem, y0, y1, y2, y3]; try rfl) rfl ?_
            exact ⟨HXE.out, .inl ⟨rfl, HCF.out⟩⟩
    · obtain rfl : k = npc len := by omega
      have hrs := hr2
      have e0 := hro.cell (j := 0) rfl
      have e1 := hro.cell (j := 1) rfl
      have e2 := hro.cell (j := 2) rfl
      have e3 := hro.cell (j := 3) rfl
      have z0 := hrs.cell (j := 0) rfl
      have z1 := hrs.cell (j := 1) rfl
      have z2 := hrs.cell (j := 2) rfl
      have z3 := hrs.cell (j := 3) rfl
      have f0 := hrs.frozen (j := 0) (by simp)
      have f1 := hrs.frozen (j := 1) (by simp)
      have f2 := hrs.frozen (j := 2) (by simp)
      have f3 := hrs.frozen (j := 3) (by simp)
      have HY := Lib.hid (sSt_row hrs tag len d2 t2)
      have hws2 : w.heap.size ≤ w.heap.size + 1 + 1 := by omega
      have HXE := Lib.hid (show Ext w (sSt wr (w.heap.size + 1 + 1) tag len d2 t2) from (((hXw.setCell hws2 _).setCell hws2 _).setCell hws2 _).setCell hws2 _)
      have HFIT := Lib.hid hfit
      have hx1 : w.heap.size + 1 + 1 < wr.heap.size := hr2.lt
      have HRF := Lib.hid (show d2 ≠ w.heap.size + 1 + 1 → t2 ≠ w.heap.size + 1 + 1 → RefAt (sSt wr (w.heap.size + 1 + 1) tag len d2 t2) d2 t2 len (jn D E) from fun n1 n2 => (hra.of_blocks ((sSt_kept wr _ tag len d2 t2).2 d2 hra.data.lt n1) ((sSt_kept wr _ tag len d2 t2).2 t2 hra.there.lt n2)).congr fun j hj => by unfold jnK; rw [if_pos hj]; rfl)
      clear hrs hws2 hro hra hr0 hr1 hr2 hEk hK hXw hfit hx1
      go_wp2_with fail
      have y0 := HY.out.cell (j := 0) rfl
      have y1 := HY.out.cell (j := 1) rfl
      have y2 := HY.out.cell (j := 2) rfl
      have y3 := HY.out.cell (j := 3) rfl
      unfold sSt at y0 y1 y2 y3
      refine bodyPost_ret (by simp [results, Try.results34, go_sem, y0, y1, y2, y3]; try rfl) rfl ?_
      exact ⟨HXE.out, .inr ⟨d2, t2, rfl, HRF.out hd2' ht2', fun i hi => HFIT.out i hi⟩⟩
end Go.Proofs.Ytfjpaacanoocmaa
