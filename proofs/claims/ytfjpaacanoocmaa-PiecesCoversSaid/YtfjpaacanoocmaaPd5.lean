/- Chapter 20: the law PiecesCovers, walked. -/
import Derived.Test.YtfjpaacanoocmaaPd6
import Derived.Test.YtfjpaacanoocmaaPcT
import Derived.Test.YtfjpaacanoocmaaOne
namespace Go.Proofs.Ytfjpaacanoocmaa
open Go.RowKit Go.Deep Go.Sort

theorem conv_none (W : World) : (convert 38 9 (.slice none 0 0)).run Try.prog W = .ok (.string ⟨#[]⟩) W := by kernel_rfl
theorem conv_made {w w' : World} {B : Nat} {v : Value} {xs : List Int} (h : BytesOwn w B v xs) (hx : Ext w w') : (convert 38 9 v).run Try.prog w' = .ok (.string (strOfNums xs)) w' := by
  obtain ⟨A, cap, rfl⟩ := h.shape
  rcases h.2 with ⟨e, e2⟩ | ⟨g, cap', cur, e, hb, hh, hl, hm, hc, ht⟩
  · have e0 : xs = [] := List.eq_nil_of_length_eq_zero e2
    subst e0
    rw [e]
    exact conv_none w'
  · have ha : A = some ⟨g, 0, none⟩ := by injection e
    subst ha
    refine run_convert_bytes_arg w' 38 5 Try.underlying38 Try.underlying5 g 0 xs.length cap xs rfl (fun i hi => ?_) 9 Try.underlying9
    obtain ⟨g', e1, -, -, e4⟩ := h.cell i hi
    have eg : g = g' := by simpa using e1
    subst eg
    rw [Nat.zero_add, hx.cell e4]
    simp [List.getD]
theorem pJ_self (t : ByteArray) (b : Nat) : hD t b = pJ t b b := by
  funext i
  show hD t b i = (hD t b i).or (hD t b i)
  cases hD t b i <;> rfl
theorem pcs_same (f : Nat) : pcs f f = [] := by unfold pcs; rw [if_neg (by omega)]
theorem gaps_same {f u : Nat} (h : f = u) (D : Nat → Option ByteArray) : gaps D (pcs f u) = [] := by rw [h, pcs_same]; rfl
set_option maxRecDepth 100000 in
set_option maxHeartbeats 8000000 in
theorem covers_law (n bits p0 p1 : Nat) (hn : n < 65536) (hb8 : bits < 256) (hp0 : p0 < 65536) (hp1 : p1 < 65536) (w : World) :
    Calls Try.prog 5 #[.int .u16 n, .int .u8 bits, .agg #[.int .u16 p0, .int .u16 p1]] w fun e w' => e = .returned (.bool true) ∧ Ext w w' := by
  obtain ⟨m, hm⟩ : ∃ m, n % 1300 = m := ⟨_, rfl⟩
  have hm2 : m < 1300 := by omega
  have HT := Lib.hid (fun W => text_any n 5 hn W)
  rw [hm] at HT
  obtain ⟨t, ht⟩ : ∃ t, t = txS m 5 := ⟨_, rfl⟩
  have hts : t.size = m := by rw [ht, txS_size]
  rw [← ht] at HT
  have HTS := Lib.hid hts
  clear hm ht
  have hm64 : m ≤ 65536 := by omega
  obtain ⟨ra, hra⟩ : ∃ ra, ra = w.heap.size := ⟨_, rfl⟩
  have HRA := Lib.hid (show RowB (w.alloc (.cells #[.int .u16 p0, .int .u16 p1] 46)) ra 46 [.int .u16 p0, .int .u16 p1] by rw [hra]; exact RowB.laid w 46 [.int .u16 p0, .int .u16 p1])
  have X0 : Ext w (w.alloc (.cells #[.int .u16 p0, .int .u16 p1] 46)) := (Ext.refl w).alloc _
  go_enter Try.func5, Try.ntmps5
  go_upto_region 4 with (first
      | (go_at_call 9; refine (awake_any _).mono ?_; rintro e w1 ⟨rfl, hx1⟩)
      | (go_at_call 10; refine (HT.out _).mono ?_; rintro e w2 ⟨rfl, hx2⟩))
  rw [← hra]
  clear hra
  go_upto_region 7 with (go_at_call 11; refine (held_ok _ t bits (by have := HTS.out; omega) hb8 _).mono ?_; rw [HTS.out]; rintro e w3 ⟨b, l, d, s, rfl, hx3, hB3, hA3, hN3⟩)
  clear hA3 hN3
  have X3 := (hx1.trans hx2).trans hx3
  obtain ⟨w4, hw4⟩ : ∃ w4, w4 = w3.alloc (.cells #[.string ⟨#[]⟩, .int .i64 m, .slice (some ⟨d, 0, none⟩) (npc m) (npc m), .slice (some ⟨s, 0, none⟩) (npc m) (npc m)] 29) := ⟨_, rfl⟩
  rw [← hw4]
  have X34 : Ext w3 w4 := by rw [hw4]; exact (Ext.refl w3).alloc _
  clear hw4
  have HB4 := Lib.hid (hB3.ext X34)
  have HRA4 := Lib.hid (HRA.out.ext (X3.trans X34))
  have X4 : Ext w w4 := X0.trans (X3.trans X34)
  clear hB3 X3 X34 hx1 hx2 hx3 X0
  have a0 : ∀ q, (w4.drewN q).cell? ⟨ra, 0, none⟩ = some (.int .u16 p0) := fun q => (HRA4.out.ext ((Ext.refl w4).drewN q)).cell (j := 0) rfl
  have a1 : ∀ q, (w4.drewN q).cell? ⟨ra, 1, none⟩ = some (.int .u16 p1) := fun q => (HRA4.out.ext ((Ext.refl w4).drewN q)).cell (j := 1) rfl
  obtain ⟨f, hf⟩ : ∃ f : Nat, f = min p0 p1 := ⟨_, rfl⟩
  obtain ⟨u, hu⟩ : ∃ u : Nat, u = max p0 p1 := ⟨_, rfl⟩
  have e1 : min (p0 : Int) (p1 : Int) = (f : Int) := by omega
  have e2 : max (p0 : Int) (p1 : Int) = (u : Int) := by omega
  have hul : u < 65536 := by omega
  have hfl : f < 65536 := by omega
  have hfu : f ≤ u := by omega
  clear hf hu
  refine wp_region_quiet_lit (by kernel_rfl) (by kernel_rfl) ?_
  repeat (first | go_big_quiet_step (fail) | (refine wpQuiet_max rfl _ _ _ rfl .u16 .u16 p0 p1 rfl rfl ?_; rw [e2]; simp only [Act.put, List.setIfInBounds_toArray, List.set_cons_succ, List.set_cons_zero]) | (refine wpQuiet_min rfl _ _ _ rfl .u16 .u16 p0 p1 rfl rfl ?_; rw [e1]; simp only [Act.put, List.setIfInBounds_toArray, List.set_cons_succ, List.set_cons_zero]))
  refine wpQuiet_nil ?_
  rintro _ ⟨nq, rfl⟩
  clear a0 a1 e1 e2
  obtain ⟨w5, hw5⟩ : ∃ w5, w5 = w4.drewN nq := ⟨_, rfl⟩
  rw [← hw5]
  have X5 : Ext w w5 := by rw [hw5]; exact X4.drewN nq
  have HB5 := Lib.hid (show BodyAt w5 w2.heap.size (fun _ => False) b l ⟨#[]⟩ m (hD t bits) by rw [hw5]; exact HB4.out.ext ((Ext.refl w4).drewN nq))
  clear hw5 HRA4 X4 HB4
  have X5a : Ext w5 (w5.alloc (.cells #[.int .i64 f, .int .i64 u] 43)) := (Ext.refl w5).alloc _
  have HR := Lib.hid (RowB.laid w5 43 [.int .i64 f, .int .i64 u])
  go_upto_region 9 with fail
  by_cases hum : u ≤ m
  · have hokD := Lib.hid (hD_ok (a := bits) HTS.out)
    have hm13 : (m : Int) < 1300 := by omega
    have q0 : ¬ (m : Int) < (u : Int) := by omega
    by_cases hg : gaps (hD t bits) (pcs f u) = []
    · have HG := Lib.hid hg
      have hmf := mg_facts _ (hlK_ok (hD t bits) hm64) (hlK_pw m (hD t bits) (npc m))
      have hml : (mg (hlK m (hD t bits) (npc m))).length ≤ 12 := Nat.le_trans (mg_length _) (Nat.le_trans (hlK_length _ _ _) (by unfold npc; omega))
      have HCO : Hid (∀ (W : World) (B : Nat) (v : Value), RngOwn W B v (mg (hlK m (hD t bits) (npc m))) → (mg (hlK m (hD t bits) (npc m)) = [] → v = .slice none 0 0) → Calls Try.prog 23 #[v, rngV f u] W fun e w' => e = .returned (.bool true) ∧ Ext W w') := fun W B v h hn => cover_any h hn hml hmf.2.1 (sep_le hmf.1 hmf.2.1) f u true (fun h => by rw [cover_gaps _ hm64 hum h]; simp [hg]) (fun _ => rfl)
      clear hmf hml
      have hxt : strOfNums (rdL (hD t bits) f u) = t.extract f u := by rw [pJ_self]; exact rd_text (by rw [← pJ_self]; exact hg) (by rw [HTS.out]; exact hum) hfu
      obtain ⟨x, hx⟩ : ∃ x, t.extract f u = x := ⟨_, rfl⟩
      rw [hx] at hxt
      have HXT := Lib.hid hxt
      clear hg hxt
      go_upto_region 12 with (go_at_call 18; refine (read_ok (HB5.out.ext X5a) hokD.out f u hm64 hfu hum HG.out).mono ?_; rintro e w6 ⟨v1, rfl, hx6, ho6⟩)
      have HB6 := Lib.hid (HB5.out.ext (X5a.trans hx6))
      have HR6 := Lib.hid (HR.out.ext hx6)
      have X6 := X5.trans (X5a.trans hx6)
      have r0 := HR6.out.cell (j := 0) rfl
      have r1 := HR6.out.cell (j := 1) rfl
      go_cut [16] (fun v wx => v = .bool true ∧ Ext w6 wx)
      case first =>
        go_region_with (first
          | (go_at_call 24; refine (held_rng (HB6.out.ext (Ext.refl w6).drew) hokD.out (by omega)).mono ?_; rintro e w7 ⟨v7, rfl, hx7, ho7, hn7⟩; have s0 := (HR6.out.ext ((Ext.refl w6).drew.trans hx7)).cell (j := 0) rfl; have s1 := (HR6.out.ext ((Ext.refl w6).drew.trans hx7)).cell (j := 1) rfl)
          | (go_at_call 23; refine (HCO.out _ _ _ ho7 hn7).mono ?_; rintro e w8 ⟨rfl, hx8⟩))
        all_goals go_wp2_with fail
        all_goals (try simp only [Act.put, List.getElem_toArray, List.getElem_cons_succ, List.getElem_cons_zero, List.setIfInBounds_toArray, List.set_cons_succ, List.set_cons_zero])
        all_goals go_meet
        all_goals exact ⟨rfl, ((Ext.refl w6).drew.trans hx7).trans hx8⟩
      case rest =>
        obtain ⟨rfl, hxc⟩ := hcut
        have HBc := Lib.hid (HB6.out.ext hxc)
        have HRc := Lib.hid (HR6.out.ext hxc)
        have Xc := X6.trans hxc
        clear r0 r1
        have r0 : ∀ n : Wd wc, n.val.cell? ⟨w5.heap.size, 0, none⟩ = some (.int .i64 f) := fun n => (HRc.out.ext n.ext).cell (j := 0) rfl
        have r1 : ∀ n : Wd wc, n.val.cell? ⟨w5.heap.size, 1, none⟩ = some (.int .i64 u) := fun n => (HRc.out.ext n.ext).cell (j := 1) rfl
        have hcv : ∀ n : Wd wc, (convert 38 9 v1).run Try.prog n.val = .ok (.string x) n.val := fun n => by rw [conv_made ho6 (hxc.trans n.ext), HXT.out]
        have hsz : t.size = m := HTS.out
        have q1 : decide (f ≤ u) = true := decide_eq_true hfu
        go_upto_region 13 with fail
        refine wp_region_wd (by kernel_rfl) (by kernel_rfl) ?_
        repeat (go_big_quiet_step ((go_at_call 22; exact Calls.wd_of (missing_none (HBc.out.ext (Wd.ext _)) f u f u hm64 (by omega) (by omega) (by omega) HG.out))))
        refine wpQuiet_nil ?_
        rintro _ ⟨nn, rfl⟩
        go_wp2_with fail
        go_ret
        exact ⟨rfl, Xc.trans nn.ext⟩
    · have HG := Lib.hid hg
      have hmf := mg_facts _ (hlK_ok (hD t bits) hm64) (hlK_pw m (hD t bits) (npc m))
      have hml : (mg (hlK m (hD t bits) (npc m))).length ≤ 12 := Nat.le_trans (mg_length _) (Nat.le_trans (hlK_length _ _ _) (by unfold npc; omega))
      have HCO : Hid (∀ (W : World) (B : Nat) (v : Value), RngOwn W B v (mg (hlK m (hD t bits) (npc m))) → (mg (hlK m (hD t bits) (npc m)) = [] → v = .slice none 0 0) → Calls Try.prog 23 #[v, rngV f u] W fun e w' => e = .returned (.bool false) ∧ Ext W w') := fun W B v h hn => cover_any h hn hml hmf.2.1 (sep_le hmf.1 hmf.2.1) f u false (fun h => by rw [cover_gaps _ hm64 hum h]; simp [hg]) (fun h => (hg (gaps_same (by omega) _)).elim)
      clear hmf hml
      have hpos : 0 < (gaps (hD t bits) (pcs f u)).length := List.length_pos_iff.2 hg
      obtain ⟨z, hz⟩ : ∃ z, (gaps (hD t bits) (pcs f u)).length = z := ⟨_, rfl⟩
      rw [hz] at hpos
      have HZ := Lib.hid hz
      have hz0 : ((z : Int) == 0) = false := by rw [beq_eq_false_iff_ne]; omega
      clear hg hz
      go_upto_region 12 with (go_at_call 18; refine (read_none (HB5.out.ext X5a) f u hm64 hfu hum HG.out).mono ?_; rintro e w6 ⟨rfl, hx6⟩)
      have HB6 := Lib.hid (HB5.out.ext (X5a.trans hx6))
      have HR6 := Lib.hid (HR.out.ext hx6)
      have X6 := X5.trans (X5a.trans hx6)
      have r0 := HR6.out.cell (j := 0) rfl
      have r1 := HR6.out.cell (j := 1) rfl
      go_cut [16] (fun v wx => v = .bool false ∧ Ext w6 wx)
      case first =>
        go_region_with (first
          | (go_at_call 24; refine (held_rng (HB6.out.ext (Ext.refl w6).drew) hokD.out (by omega)).mono ?_; rintro e w7 ⟨v7, rfl, hx7, ho7, hn7⟩; have s0 := (HR6.out.ext ((Ext.refl w6).drew.trans hx7)).cell (j := 0) rfl; have s1 := (HR6.out.ext ((Ext.refl w6).drew.trans hx7)).cell (j := 1) rfl)
          | (go_at_call 23; refine (HCO.out _ _ _ ho7 hn7).mono ?_; rintro e w8 ⟨rfl, hx8⟩))
        all_goals go_wp2_with fail
        all_goals (try simp only [Act.put, List.getElem_toArray, List.getElem_cons_succ, List.getElem_cons_zero, List.setIfInBounds_toArray, List.set_cons_succ, List.set_cons_zero])
        all_goals go_meet
        all_goals exact ⟨rfl, ((Ext.refl w6).drew.trans hx7).trans hx8⟩
      case rest =>
        obtain ⟨rfl, hxc⟩ := hcut
        have HBc := Lib.hid (HB6.out.ext hxc)
        have HRc := Lib.hid (HR6.out.ext hxc)
        have Xc := X6.trans hxc
        clear r0 r1
        have r0 := HRc.out.cell (j := 0) rfl
        have r1 := HRc.out.cell (j := 1) rfl
        have hsz : t.size = m := HTS.out
        have q1 : decide (f ≤ u) = true := decide_eq_true hfu
        go_upto_region 13 with fail
        have R0 := Lib.hid r0
        have R1 := Lib.hid r1
        clear r0 r1
        have r0 : ∀ n : Wd wc, n.val.cell? ⟨w5.heap.size, 0, none⟩ = some (.int .i64 f) := fun n => n.ext.cell R0.out
        have r1 : ∀ n : Wd wc, n.val.cell? ⟨w5.heap.size, 1, none⟩ = some (.int .i64 u) := fun n => n.ext.cell R1.out
        refine wp_region_one (C := fun w' => ∃ m : Wd wc, w' = m.val) (Q := fun a' => ∀ w', (∃ m : Wd wc, w' = m.val) → (Exit.then _ _) .normal a' w') (i := 3) (by kernel_rfl) ⟨⟨wc.drew, (Ext.refl wc).drew⟩, rfl⟩ (fun a w hc h => h w hc) ?_
        refine wpOne_step [0, 1, 2] (by kernel_rfl) (by simp) ?_
        intro j hj
        simp only [List.mem_cons, List.not_mem_nil, or_false] at hj
        rcases hj with rfl | rfl | rfl
        · refine .inr ⟨by decide, ?_⟩
          unfold qOp
          simp only [List.getElem?_toArray, List.getElem?_cons_zero]
          rw [if_pos (by kernel_rfl)]
          go_big_quiet_op
          refine wpOne_step [1, 2] (by kernel_rfl) (by simp) ?_
          intro j hj
          simp only [List.mem_cons, List.not_mem_nil, or_false] at hj
          rcases hj with rfl | rfl
          · refine .inr ⟨by decide, ?_⟩
            unfold qOp
            simp only [List.getElem?_toArray, List.getElem?_cons_succ, List.getElem?_cons_zero]
            rw [if_pos (by kernel_rfl)]
            go_big_quiet_op
            refine wpOne_step [2] (by kernel_rfl) (by simp) ?_
            intro j hj
            simp only [List.mem_cons, List.not_mem_nil, or_false] at hj
            subst hj
            refine .inr ⟨by decide, ?_⟩
            unfold qOp
            simp only [List.getElem?_toArray, List.getElem?_cons_succ, List.getElem?_cons_zero]
            rw [if_pos (by kernel_rfl)]
            go_big_quiet_op
            refine wpOne_step [3] (by kernel_rfl) (by simp) ?_
            intro j hj
            simp only [List.mem_cons, List.not_mem_nil, or_false] at hj
            subst hj
            refine .inl ⟨rfl, fun w hw => ?_⟩
            obtain ⟨mm, rfl⟩ := hw
            unfold wpOp
            simp only [List.getElem?_toArray, List.getElem?_cons_succ, List.getElem?_cons_zero]
            rw [if_pos (by kernel_rfl)]
            refine .inl ?_
            go_simp
            go_at_call 22
            refine (missing_any (HBc.out.ext mm.ext) f u f u hm64 (by omega) (by omega) (by omega)).mono ?_
            rintro e w9 ⟨v9, rfl, hx9, ho9⟩
            obtain ⟨A9, cap9, rfl, -, -⟩ := ho9.shape
            rw [HZ.out]
            refine ⟨⟨⟨w9, mm.ext.trans hx9⟩, rfl⟩, ?_⟩
            refine anyQ_lex_of 4 23 (by kernel_rfl) (by kernel_rfl) (by kernel_rfl) ?_
            simp only [List.drop_succ_cons, List.drop_zero]
            repeat (go_big_quiet_step (fail))
            refine wpQuiet_nil ?_
            intro nn
            go_wp2_with fail
            go_ret
            exact ⟨rfl, Xc.trans nn.ext⟩
          · refine .inr ⟨by decide, ?_⟩
            unfold qOp
            simp only [List.getElem?_toArray, List.getElem?_cons_succ, List.getElem?_cons_zero]
            rw [if_pos (by kernel_rfl)]
            go_big_quiet_op
            refine wpOne_step [1] (by kernel_rfl) (by simp) ?_
            intro j hj
            simp only [List.mem_cons, List.not_mem_nil, or_false] at hj
            subst hj
            refine .inr ⟨by decide, ?_⟩
            unfold qOp
            simp only [List.getElem?_toArray, List.getElem?_cons_succ, List.getElem?_cons_zero]
            rw [if_pos (by kernel_rfl)]
            go_big_quiet_op
            refine wpOne_step [3] (by kernel_rfl) (by simp) ?_
            intro j hj
            simp only [List.mem_cons, List.not_mem_nil, or_false] at hj
            subst hj
            refine .inl ⟨rfl, fun w hw => ?_⟩
            obtain ⟨mm, rfl⟩ := hw
            unfold wpOp
            simp only [List.getElem?_toArray, List.getElem?_cons_succ, List.getElem?_cons_zero]
            rw [if_pos (by kernel_rfl)]
            refine .inl ?_
            go_simp
            go_at_call 22
            refine (missing_any (HBc.out.ext mm.ext) f u f u hm64 (by omega) (by omega) (by omega)).mono ?_
            rintro e w9 ⟨v9, rfl, hx9, ho9⟩
            obtain ⟨A9, cap9, rfl, -, -⟩ := ho9.shape
            rw [HZ.out]
            refine ⟨⟨⟨w9, mm.ext.trans hx9⟩, rfl⟩, ?_⟩
            refine anyQ_lex_of 4 23 (by kernel_rfl) (by kernel_rfl) (by kernel_rfl) ?_
            simp only [List.drop_succ_cons, List.drop_zero]
            repeat (go_big_quiet_step (fail))
            refine wpQuiet_nil ?_
            intro nn
            go_wp2_with fail
            go_ret
            exact ⟨rfl, Xc.trans nn.ext⟩
        · refine .inr ⟨by decide, ?_⟩
          unfold qOp
          simp only [List.getElem?_toArray, List.getElem?_cons_succ, List.getElem?_cons_zero]
          rw [if_pos (by kernel_rfl)]
          go_big_quiet_op
          refine wpOne_step [0, 2] (by kernel_rfl) (by simp) ?_
          intro j hj
          simp only [List.mem_cons, List.not_mem_nil, or_false] at hj
          rcases hj with rfl | rfl
          · refine .inr ⟨by decide, ?_⟩
            unfold qOp
            simp only [List.getElem?_toArray, List.getElem?_cons_zero]
            rw [if_pos (by kernel_rfl)]
            go_big_quiet_op
            refine wpOne_step [2] (by kernel_rfl) (by simp) ?_
            intro j hj
            simp only [List.mem_cons, List.not_mem_nil, or_false] at hj
            subst hj
            refine .inr ⟨by decide, ?_⟩
            unfold qOp
            simp only [List.getElem?_toArray, List.getElem?_cons_succ, List.getElem?_cons_zero]
            rw [if_pos (by kernel_rfl)]
            go_big_quiet_op
            refine wpOne_step [3] (by kernel_rfl) (by simp) ?_
            intro j hj
            simp only [List.mem_cons, List.not_mem_nil, or_false] at hj
            subst hj
            refine .inl ⟨rfl, fun w hw => ?_⟩
            obtain ⟨mm, rfl⟩ := hw
            unfold wpOp
            simp only [List.getElem?_toArray, List.getElem?_cons_succ, List.getElem?_cons_zero]
            rw [if_pos (by kernel_rfl)]
            refine .inl ?_
            go_simp
            go_at_call 22
            refine (missing_any (HBc.out.ext mm.ext) f u f u hm64 (by omega) (by omega) (by omega)).mono ?_
            rintro e w9 ⟨v9, rfl, hx9, ho9⟩
            obtain ⟨A9, cap9, rfl, -, -⟩ := ho9.shape
            rw [HZ.out]
            refine ⟨⟨⟨w9, mm.ext.trans hx9⟩, rfl⟩, ?_⟩
            refine anyQ_lex_of 4 23 (by kernel_rfl) (by kernel_rfl) (by kernel_rfl) ?_
            simp only [List.drop_succ_cons, List.drop_zero]
            repeat (go_big_quiet_step (fail))
            refine wpQuiet_nil ?_
            intro nn
            go_wp2_with fail
            go_ret
            exact ⟨rfl, Xc.trans nn.ext⟩
          · refine .inr ⟨by decide, ?_⟩
            unfold qOp
            simp only [List.getElem?_toArray, List.getElem?_cons_succ, List.getElem?_cons_zero]
            rw [if_pos (by kernel_rfl)]
            go_big_quiet_op
            refine wpOne_step [0, 3] (by kernel_rfl) (by simp) ?_
            intro j hj
            simp only [List.mem_cons, List.not_mem_nil, or_false] at hj
            rcases hj with rfl | rfl
            · refine .inr ⟨by decide, ?_⟩
              unfold qOp
              simp only [List.getElem?_toArray, List.getElem?_cons_zero]
              rw [if_pos (by kernel_rfl)]
              go_big_quiet_op
              refine wpOne_step [3] (by kernel_rfl) (by simp) ?_
              intro j hj
              simp only [List.mem_cons, List.not_mem_nil, or_false] at hj
              subst hj
              refine .inl ⟨rfl, fun w hw => ?_⟩
              obtain ⟨mm, rfl⟩ := hw
              unfold wpOp
              simp only [List.getElem?_toArray, List.getElem?_cons_succ, List.getElem?_cons_zero]
              rw [if_pos (by kernel_rfl)]
              refine .inl ?_
              go_simp
              go_at_call 22
              refine (missing_any (HBc.out.ext mm.ext) f u f u hm64 (by omega) (by omega) (by omega)).mono ?_
              rintro e w9 ⟨v9, rfl, hx9, ho9⟩
              obtain ⟨A9, cap9, rfl, -, -⟩ := ho9.shape
              rw [HZ.out]
              refine ⟨⟨⟨w9, mm.ext.trans hx9⟩, rfl⟩, ?_⟩
              refine anyQ_lex_of 4 23 (by kernel_rfl) (by kernel_rfl) (by kernel_rfl) ?_
              simp only [List.drop_succ_cons, List.drop_zero]
              repeat (go_big_quiet_step (fail))
              refine wpQuiet_nil ?_
              intro nn
              go_wp2_with fail
              go_ret
              exact ⟨rfl, Xc.trans nn.ext⟩
            · refine .inl ⟨rfl, fun w hw => ?_⟩
              obtain ⟨mm, rfl⟩ := hw
              unfold wpOp
              simp only [List.getElem?_toArray, List.getElem?_cons_succ, List.getElem?_cons_zero]
              rw [if_pos (by kernel_rfl)]
              refine .inl ?_
              go_simp
              go_at_call 22
              refine (missing_any (HBc.out.ext mm.ext) f u f u hm64 (by omega) (by omega) (by omega)).mono ?_
              rintro e w9 ⟨v9, rfl, hx9, ho9⟩
              obtain ⟨A9, cap9, rfl, -, -⟩ := ho9.shape
              rw [HZ.out]
              refine ⟨⟨⟨w9, mm.ext.trans hx9⟩, rfl⟩, ?_⟩
              refine anyQ_first_of (i := 0) (v := .bool false) (some 66) rfl (by kernel_rfl) (by kernel_rfl) (by kernel_rfl) (by kernel_rfl) (fun w _ => ⟨rfl, rfl⟩) rfl ?_
              refine anyQ_lex_of 4 23 (by kernel_rfl) (by kernel_rfl) (by kernel_rfl) ?_
              simp only [List.drop_succ_cons, List.drop_zero, Act.put, List.setIfInBounds_toArray, List.set_cons_succ, List.set_cons_zero]
              repeat (go_big_quiet_step (fail))
              refine wpQuiet_nil ?_
              intro nn
              go_wp2_with fail
              go_ret
              exact ⟨rfl, Xc.trans nn.ext⟩
        · refine .inr ⟨by decide, ?_⟩
          unfold qOp
          simp only [List.getElem?_toArray, List.getElem?_cons_succ, List.getElem?_cons_zero]
          rw [if_pos (by kernel_rfl)]
          go_big_quiet_op
          refine wpOne_step [0, 1] (by kernel_rfl) (by simp) ?_
          intro j hj
          simp only [List.mem_cons, List.not_mem_nil, or_false] at hj
          rcases hj with rfl | rfl
          · refine .inr ⟨by decide, ?_⟩
            unfold qOp
            simp only [List.getElem?_toArray, List.getElem?_cons_zero]
            rw [if_pos (by kernel_rfl)]
            go_big_quiet_op
            refine wpOne_step [1] (by kernel_rfl) (by simp) ?_
            intro j hj
            simp only [List.mem_cons, List.not_mem_nil, or_false] at hj
            subst hj
            refine .inr ⟨by decide, ?_⟩
            unfold qOp
            simp only [List.getElem?_toArray, List.getElem?_cons_succ, List.getElem?_cons_zero]
            rw [if_pos (by kernel_rfl)]
            go_big_quiet_op
            refine wpOne_step [3] (by kernel_rfl) (by simp) ?_
            intro j hj
            simp only [List.mem_cons, List.not_mem_nil, or_false] at hj
            subst hj
            refine .inl ⟨rfl, fun w hw => ?_⟩
            obtain ⟨mm, rfl⟩ := hw
            unfold wpOp
            simp only [List.getElem?_toArray, List.getElem?_cons_succ, List.getElem?_cons_zero]
            rw [if_pos (by kernel_rfl)]
            refine .inl ?_
            go_simp
            go_at_call 22
            refine (missing_any (HBc.out.ext mm.ext) f u f u hm64 (by omega) (by omega) (by omega)).mono ?_
            rintro e w9 ⟨v9, rfl, hx9, ho9⟩
            obtain ⟨A9, cap9, rfl, -, -⟩ := ho9.shape
            rw [HZ.out]
            refine ⟨⟨⟨w9, mm.ext.trans hx9⟩, rfl⟩, ?_⟩
            refine anyQ_lex_of 4 23 (by kernel_rfl) (by kernel_rfl) (by kernel_rfl) ?_
            simp only [List.drop_succ_cons, List.drop_zero]
            repeat (go_big_quiet_step (fail))
            refine wpQuiet_nil ?_
            intro nn
            go_wp2_with fail
            go_ret
            exact ⟨rfl, Xc.trans nn.ext⟩
          · refine .inr ⟨by decide, ?_⟩
            unfold qOp
            simp only [List.getElem?_toArray, List.getElem?_cons_succ, List.getElem?_cons_zero]
            rw [if_pos (by kernel_rfl)]
            go_big_quiet_op
            refine wpOne_step [0, 3] (by kernel_rfl) (by simp) ?_
            intro j hj
            simp only [List.mem_cons, List.not_mem_nil, or_false] at hj
            rcases hj with rfl | rfl
            · refine .inr ⟨by decide, ?_⟩
              unfold qOp
              simp only [List.getElem?_toArray, List.getElem?_cons_zero]
              rw [if_pos (by kernel_rfl)]
              go_big_quiet_op
              refine wpOne_step [3] (by kernel_rfl) (by simp) ?_
              intro j hj
              simp only [List.mem_cons, List.not_mem_nil, or_false] at hj
              subst hj
              refine .inl ⟨rfl, fun w hw => ?_⟩
              obtain ⟨mm, rfl⟩ := hw
              unfold wpOp
              simp only [List.getElem?_toArray, List.getElem?_cons_succ, List.getElem?_cons_zero]
              rw [if_pos (by kernel_rfl)]
              refine .inl ?_
              go_simp
              go_at_call 22
              refine (missing_any (HBc.out.ext mm.ext) f u f u hm64 (by omega) (by omega) (by omega)).mono ?_
              rintro e w9 ⟨v9, rfl, hx9, ho9⟩
              obtain ⟨A9, cap9, rfl, -, -⟩ := ho9.shape
              rw [HZ.out]
              refine ⟨⟨⟨w9, mm.ext.trans hx9⟩, rfl⟩, ?_⟩
              refine anyQ_lex_of 4 23 (by kernel_rfl) (by kernel_rfl) (by kernel_rfl) ?_
              simp only [List.drop_succ_cons, List.drop_zero]
              repeat (go_big_quiet_step (fail))
              refine wpQuiet_nil ?_
              intro nn
              go_wp2_with fail
              go_ret
              exact ⟨rfl, Xc.trans nn.ext⟩
            · refine .inl ⟨rfl, fun w hw => ?_⟩
              obtain ⟨mm, rfl⟩ := hw
              unfold wpOp
              simp only [List.getElem?_toArray, List.getElem?_cons_succ, List.getElem?_cons_zero]
              rw [if_pos (by kernel_rfl)]
              refine .inl ?_
              go_simp
              go_at_call 22
              refine (missing_any (HBc.out.ext mm.ext) f u f u hm64 (by omega) (by omega) (by omega)).mono ?_
              rintro e w9 ⟨v9, rfl, hx9, ho9⟩
              obtain ⟨A9, cap9, rfl, -, -⟩ := ho9.shape
              rw [HZ.out]
              refine ⟨⟨⟨w9, mm.ext.trans hx9⟩, rfl⟩, ?_⟩
              refine anyQ_first_of (i := 0) (v := .bool false) (some 66) rfl (by kernel_rfl) (by kernel_rfl) (by kernel_rfl) (by kernel_rfl) (fun w _ => ⟨rfl, rfl⟩) rfl ?_
              refine anyQ_lex_of 4 23 (by kernel_rfl) (by kernel_rfl) (by kernel_rfl) ?_
              simp only [List.drop_succ_cons, List.drop_zero, Act.put, List.setIfInBounds_toArray, List.set_cons_succ, List.set_cons_zero]
              repeat (go_big_quiet_step (fail))
              refine wpQuiet_nil ?_
              intro nn
              go_wp2_with fail
              go_ret
              exact ⟨rfl, Xc.trans nn.ext⟩
  · have q0 : (m : Int) < (u : Int) := by omega
    go_wp2_with (first
      | (go_at_call 18; refine (read_bad (HB5.out.ext X5a) f u (.inr (.inr q0))).mono ?_; rintro e w6 ⟨rfl, hx6⟩)
      | (go_at_call 15; refine (is_err 1 _ (by decide)).mono ?_; rintro e w' ⟨rfl, rfl⟩))
    go_ret
    exact ⟨rfl, X5.trans (X5a.trans hx6)⟩
end Go.Proofs.Ytfjpaacanoocmaa
