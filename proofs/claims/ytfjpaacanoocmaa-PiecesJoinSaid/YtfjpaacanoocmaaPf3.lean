/- Chapter 20: 'is': a body that is the reference's is found to be so. -/
import Derived.Test.YtfjpaacanoocmaaPf1
import Derived.Test.YtfjpaacanoocmaaPf2
import Derived.Test.YtfjpaacanoocmaaPd4
import Derived.Test.YtfjpaacanoocmaaHead
import Derived.Test.YtfjpaacanoocmaaOne
namespace Go.Proofs.Ytfjpaacanoocmaa
open Go.RowKit Go.Deep Go.Sort

theorem RngOwn.rngIn {w : World} {B : Nat} {v : Value} {xs : List (Nat × Nat)} (h : RngOwn w B v xs) : RngIn w v xs := by
  obtain ⟨A, cap, e, h1, h2⟩ := h.shape2
  exact ⟨A, cap, e, h1, h2⟩
theorem conv_any {w w' : World} {B : Nat} {v : Value} {xs : List Int} (h : BytesOwn w B v xs) (hx : Ext w w') : (convert 38 9 v).run Try.prog w' = .ok (.string (strOfNums xs)) w' := by
  rcases h.2 with ⟨rfl, e⟩ | ⟨g, cap, cur, rfl, hb, hh, hl, hm, hc, ht⟩
  · obtain rfl : xs = [] := List.eq_nil_of_length_eq_zero e
    have : ∀ W, (convert 38 9 (.slice none 0 0)).run Try.prog W = .ok (.string ⟨#[]⟩) W := fun W => by kernel_rfl
    exact this w'
  · have hr : w'.heap[g]? = some _ := (Below.block hx g (Array.getElem?_eq_some_iff.1 hh).1).trans hh
    have h' : w.ownsRow B 5 1 (.slice (some ⟨g, 0, none⟩) xs.length cap) xs.length (xs.map (Value.int .u8)) := h
    refine run_convert_bytes_arg w' 38 5 Try.underlying38 Try.underlying5 g 0 xs.length cap xs rfl (fun i hi => ?_) 9 Try.underlying9
    rw [Nat.zero_add]
    have := h'.cellAt i (by omega)
    rw [(Ext.cell hx (by rw [this, List.getElem?_map, List.getElem?_eq_getElem hi]; rfl))]
    simp [List.getD, hi]
theorem sn_byteIs (s : ByteArray) : strOfNums (byteIs s) = s := by
  apply ByteArray.ext
  apply Array.toList_inj.1
  rw [strOfNums_data]
  unfold byteIs
  rw [List.map_map]
  have : ∀ b ∈ s.data.toList, ((fun n : Int => UInt8.ofNat n.toNat) ∘ fun b : UInt8 => (b.toNat : Int)) b = id b := fun b _ => by simp
  rw [List.map_congr_left this, List.map_id]
theorem rdL_piece {len : Nat} {D : Nat → Option ByteArray} {k : Nat} {s : ByteArray} (hD : D k = some s) (hz : s.size = pto k len - k * 256) (_hk : k * 256 < len) : strOfNums (rdL D (k * 256) (pto k len)) = s := by
  have e : ((List.range' (k * 256) (pto k len - k * 256)).map fun j => (byteIs ((D (j / 256)).getD ⟨#[]⟩)).getD (j % 256) 0) = byteIs s := by
    apply List.ext_getElem
    · rw [List.length_map, List.length_range', byteIs_length, hz]
    · intro i h1 h2
      rw [List.length_map, List.length_range'] at h1
      rw [List.getElem_map, List.getElem_range']
      have e1 : (k * 256 + 1 * i) / 256 = k := by unfold pto at h1; omega
      have e2 : (k * 256 + 1 * i) % 256 = i := by unfold pto at h1; omega
      rw [e1, e2, hD, Option.getD_some, List.getD_eq_getElem?_getD, List.getElem?_eq_getElem h2]
      rfl
  show strOfNums ((List.range' (k * 256) (pto k len - k * 256)).map fun j => (byteIs ((D (j / 256)).getD ⟨#[]⟩)).getD (j % 256) 0) = s
  rw [e, sn_byteIs]
theorem gaps_piece {len : Nat} {D : Nat → Option ByteArray} {k : Nat} {s : ByteArray} (hD : D k = some s) (hk : k * 256 < len) : gaps D (pcs (k * 256) (pto k len)) = [] := by
  unfold gaps
  rw [List.filter_eq_nil_iff]
  intro i hi
  unfold pcs at hi
  rw [if_pos (by unfold pto; omega), List.mem_range'_1] at hi
  have : i = k := by unfold pto at hi; omega
  rw [this, hD]
  simp
theorem allD_step (D : Nat → Option ByteArray) (k : Nat) : decide (∀ j, j < k + 1 → (D j).isSome = true) = (decide (∀ j, j < k → (D j).isSome = true) && (D k).isSome) := by
  rw [Bool.eq_iff_iff]
  simp only [decide_eq_true_eq, Bool.and_eq_true]
  exact ⟨fun h => ⟨fun j hj => h j (by omega), h k (by omega)⟩, fun h j hj => by
    by_cases e : j = k
    · rw [e]; exact h.2
    · exact h.1 j (by omega)⟩

set_option maxRecDepth 100000 in
set_option maxHeartbeats 4000000 in
theorem is_true {w : World} {B b l len d t : Nat} {A : Nat → Prop} {tag : ByteArray} {D : Nat → Option ByteArray} (h : BodyAt w B A b l tag len D) (h2 : RefAt w d t len D) (hok : PcOk len D) (hl : len ≤ 3072) :
    Calls Try.prog 33 #[.pointer (some ⟨b, 0, none⟩), refV tag len d t] w fun e w' => e = .returned (.bool true) ∧ Ext w w' := by
  have hn : npc len ≤ 12 := by unfold npc; omega
  obtain ⟨w0, hw0⟩ : ∃ w0, w0 = w.alloc (.cells #[.string tag, .int .i64 len, .slice (some ⟨d, 0, none⟩) (npc len) (npc len), .slice (some ⟨t, 0, none⟩) (npc len) (npc len)] 29) := ⟨_, rfl⟩
  have X0 : Ext w w0 := by rw [hw0]; exact (Ext.refl w).alloc _
  have HR0 := Lib.hid (show RowB w0 w.heap.size 29 [.string tag, .int .i64 len, .slice (some ⟨d, 0, none⟩) (npc len) (npc len), .slice (some ⟨t, 0, none⟩) (npc len) (npc len)] by rw [hw0]; exact RowB.laid w _ _)
  have HB := Lib.hid (h.ext X0)
  have HA := Lib.hid (h2.ext X0)
  have HOK := Lib.hid hok
  clear h h2 hok
  have b3 := HR0.out.cell (j := 3) rfl
  go_enter Try.func33, Try.ntmps33
  go_upto_region 1 with fail
  rw [← hw0]
  clear hw0
  go_wp2_with fail
  clear b3
  go_loopw [5, 14] (fun v i wr => ∃ k : Nat, k ≤ npc len ∧ i = .int .i64 k ∧ v = .bool (decide (∀ j, j < k → (D j).isSome = true)) ∧ Ext w0 wr) (fun _ i _ => npc len - (intOf i).toNat)
  case atStart => exact ⟨0, by omega, rfl, by simp, Ext.refl _⟩
  case round =>
    obtain ⟨k, hk, rfl, rfl, hX⟩ := hrel
    by_cases hlt : k < npc len
    · have hki : (k : Int) < (npc len : Int) := by omega
      have hk6 : k ≤ 12 := by omega
      have hkl : k * 256 < len := by unfold npc at hlt; omega
      have b3 := (HR0.out.ext hX).cell (j := 3) rfl
      have b4 := (HA.out.ext hX).there.cell hlt
      have HST := Lib.hid (allD_step D k)
      have q1 : decide ((k : Int) < 0) = false := by simp
      have q2 : decide (npc len ≤ k) = false := by simp; omega
      obtain ⟨al, hal⟩ : ∃ al, decide (∀ j, j < k → (D j).isSome = true) = al := ⟨_, rfl⟩
      rw [hal] at HST ⊢
      have HAL := Lib.hid hal
      clear hal
      have HH := Lib.hid (fun W (hW : Ext wr W) => has_in (HB.out.ext (hX.trans hW)) (by omega) k hlt)
      have HP := Lib.hid (fun W => piece9_in k len (by omega) hkl W)
      have x3 : ∀ n : Wd wr, n.val.cell? ⟨w.heap.size, 3, none⟩ = some (.slice (some ⟨t, 0, none⟩) (npc len) (npc len)) := fun n => n.ext.cell b3
      have x4 : ∀ n : Wd wr, n.val.cell? ⟨t, k, none⟩ = some (.bool (D k).isSome) := fun n => n.ext.cell b4
      cases hD : D k with
      | none =>
        rw [hD] at b4 x4 HH HST
        simp only [Option.isSome_none, Bool.and_false] at b4 x4 HH HST
        clear hD
        cases al
        all_goals go_upto_region 6 with fail
        all_goals refine wp_region_wd (by kernel_rfl) (by kernel_rfl) ?_
        all_goals repeat (go_big_quiet_step ((go_at_call 17; exact Calls.wd_of_same (HH.out _ (Wd.ext _)))))
        all_goals refine wpQuiet_nil ?_
        all_goals rintro _ ⟨n6, rfl⟩
        all_goals have b5 := x3 n6
        all_goals have b6 := x4 n6
        all_goals go_wp2_with fail
        all_goals go_roundw
        all_goals first | exact ⟨k + 1, by omega, by go_num, by rw [HST.out], hX.trans n6.ext⟩ | (simp [intOf]; omega)
      | some s =>
        have hz := HOK.out k hlt s hD
        have HRD := Lib.hid (rdL_piece hD hz hkl)
        have HRE := Lib.hid (fun W (hW : Ext wr W) => read_ok (HB.out.ext (hX.trans hW)) HOK.out (k * 256) (pto k len) (by omega) (by unfold pto; omega) (by unfold pto; omega) (gaps_piece hD hkl))
        have b5 := (HA.out.ext hX).data.cell hlt
        rw [hD] at b4 x4 HH HST b5
        simp only [Option.isSome_some, Bool.and_true, Option.getD_some] at b4 x4 HH HST b5
        have hs6 : s.size ≤ 256 := by rw [hz]; unfold pto; omega
        have hpl : pto k len ≤ 65536 := by unfold pto; omega
        clear hD hz hkl
        have b1 := (HR0.out.ext hX).cell (j := 1) rfl
        have b2 := (HR0.out.ext hX).cell (j := 2) rfl
        cases al
        all_goals go_upto_region 6 with fail
        all_goals refine wp_region_wd (by kernel_rfl) (by kernel_rfl) ?_
        all_goals repeat (go_big_quiet_step ((go_at_call 17; exact Calls.wd_of_same (HH.out _ (Wd.ext _)))))
        all_goals refine wpQuiet_nil ?_
        all_goals rintro _ ⟨n6, rfl⟩
        all_goals have y3 := n6.ext.cell b3
        all_goals have y4 := n6.ext.cell b4
        all_goals have y1 := n6.ext.cell b1
        all_goals go_upto_region 11 with (first
          | (go_at_call 37; refine (HP.out _).mono ?_; rintro e w1 ⟨rfl, hx1⟩)
          | (go_at_call 18; refine (HRE.out _ ((n6.ext.trans hx1).trans ((Ext.refl _).alloc _))).mono ?_; rintro e w2 ⟨v2, rfl, hx2, ho2⟩))
        all_goals have XW := (n6.ext.trans hx1).trans (((Ext.refl _).alloc _).trans hx2)
        all_goals have g2 : ∀ n : Wd w2, n.val.cell? ⟨w.heap.size, 2, none⟩ = some (.slice (some ⟨d, 0, none⟩) (npc len) (npc len)) := fun n => (XW.trans n.ext).cell b2
        all_goals have g3 : ∀ n : Wd w2, n.val.cell? ⟨d, k, none⟩ = some (.string s) := fun n => (XW.trans n.ext).cell b5
        all_goals have hcv : ∀ n : Wd w2, (convert 38 9 v2).run Try.prog n.val = .ok (.string s) n.val := fun n => by rw [conv_any ho2 n.ext, HRD.out]
        all_goals clear b1 b2 b3 b4 b5 y1 y3 y4 x3 x4 ho2
        all_goals refine wp_region_wd (by kernel_rfl) (by kernel_rfl) ?_
        all_goals repeat (go_big_quiet_step (fail))
        all_goals refine wpQuiet_nil ?_
        all_goals rintro _ ⟨n7, rfl⟩
        all_goals go_wp2_with fail
        all_goals go_roundw
        all_goals first | exact ⟨k + 1, by omega, by go_num, by rw [HST.out], hX.trans (XW.trans n7.ext)⟩ | (simp [intOf]; omega)
    · obtain rfl : k = npc len := by omega
      have b0 := (HR0.out.ext hX).cell (j := 0) rfl
      have b1 := (HR0.out.ext hX).cell (j := 1) rfl
      have b2 := (HR0.out.ext hX).cell (j := 2) rfl
      have b3 := (HR0.out.ext hX).cell (j := 3) rfl
      have HBW := Lib.hid (HB.out.ext hX)
      have HAW := Lib.hid (HA.out.ext hX)
      have HWH := Lib.hid (fun W (hW : Ext wr W) => whole_any (HBW.out.ext hW) (by omega))
      obtain ⟨al, hal⟩ : ∃ al, decide (∀ j, j < npc len → (D j).isSome = true) = al := ⟨_, rfl⟩
      rw [hal] at HWH ⊢
      have HAL := Lib.hid hal
      clear hal hlt
      have HLM := Lib.hid (show (mg (hlK len D (npc len))).length ≤ 1000 from Nat.le_trans (mg_length _) (Nat.le_trans (hlK_length _ _ _) (by omega)))
      go_upto_region 14 with fail
      have e0 : ∀ n : Wd wr, n.val.cell? ⟨w.heap.size, 0, none⟩ = some (.string tag) := fun n => n.ext.cell b0
      have e1 : ∀ n : Wd wr, n.val.cell? ⟨w.heap.size, 1, none⟩ = some (.int .i64 len) := fun n => n.ext.cell b1
      refine wp_region_wd_head 19 20 #[true, true, true, true, true, true, true, true, true, true, true, true, true, true, true, true, true, true, true, false, false, false, false, false, false, false, false, false, false, false, false, false, false, false, false, false, false, false, false] (by kernel_rfl) rfl (by kernel_rfl) (by kernel_rfl) (by kernel_rfl) (by kernel_rfl) ?_
      simp only [List.take_succ_cons, List.take_zero]
      repeat (go_big_quiet_step (first | (go_at_call 35; exact Calls.wd_of_same (tag_any (HBW.out.ext (Wd.ext _)))) | (go_at_call 36; exact Calls.wd_of_same (length_any (HBW.out.ext (Wd.ext _)))) | (go_at_call 12; exact Calls.wd_of_same (HWH.out _ (Wd.ext _)))))
      refine wpQuiet_nil ?_
      rintro _ ⟨n1, rfl⟩
      have d0 := n1.ext.cell b0
      have d1 := n1.ext.cell b1
      have d2 := n1.ext.cell b2
      have d3 := n1.ext.cell b3
      refine wpAny_take (i := 19) (v := .pointer (some ⟨b, 0, none⟩)) rfl (by kernel_rfl) (by kernel_rfl) (by kernel_rfl) (fun _ _ _ h => h) (Or.inl ⟨by rfl, ?_⟩) ?_
      · intro w; go_simp; try (with_reducible rfl)
      refine wpAny_ready (rs := [20, 21]) (by kernel_rfl) (by simp) ?_
      refine AllReady.cons rfl (fun K hK => ?_) ?_
      · go_simp
        go_wp2_with (go_at_call 24; refine (held_rng (HBW.out.ext ?_) HOK.out hl).mono ?_; (repeat' (first | exact Ext.refl _ | exact Wd.ext _ | refine Ext.drew ?_ | refine Ext.drewN ?_ _ | refine Ext.trans ?_ hxc | refine Ext.trans ?_ hxb | refine Ext.trans ?_ hxa)); rintro e wa ⟨va, rfl, hxa, hoa, -⟩; have hva := hoa.rngIn; have Xa : Ext wr wa := (by repeat' (first | exact Ext.refl _ | exact Wd.ext _ | refine Ext.drew ?_ | refine Ext.drewN ?_ _ | refine Ext.trans ?_ hxc | refine Ext.trans ?_ hxb | refine Ext.trans ?_ hxa)); have c0a := Xa.cell b0; have c1a := Xa.cell b1; have c2a := Xa.cell b2; have c3a := Xa.cell b3)
        try (refine hK _ _ ?_; clear hK K)
        refine wpAny_ready (rs := [21]) (by kernel_rfl) (by simp) ?_
        refine AllReady.cons rfl (fun K hK => ?_) ?_
        · go_simp
          try (refine hK _ _ ?_; clear hK K)
          refine wpAny_ready (rs := [22]) (by kernel_rfl) (by simp) ?_
          refine AllReady.cons rfl (fun K hK => ?_) ?_
          · go_simp
            go_wp2_with (go_at_call 43; refine (rheld_any (HAW.out.ext ?_) (by omega)).mono ?_; (repeat' (first | exact Ext.refl _ | exact Wd.ext _ | refine Ext.drew ?_ | refine Ext.drewN ?_ _ | refine Ext.trans ?_ hxc | refine Ext.trans ?_ hxb | refine Ext.trans ?_ hxa)); rintro e wb ⟨vb, rfl, hxb, hob⟩; have hvb := hob.rngIn; have Xb : Ext wr wb := (by repeat' (first | exact Ext.refl _ | exact Wd.ext _ | refine Ext.drew ?_ | refine Ext.drewN ?_ _ | refine Ext.trans ?_ hxc | refine Ext.trans ?_ hxb | refine Ext.trans ?_ hxa)); have c0b := Xb.cell b0; have c1b := Xb.cell b1; have c2b := Xb.cell b2; have c3b := Xb.cell b3)
            try (refine hK _ _ ?_; clear hK K)
            refine wpAny_ready (rs := [23]) (by kernel_rfl) (by simp) ?_
            refine AllReady.cons rfl (fun K hK => ?_) ?_
            · go_simp
              go_wp2_with (go_at_call 42; refine (are_same (hva.ext ?_) (hvb.ext ?_) HLM.out).mono ?_; (repeat' (first | exact Ext.refl _ | exact Wd.ext _ | refine Ext.drew ?_ | refine Ext.drewN ?_ _ | refine Ext.trans ?_ hxc | refine Ext.trans ?_ hxb | refine Ext.trans ?_ hxa)); (repeat' (first | exact Ext.refl _ | exact Wd.ext _ | refine Ext.drew ?_ | refine Ext.drewN ?_ _ | refine Ext.trans ?_ hxc | refine Ext.trans ?_ hxb | refine Ext.trans ?_ hxa)); rintro e wc ⟨rfl, hxc⟩; have Xc : Ext wr wc := (by repeat' (first | exact Ext.refl _ | exact Wd.ext _ | refine Ext.drew ?_ | refine Ext.drewN ?_ _ | refine Ext.trans ?_ hxc | refine Ext.trans ?_ hxb | refine Ext.trans ?_ hxa)))
              try (refine hK _ _ ?_; clear hK K)
              have z3 : ∀ n : Wd wc, n.val.cell? ⟨w.heap.size, 3, none⟩ = some (.slice (some ⟨t, 0, none⟩) (npc len) (npc len)) := fun n => (Xc.trans n.ext).cell b3
              refine wpAny_wd ?_
              refine anyQ_lex_of 24 15 (by kernel_rfl) (by kernel_rfl) (by kernel_rfl) ?_
              simp only [List.drop_succ_cons, List.drop_zero]
              repeat (go_big_quiet_step ((go_at_call 17; exact Calls.wd_of_same (has_out (HBW.out.ext (Xc.trans (Wd.ext _))) _ (by omega)))))
              refine wpQuiet_nil ?_
              rintro _ ⟨n9, rfl⟩
              go_wp2_with fail
              go_ret
              exact ⟨rfl, (X0.trans hX).trans (Xc.trans n9.ext)⟩
            exact AllReady.nil
          exact AllReady.nil
        exact AllReady.nil
      refine AllReady.cons rfl (fun K hK => ?_) ?_
      · go_simp
        try (refine hK _ _ ?_; clear hK K)
        refine wpAny_ready (rs := [20]) (by kernel_rfl) (by simp) ?_
        refine AllReady.cons rfl (fun K hK => ?_) ?_
        · go_simp
          go_wp2_with (go_at_call 24; refine (held_rng (HBW.out.ext ?_) HOK.out hl).mono ?_; (repeat' (first | exact Ext.refl _ | exact Wd.ext _ | refine Ext.drew ?_ | refine Ext.drewN ?_ _ | refine Ext.trans ?_ hxc | refine Ext.trans ?_ hxb | refine Ext.trans ?_ hxa)); rintro e wa ⟨va, rfl, hxa, hoa, -⟩; have hva := hoa.rngIn; have Xa : Ext wr wa := (by repeat' (first | exact Ext.refl _ | exact Wd.ext _ | refine Ext.drew ?_ | refine Ext.drewN ?_ _ | refine Ext.trans ?_ hxc | refine Ext.trans ?_ hxb | refine Ext.trans ?_ hxa)); have c0a := Xa.cell b0; have c1a := Xa.cell b1; have c2a := Xa.cell b2; have c3a := Xa.cell b3)
          try (refine hK _ _ ?_; clear hK K)
          refine wpAny_ready (rs := [22]) (by kernel_rfl) (by simp) ?_
          refine AllReady.cons rfl (fun K hK => ?_) ?_
          · go_simp
            go_wp2_with (go_at_call 43; refine (rheld_any (HAW.out.ext ?_) (by omega)).mono ?_; (repeat' (first | exact Ext.refl _ | exact Wd.ext _ | refine Ext.drew ?_ | refine Ext.drewN ?_ _ | refine Ext.trans ?_ hxc | refine Ext.trans ?_ hxb | refine Ext.trans ?_ hxa)); rintro e wb ⟨vb, rfl, hxb, hob⟩; have hvb := hob.rngIn; have Xb : Ext wr wb := (by repeat' (first | exact Ext.refl _ | exact Wd.ext _ | refine Ext.drew ?_ | refine Ext.drewN ?_ _ | refine Ext.trans ?_ hxc | refine Ext.trans ?_ hxb | refine Ext.trans ?_ hxa)); have c0b := Xb.cell b0; have c1b := Xb.cell b1; have c2b := Xb.cell b2; have c3b := Xb.cell b3)
            try (refine hK _ _ ?_; clear hK K)
            refine wpAny_ready (rs := [23]) (by kernel_rfl) (by simp) ?_
            refine AllReady.cons rfl (fun K hK => ?_) ?_
            · go_simp
              go_wp2_with (go_at_call 42; refine (are_same (hva.ext ?_) (hvb.ext ?_) HLM.out).mono ?_; (repeat' (first | exact Ext.refl _ | exact Wd.ext _ | refine Ext.drew ?_ | refine Ext.drewN ?_ _ | refine Ext.trans ?_ hxc | refine Ext.trans ?_ hxb | refine Ext.trans ?_ hxa)); (repeat' (first | exact Ext.refl _ | exact Wd.ext _ | refine Ext.drew ?_ | refine Ext.drewN ?_ _ | refine Ext.trans ?_ hxc | refine Ext.trans ?_ hxb | refine Ext.trans ?_ hxa)); rintro e wc ⟨rfl, hxc⟩; have Xc : Ext wr wc := (by repeat' (first | exact Ext.refl _ | exact Wd.ext _ | refine Ext.drew ?_ | refine Ext.drewN ?_ _ | refine Ext.trans ?_ hxc | refine Ext.trans ?_ hxb | refine Ext.trans ?_ hxa)))
              try (refine hK _ _ ?_; clear hK K)
              have z3 : ∀ n : Wd wc, n.val.cell? ⟨w.heap.size, 3, none⟩ = some (.slice (some ⟨t, 0, none⟩) (npc len) (npc len)) := fun n => (Xc.trans n.ext).cell b3
              refine wpAny_wd ?_
              refine anyQ_lex_of 24 15 (by kernel_rfl) (by kernel_rfl) (by kernel_rfl) ?_
              simp only [List.drop_succ_cons, List.drop_zero]
              repeat (go_big_quiet_step ((go_at_call 17; exact Calls.wd_of_same (has_out (HBW.out.ext (Xc.trans (Wd.ext _))) _ (by omega)))))
              refine wpQuiet_nil ?_
              rintro _ ⟨n9, rfl⟩
              go_wp2_with fail
              go_ret
              exact ⟨rfl, (X0.trans hX).trans (Xc.trans n9.ext)⟩
            exact AllReady.nil
          exact AllReady.nil
        exact AllReady.nil
      exact AllReady.nil
end Go.Proofs.Ytfjpaacanoocmaa
