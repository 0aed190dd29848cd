/- Chapter 09: the reference's Parse. -/
import Derived.Test.YteamnofooicbeaaDoorRgL
namespace Go.Proofs.YteamnofooicbeaaDoor
open Go.RowKit Go.Maps
theorem pfx_short {s : ByteArray} (h : s.size < 6) : pfx s = false := by
  cases hp : pfx s with
  | false => rfl
  | true =>
    have h1 : pfxL.isPrefixOf s.data.toList = true := hp
    have h2 := (List.isPrefixOf_iff_prefix.1 h1).length_le
    rw [Lib.size_eq] at h
    have : pfxL.length = 6 := rfl
    omega
theorem pfx_cut (s : ByteArray) : ((s.extract 0 6).toList == pfxL) = pfx s := by
  rw [Lib.extract_toList, List.drop_zero, Bool.eq_iff_iff, beq_iff_eq]
  show s.data.toList.take 6 = pfxL ↔ pfxL.isPrefixOf s.data.toList = true
  rw [List.isPrefixOf_iff_prefix]
  constructor
  · intro e
    rw [← e]
    exact List.take_prefix _ _
  · intro hp
    exact (List.prefix_iff_eq_take.1 hp).symm
set_option maxRecDepth 100000 in
set_option maxHeartbeats 2000000 in
theorem rparse_any (s : ByteArray) (len : Int) (hl : -9223372036854775808 ≤ len ∧ len ≤ 9223372036854775807) (hs : s.size ≤ 90000) (w : World) :
    Calls Tryd.prog 14 #[.string s, .int .i64 len] w fun e w' => (∃ v c, e = .returned (.tuple #[v, .int .i64 c]) ∧ RAt w' v (parseF s len).1 ∧ c = (parseF s len).2) ∧ Ext w w' := by
  obtain ⟨R, C, hRC⟩ : ∃ R C, parseF s len = (R, C) := ⟨_, _, rfl⟩
  have HRC := Lib.hid hRC
  rw [hRC]
  simp only
  obtain ⟨pf, hpf⟩ : ∃ b, pfx s = b := ⟨_, rfl⟩
  have HPF := Lib.hid hpf
  obtain ⟨L, hL⟩ : ∃ L, max len 0 = L := ⟨_, rfl⟩
  have hL0 : 0 ≤ L := by omega
  have hL1 : L ≤ 9223372036854775807 := by omega
  have HLB : Hid (max 0 len = L ∧ 0 ≤ L ∧ L ≤ 9223372036854775807) := Lib.hid ⟨by rw [Int.max_comm]; exact hL, hL0, hL1⟩
  clear hL0 hL1 hRC
  by_cases h6 : s.size < 6
  · obtain ⟨rfl, rfl⟩ : R = [] ∧ C = 2 := by have h := HRC.out.symm.trans (pf_no (pfx_short h6)); cases h; exact ⟨rfl, rfl⟩
    have h6' : (s.size : Int) < 6 := by omega
    clear h6
    go_enter Tryd.func14, Tryd.ntmps14
    go_wp2_with fail
    go_ret2
    first | exact ⟨⟨_, _, rfl, .inl ⟨rfl, rfl⟩, rfl⟩, Ext.refl _⟩ | exact ⟨⟨_, rfl, .inl ⟨rfl, rfl⟩⟩, Ext.refl _⟩
  · have h6' : ¬ (s.size : Int) < 6 := by omega
    have h6i : (6 : Int) ≤ (s.size : Int) := by omega
    have hcut := pfx_cut s
    rw [hpf] at hcut
    obtain ⟨z, hz⟩ : ∃ z, s.extract 0 6 = z := ⟨_, rfl⟩
    rw [hz] at hcut
    cases pf with
    | false =>
      obtain ⟨rfl, rfl⟩ : R = [] ∧ C = 2 := by have h := HRC.out.symm.trans (pf_no HPF.out); cases h; exact ⟨rfl, rfl⟩
      have hb : (z.toList == [98, 121, 116, 101, 115, 61]) = false := hcut
      clear hcut hpf h6
      go_enter Tryd.func14, Tryd.ntmps14
      go_wp2_with fail
      go_ret2
      first | exact ⟨⟨_, _, rfl, .inl ⟨rfl, rfl⟩, rfl⟩, Ext.refl _⟩ | exact ⟨⟨_, rfl, .inl ⟨rfl, rfl⟩⟩, Ext.refl _⟩
    | true =>
    have hb : (z.toList == [98, 121, 116, 101, 115, 61]) = true := hcut
    have HLI : Hid (∀ W, Calls Tryd.prog 44 #[.string (s.extract 6 s.size)] W fun e w' => (∃ v ok, e = .returned (.tuple #[v, .bool ok]) ∧ Hid ((∃ l, listF (s.extract 6 s.size) = some l ∧ ok = true ∧ StrsAt w' v l) ∨ (listF (s.extract 6 s.size) = none ∧ ok = false))) ∧ Ext W w') := Lib.hid (fun W => rlist_any _ (by rw [ByteArray.size_extract]; omega) W)
    obtain ⟨y, hy⟩ : ∃ y, s.extract 6 s.size = y := ⟨_, rfl⟩
    have HY := Lib.hid hy
    have hys : y.size ≤ s.size := by rw [← hy, ByteArray.size_extract]; omega
    rw [hy] at HLI
    clear hcut hpf h6
    go_enter Tryd.func14, Tryd.ntmps14
    go_upto_region 4 with fail
    go_upto_region 5 with (go_at_call 44; refine (HLI.out _).mono ?_; rintro e w1 ⟨⟨v, ok, rfl, HC⟩, hx1⟩)
    clear HLI hy hb hz hL
    rcases HC.out with ⟨l, hlf, rfl, hla⟩ | ⟨hlf, rfl⟩
    · obtain ⟨A, cap, rfl, hr⟩ := hla.parts
      obtain ⟨hn, hsz⟩ := list_facts hlf
      have HLF := Lib.hid hlf
      obtain ⟨n, hxn⟩ : ∃ n, l.length = n := ⟨_, rfl⟩
      have HN := Lib.hid hxn
      rw [hxn] at hr hn ⊢
      have HSZ : Hid (∀ x ∈ l, x.size ≤ 90000) := Lib.hid (fun x hx => Nat.le_trans (hsz x hx) (by omega))
      have hn2 : n ≤ 100000 := by omega
      clear hlf hla hxn hsz HC hn hs hys
      rcases Nat.eq_zero_or_pos n with hn0 | hn0
      · obtain ⟨rfl, rfl⟩ : R = [] ∧ C = 2 := by have h := HRC.out.symm.trans (pf_nil HPF.out (by rw [HY.out]; exact HLF.out) (by rw [HN.out]; exact hn0)); cases h; exact ⟨rfl, rfl⟩
        have hn0' : ((n : Int) == 0) = true := by simp; omega
        clear hn0
        go_wp2_with fail
        go_ret2
        exact ⟨⟨_, _, rfl, .inl ⟨rfl, rfl⟩, rfl⟩, hx1⟩
      · have hn0' : ((n : Int) == 0) = false := by simp; omega
        have H0 := Lib.hid hn0
        obtain ⟨B, hB⟩ : ∃ B, w1.heap.size = B := ⟨_, rfl⟩
        have HB := Lib.hid hB
        have HX1 := Lib.hid hx1
        clear hB hx1 hn0
        go_wp2_with fail
        go_loopw [8, 37] (fun ov i wr => ∃ (k : Nat) (out : List (Int × Int)), k ≤ n ∧ i = .int .i64 k ∧ out.length ≤ k ∧ Hid (ROwn 43 wr B ov out ∧ Ext w1 wr ∧ elsF L l = (elsF L (l.drop k)).map (out ++ ·))) (fun _ i _ => n - (intOf i).toNat)
        case atStart => exact ⟨0, [], by omega, rfl, by simp, Lib.hid ⟨ROwn.nil _ _ _, Ext.refl _, by rw [List.drop_zero]; cases elsF L l <;> rfl⟩⟩
        case round =>
          obtain ⟨k, out, hk, rfl, ho, HR⟩ := hrel
          by_cases hlt : k < n
          · obtain ⟨g, rfl, hg⟩ := hr (by omega)
            obtain ⟨x, hx⟩ : ∃ x, l[k]? = some x := ⟨l[k]'(by rw [HN.out]; exact hlt), by simp⟩
            have hki : (k : Int) < (n : Int) := by omega
            have hk6 : (k : Int) < 200001 := by omega
            have a0 := HR.out.2.1.cell (hg k x hx)
            have HX := Lib.hid hx
            have HEL : Hid (Calls Tryd.prog 45 #[.string x, .int .i64 L] wr fun e w' => (∃ f t ok, e = .returned (.tuple #[.agg #[.int .i64 f, .int .i64 t], .bool ok]) ∧ Hid (ok = (elF x L).isSome ∧ ∀ p, elF x L = some p → p = (f, t))) ∧ Ext wr w') := Lib.hid ((relement_any x L HLB.out.2.1 HLB.out.2.2 (by have := HSZ.out x (List.mem_of_getElem? hx); omega) wr).mono (by
              rintro e w' ⟨⟨f, t, ok, h1, h2, h3⟩, h4⟩
              exact ⟨⟨f, t, ok, h1, Lib.hid ⟨h2, h3⟩⟩, h4⟩))
            clear hx hg hr
            go_upto_region 11 with fail
            go_wp2_with fail
            refine HEL.out.mono ?_
            rintro e w3 ⟨⟨f, t, ok, rfl, HOK⟩, hx3⟩
            have HX3 := Lib.hid hx3
            clear hx3
            obtain ⟨wa, hwa⟩ : ∃ wa, wa = w3.alloc (.cells #[.int .i64 f, .int .i64 t] 43) := ⟨_, rfl⟩
            have XA : Ext w3 wa := by rw [hwa]; exact (Ext.refl w3).alloc _
            have HT : Hid (RowB wa w3.heap.size 43 [.int .i64 f, .int .i64 t]) := Lib.hid (by rw [hwa]; exact row_laid _ _ _)
            have HXA := Lib.hid (HX3.out.trans XA)
            cases ok with
            | false =>
              obtain ⟨rfl, rfl⟩ : R = [] ∧ C = 2 := by
                have he : elF x L = none := by
                  have := HOK.out.1
                  cases h : elF x L with
                  | none => rfl
                  | some p => rw [h] at this; cases this
                have h := HRC.out.symm.trans (pf_bad HPF.out (by rw [HY.out]; exact HLF.out) (by rw [HLB.out.1]; exact els_none HR.out.2.2 HX.out he))
                cases h
                exact ⟨rfl, rfl⟩
              clear a0
              go_upto_region 12 with fail
              rw [← hwa]
              clear hwa
              go_wp2_with fail
              go_ret2
              exact ⟨⟨_, _, rfl, .inl ⟨rfl, rfl⟩, rfl⟩, HX1.out.trans (HR.out.2.1.trans HXA.out)⟩
            | true =>
              have HE : Hid (elF x L = some (f, t)) := Lib.hid (by
                have := HOK.out.1
                cases h : elF x L with
                | none => rw [h] at this; cases this
                | some p => rw [HOK.out.2 p h])
              clear a0
              go_upto_region 12 with fail
              rw [← hwa]
              clear hwa
              obtain ⟨tg, htg⟩ : ∃ tg, w3.heap.size = tg := ⟨_, rfl⟩
              rw [htg] at HT ⊢
              clear htg XA
              obtain ⟨t0, t1, f0, f1⟩ := rng_cells HT.out
              by_cases hft : f < t
              · have HS := Lib.hid (els_some HR.out.2.2 HX.out HE.out)
                have HFT := Lib.hid hft
                have hsz : B ≤ wa.heap.size := by have := HB.out; have := HR.out.2.1.size; have := HXA.out.size; omega
                have HOW := Lib.hid (HR.out.1.kept (HXA.out.grown' none) (fun k e => by cases e))
                have ho2 : out.length ≤ 200000 := by omega
                go_wp2_with (at_builtin; refine wpList_append_r 43 28 Tryd.underlying28 rrng_info _ rfl _ _ rfl B f t HOW.out rfl rfl rfl ho2 hsz ?_; intro v' w9 hO9 hB9 hK9)
                go_roundw
                case rel =>
                  refine ⟨k + 1, out ++ [(f, t)], by omega, by go_num, by rw [List.length_append, List.length_singleton]; omega, Lib.hid ⟨hO9, ?_, ?_⟩⟩
                  · exact Below.trans (HR.out.2.1.trans HXA.out).below (Below.mono hB9 (by have := HB.out; omega))
                  · have h := HS.out
                    rwa [if_pos (show (f, t).1 < (f, t).2 from HFT.out)] at h
                case measure => simp [intOf]; omega
              · have HS := Lib.hid (els_some HR.out.2.2 HX.out HE.out)
                have HFT := Lib.hid hft
                have HOW := Lib.hid (HR.out.1.kept (HXA.out.grown' none) (fun k e => by cases e))
                go_wp2_with fail
                go_roundw
                case rel =>
                  refine ⟨k + 1, out, by omega, by go_num, by omega, Lib.hid ⟨HOW.out, HR.out.2.1.trans HXA.out, ?_⟩⟩
                  have h := HS.out
                  rwa [if_neg (show ¬ (f, t).1 < (f, t).2 from HFT.out), List.append_nil] at h
                case measure => simp [intOf]; omega
          · obtain rfl : k = n := by omega
            have HEL : Hid (elsF (max 0 len) l = some out) := Lib.hid (by
              rw [HLB.out.1, HR.out.2.2, List.drop_eq_nil_iff.2 (by have := HN.out; omega), elsF]
              simp)
            have HPS := Lib.hid (HRC.out.symm.trans (pf_some HPF.out (by rw [HY.out]; exact HLF.out) (by rw [HN.out]; exact H0.out) HEL.out))
            have HOA := Lib.hid HR.out.1.at
            have HXR := Lib.hid (HX1.out.trans HR.out.2.1)
            by_cases h8 : 8 < k
            · obtain ⟨rfl, rfl⟩ : R = [] ∧ C = 5 := by have h := HPS.out; rw [if_pos (by rw [HN.out]; exact h8)] at h; cases h; exact ⟨rfl, rfl⟩
              have h8' : (8 : Int) < (k : Int) := by omega
              clear h8
              go_wp2_with fail
              go_ret2
              first | exact ⟨⟨_, _, rfl, .inl ⟨rfl, rfl⟩, rfl⟩, HXR.out⟩ | exact ⟨⟨_, rfl, .inl ⟨rfl, rfl⟩⟩, HXR.out⟩
            · have h8' : ¬ (8 : Int) < (k : Int) := by omega
              have H8 := Lib.hid h8
              obtain ⟨A2, cap2, hov, -⟩ := HOA.out.parts
              obtain ⟨m, hm⟩ : ∃ m, out.length = m := ⟨_, rfl⟩
              have HM2 := Lib.hid hm
              rw [hm] at hov
              subst hov
              clear h8 hm
              by_cases hm0 : m = 0
              · obtain ⟨rfl, rfl⟩ : R = [] ∧ C = 1 := by have h := HPS.out; rw [if_neg (by rw [HN.out]; exact H8.out), if_pos (by rw [HM2.out]; exact hm0)] at h; cases h; exact ⟨rfl, rfl⟩
                have hm0' : ((m : Int) == 0) = true := by simp; omega
                clear hm0
                go_wp2_with fail
                go_ret2
                first | exact ⟨⟨_, _, rfl, .inl ⟨rfl, rfl⟩, rfl⟩, HXR.out⟩ | exact ⟨⟨_, rfl, .inl ⟨rfl, rfl⟩⟩, HXR.out⟩
              · obtain ⟨rfl, rfl⟩ : R = out ∧ C = 0 := by have h := HPS.out; rw [if_neg (by rw [HN.out]; exact H8.out), if_neg (by rw [HM2.out]; exact hm0)] at h; cases h; exact ⟨rfl, rfl⟩
                have hm0' : ((m : Int) == 0) = false := by simp; omega
                clear hm0
                go_wp2_with fail
                go_ret2
                first | exact ⟨⟨_, _, rfl, HOA.out, rfl⟩, HXR.out⟩ | exact ⟨⟨_, rfl, HOA.out⟩, HXR.out⟩
    · obtain ⟨rfl, rfl⟩ : R = [] ∧ C = 2 := by have h := HRC.out.symm.trans (pf_none HPF.out (by rw [HY.out]; exact hlf)); cases h; exact ⟨rfl, rfl⟩
      clear hlf HC hs hys
      go_wp2_with fail
      go_ret2
      exact ⟨⟨_, _, rfl, .inl ⟨rfl, rfl⟩, rfl⟩, hx1⟩
end Go.Proofs.YteamnofooicbeaaDoor
