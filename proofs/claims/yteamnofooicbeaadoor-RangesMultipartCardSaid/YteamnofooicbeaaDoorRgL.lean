/- Chapter 09: Parse. -/
import Derived.Test.YteamnofooicbeaaDoorRgK
namespace Go.Proofs.YteamnofooicbeaaDoor
open Go.RowKit Go.Maps
def errC (c : Int) : Value := if c = 0 then .nilIface else errV c
theorem scn_size (s : ByteArray) : ∀ (n i fr : Nat) (q : Bool), s.size ≤ i + n → ∀ l, scn s i fr q = some l → ∀ x ∈ l, x.size ≤ s.size
  | 0, i, fr, q, h, l, e => by
    rw [scn_end (by omega)] at e
    split at e
    · cases e
    · cases e
      intro x hx
      rw [List.mem_singleton] at hx
      rw [hx]
      exact Nat.le_trans (trimF_size _) (by rw [ByteArray.size_extract]; omega)
  | n + 1, i, fr, q, h, l, e => by
    rw [scn] at e
    split at e
    · split at e
      · exact scn_size s n (i + 2) fr q (by omega) l e
      · split at e
        · exact scn_size s n (i + 1) fr (!q) (by omega) l e
        · split at e
          · cases e2 : scn s (i + 1) (i + 1) false with
            | none => rw [e2] at e; cases e
            | some m =>
              rw [e2] at e
              cases e
              intro x hx
              rcases List.mem_cons.1 hx with rfl | hx
              · exact Nat.le_trans (trimF_size _) (by rw [ByteArray.size_extract]; omega)
              · exact scn_size s n (i + 1) (i + 1) false (by omega) m e2 x hx
          · exact scn_size s n (i + 1) fr q (by omega) l e
    · split at e
      · cases e
      · cases e
        intro x hx
        rw [List.mem_singleton] at hx
        rw [hx]
        exact Nat.le_trans (trimF_size _) (by rw [ByteArray.size_extract]; omega)
theorem list_facts {s : ByteArray} {l : List ByteArray} (h : listF s = some l) : l.length ≤ s.size + 1 ∧ ∀ x ∈ l, x.size ≤ s.size := by
  unfold listF at h
  cases hp : partsF s with
  | none => rw [hp] at h; cases h
  | some m =>
    rw [hp] at h
    cases h
    refine ⟨Nat.le_trans (List.length_filter_le _ _) (parts_len hp), fun x hx => ?_⟩
    have hm := (List.mem_filter.1 hx).1
    unfold partsF at hp
    split at hp
    · exact scn_size s s.size 0 0 false (by omega) m hp x hm
    · cases hp
theorem sprefix_any (s : ByteArray) (w : World) : Calls Tryd.prog 41 #[.string s, .string ⟨#[98, 121, 116, 101, 115, 61]⟩] w fun e w' => (∃ x, e = .returned (.tuple #[.string x, .bool (pfx s)]) ∧ x.size ≤ s.size ∧ (pfx s = true → x = s.extract 6 s.size)) ∧ w = w' := by
  refine (Any.strings_CutPrefix Tryd.lays103 s ⟨#[98, 121, 116, 101, 115, 61]⟩ w).mono ?_
  rintro e w' ⟨rfl, rfl⟩
  refine ⟨⟨_, rfl, ?_, fun hp => ?_⟩, rfl⟩
  · unfold Lib.trimPrefix
    rw [Lib.size_eq, Lib.size_eq]
    split <;> simp
  · have hp2 : Lib.hasPrefix s.data.toList [98, 121, 116, 101, 115, 61] = true := hp
    refine bs_ext ?_
    rw [bs_mk, Lib.extract_toList]
    unfold Lib.trimPrefix
    rw [if_pos hp2, List.take_of_length_le (by rw [List.length_drop, ← Lib.size_eq]; omega)]
    rfl
theorem pf_no {s : ByteArray} {len : Int} (h : pfx s = false) : parseF s len = ([], 2) := by
  unfold parseF
  rw [h, if_neg (by simp)]
theorem pf_none {s : ByteArray} {len : Int} (h : pfx s = true) (h2 : listF (s.extract 6 s.size) = none) : parseF s len = ([], 2) := by
  unfold parseF
  rw [h, if_pos rfl, h2]
theorem pf_nil {s : ByteArray} {len : Int} {l : List ByteArray} (h : pfx s = true) (h2 : listF (s.extract 6 s.size) = some l) (h3 : l.length = 0) : parseF s len = ([], 2) := by
  unfold parseF
  rw [h, if_pos rfl, h2]
  simp only
  rw [if_pos h3]
theorem pf_bad {s : ByteArray} {len : Int} {l : List ByteArray} (h : pfx s = true) (h2 : listF (s.extract 6 s.size) = some l) (h4 : elsF (max 0 len) l = none) : parseF s len = ([], 2) := by
  unfold parseF
  rw [h, if_pos rfl, h2]
  simp only
  rw [h4]
  split <;> rfl
theorem pf_some {s : ByteArray} {len : Int} {l : List ByteArray} {out : List (Int × Int)} (h : pfx s = true) (h2 : listF (s.extract 6 s.size) = some l) (h3 : 0 < l.length) (h4 : elsF (max 0 len) l = some out) :
    parseF s len = if 8 < l.length then ([], 5) else if out.length = 0 then ([], 1) else (out, 0) := by
  unfold parseF
  rw [h, if_pos rfl, h2]
  simp only
  rw [if_neg (by omega), h4]
set_option maxRecDepth 100000 in
set_option maxHeartbeats 2000000 in
theorem parse_any (s : ByteArray) (len : Int) (hl : -9223372036854775808 ≤ len ∧ len ≤ 9223372036854775807) (hs : s.size ≤ 90000) (w : World) (hM : MaxL w) :
    Calls Tryd.prog 13 #[.string s, .int .i64 len] w fun e w' => (∃ v ev, e = .returned (.tuple #[v, ev]) ∧ RAt w' v (parseF s len).1 ∧ ev = errC (parseF s len).2) ∧ Ext w w' := by
  have HCP := Lib.hid (sprefix_any s w)
  have HM := Lib.hid hM
  obtain ⟨R, C, hRC⟩ : ∃ R C, parseF s len = (R, C) := ⟨_, _, rfl⟩
  have HRC := Lib.hid hRC
  rw [hRC]
  simp only
  obtain ⟨pf, hpf⟩ : ∃ b, pfx s = b := ⟨_, rfl⟩
  have HPF := Lib.hid hpf
  rw [hpf] at HCP
  clear hpf hM hRC
  cases pf with
  | false =>
    obtain ⟨rfl, rfl⟩ : R = [] ∧ C = 2 := by have h := HRC.out.symm.trans (pf_no HPF.out); cases h; exact ⟨rfl, rfl⟩
    go_enter Tryd.func13, Tryd.ntmps13
    go_upto_region 2 with (go_at_call 41; refine HCP.out.mono ?_; rintro e w' ⟨⟨x, rfl, hx, -⟩, rfl⟩)
    have HLI : Hid (∀ W, Calls Tryd.prog 42 #[.string x] W fun e w' => (∃ v ev, e = .returned (.tuple #[v, ev])) ∧ Ext W w') := Lib.hid (fun W => (list_any x (by omega) W).mono (fun e w' ⟨⟨v, ev, h, _⟩, hx⟩ => ⟨⟨v, ev, h⟩, hx⟩))
    go_wp2_with (go_at_call 42; refine (HLI.out _).mono ?_; rintro e w1 ⟨⟨v, ev, rfl⟩, hx1⟩)
    go_ret2
    exact ⟨⟨_, _, rfl, .inl ⟨rfl, rfl⟩, rfl⟩, hx1⟩
  | true =>
    have HLI : Hid (∀ W, Calls Tryd.prog 42 #[.string (s.extract 6 s.size)] W fun e w' => (∃ v ev, e = .returned (.tuple #[v, ev]) ∧ Hid ((∃ l, listF (s.extract 6 s.size) = some l ∧ ev = .nilIface ∧ StrsAt w' v l) ∨ (listF (s.extract 6 s.size) = none ∧ ev = errV 2 ∧ v = .slice none 0 0))) ∧ Ext W w') := Lib.hid (fun W => (list_any _ (by rw [ByteArray.size_extract]; omega) W).mono (fun e w' ⟨⟨v, ev, h, hc⟩, hx⟩ => ⟨⟨v, ev, h, Lib.hid hc⟩, hx⟩))
    obtain ⟨y, hy⟩ : ∃ y, s.extract 6 s.size = y := ⟨_, rfl⟩
    have HY := Lib.hid hy
    have hys : y.size ≤ s.size := by rw [← hy, ByteArray.size_extract]; omega
    rw [hy] at HLI HCP
    clear hy
    go_enter Tryd.func13, Tryd.ntmps13
    go_upto_region 2 with (go_at_call 41; refine HCP.out.mono ?_; rintro e w' ⟨⟨x, rfl, hx, hxx⟩, rfl⟩; obtain rfl := hxx rfl)
    go_upto_region 3 with (go_at_call 42; refine (HLI.out _).mono ?_; rintro e w1 ⟨⟨v, ev, rfl, HC⟩, hx1⟩)
    clear HLI HCP
    rcases HC.out with ⟨l, hlf, rfl, hla⟩ | ⟨hlf, rfl, rfl⟩
    · obtain ⟨A, cap, rfl, hr⟩ := hla.parts
      obtain ⟨hn, hsz⟩ := list_facts hlf
      have HLF := Lib.hid hlf
      obtain ⟨n, hxn⟩ : ∃ n, l.length = n := ⟨_, rfl⟩
      have HN := Lib.hid hxn
      rw [hxn] at hr hn ⊢
      have HSZ : Hid (∀ x ∈ l, x.size ≤ 90000) := Lib.hid (fun x hx => Nat.le_trans (hsz x hx) (by omega))
      have hn2 : n ≤ 100000 := by omega
      clear hlf hla hxn hsz HC hn hx hxx hs hys
      rcases Nat.eq_zero_or_pos n with hn0 | hn0
      · obtain ⟨rfl, rfl⟩ : R = [] ∧ C = 2 := by have h := HRC.out.symm.trans (pf_nil HPF.out (by rw [HY.out]; exact HLF.out) (by rw [HN.out]; exact hn0)); cases h; exact ⟨rfl, rfl⟩
        have hn0' : ((n : Int) == 0) = true := by simp; omega
        clear hn0
        go_wp2_with fail
        go_ret2
        exact ⟨⟨_, _, rfl, .inl ⟨rfl, rfl⟩, rfl⟩, hx1⟩
      · have hn0' : ((n : Int) == 0) = false := by simp; omega
        have H0 := Lib.hid hn0
        obtain ⟨L, hL⟩ : ∃ L, max 0 len = L := ⟨_, rfl⟩
        have hL0 : 0 ≤ L := by omega
        have hL1 : L ≤ 9223372036854775807 := by omega
        have HLB := Lib.hid (And.intro hL (And.intro hL0 hL1))
        obtain ⟨B, hB⟩ : ∃ B, w1.heap.size = B := ⟨_, rfl⟩
        have HB := Lib.hid hB
        have HX1 := Lib.hid hx1
        clear hB hx1 hn0 hL0 hL1
        go_upto_region 6 with fail
        clear hL
        go_wp2_with fail
        go_loopw [10, 41] (fun ov i wr => ∃ (k : Nat) (out : List (Int × Int)), k ≤ n ∧ i = .int .i64 k ∧ out.length ≤ k ∧ Hid (ROwn 37 wr B ov out ∧ Ext w1 wr ∧ elsF L l = (elsF L (l.drop k)).map (out ++ ·))) (fun _ i _ => n - (intOf i).toNat)
        case atStart => exact ⟨0, [], by omega, rfl, by simp, Lib.hid ⟨ROwn.nil _ _ _, Ext.refl _, by rw [List.drop_zero]; cases elsF L l <;> rfl⟩⟩
        case round =>
          obtain ⟨k, out, hk, rfl, ho, HR⟩ := hrel
          by_cases hlt : k < n
          · obtain ⟨g, rfl, hg⟩ := hr (by omega)
            obtain ⟨x, hx⟩ : ∃ x, l[k]? = some x := ⟨l[k]'(by rw [HN.out]; exact hlt), by simp⟩
            have hki : (k : Int) < (n : Int) := by omega
            have hk6 : (k : Int) < 200001 := by omega
            have a0 := HR.out.2.1.cell (hg k x hx)
            have HX := Lib.hid hx
            have HEL : Hid (Calls Tryd.prog 43 #[.string x, .int .i64 L] wr fun e w' => (∃ f t ok, e = .returned (.tuple #[.agg #[.int .i64 f, .int .i64 t], .bool ok]) ∧ Hid (ok = (elF x L).isSome ∧ ∀ p, elF x L = some p → p = (f, t))) ∧ Ext wr w') := Lib.hid ((element_any x L HLB.out.2.1 HLB.out.2.2 (by have := HSZ.out x (List.mem_of_getElem? hx); omega) wr (HM.out.ext (HX1.out.trans HR.out.2.1))).mono (by
              rintro e w' ⟨⟨f, t, ok, h1, h2, h3⟩, h4⟩
              exact ⟨⟨f, t, ok, h1, Lib.hid ⟨h2, h3⟩⟩, h4⟩))
            clear hx hg hr
            go_upto_region 10 with fail
            go_wp2_with fail
            refine HEL.out.mono ?_
            rintro e w3 ⟨⟨f, t, ok, rfl, HOK⟩, hx3⟩
            have HX3 := Lib.hid hx3
            clear hx3
            obtain ⟨wa, hwa⟩ : ∃ wa, wa = w3.alloc (.cells #[.int .i64 f, .int .i64 t] 37) := ⟨_, rfl⟩
            have XA : Ext w3 wa := by rw [hwa]; exact (Ext.refl w3).alloc _
            have HT : Hid (RowB wa w3.heap.size 37 [.int .i64 f, .int .i64 t]) := Lib.hid (by rw [hwa]; exact row_laid _ _ _)
            have HXA := Lib.hid (HX3.out.trans XA)
            cases ok with
            | false =>
              obtain ⟨rfl, rfl⟩ : R = [] ∧ C = 2 := by
                have he : elF x L = none := by
                  have := HOK.out.1
                  cases h : elF x L with
                  | none => rfl
                  | some p => rw [h] at this; cases this
                have h := HRC.out.symm.trans (pf_bad HPF.out (by rw [HY.out]; exact HLF.out) (by rw [HLB.out.1]; exact els_none HR.out.2.2 HX.out he))
                cases h
                exact ⟨rfl, rfl⟩
              clear a0
              go_upto_region 11 with fail
              rw [← hwa]
              clear hwa
              go_wp2_with fail
              go_ret2
              exact ⟨⟨_, _, rfl, .inl ⟨rfl, rfl⟩, rfl⟩, HX1.out.trans (HR.out.2.1.trans HXA.out)⟩
            | true =>
              have HE : Hid (elF x L = some (f, t)) := Lib.hid (by
                have := HOK.out.1
                cases h : elF x L with
                | none => rw [h] at this; cases this
                | some p => rw [HOK.out.2 p h])
              clear a0
              go_upto_region 11 with fail
              rw [← hwa]
              clear hwa
              obtain ⟨tg, htg⟩ : ∃ tg, w3.heap.size = tg := ⟨_, rfl⟩
              rw [htg] at HT ⊢
              clear htg XA
              obtain ⟨t0, t1, f0, f1⟩ := rng_cells HT.out
              by_cases hft : f < t
              · have HS := Lib.hid (els_some HR.out.2.2 HX.out HE.out)
                have HFT := Lib.hid hft
                have hsz : B ≤ wa.heap.size := by have := HB.out; have := HR.out.2.1.size; have := HXA.out.size; omega
                have HOW := Lib.hid (HR.out.1.kept (HXA.out.grown' none) (fun k e => by cases e))
                have ho2 : out.length ≤ 200000 := by omega
                go_wp2_with (at_builtin; refine wpList_append_r 37 23 Tryd.underlying23 rng_info _ rfl _ _ rfl B f t HOW.out rfl rfl rfl ho2 hsz ?_; intro v' w9 hO9 hB9 hK9)
                go_roundw
                case rel =>
                  refine ⟨k + 1, out ++ [(f, t)], by omega, by go_num, by rw [List.length_append, List.length_singleton]; omega, Lib.hid ⟨hO9, ?_, ?_⟩⟩
                  · exact Below.trans (HR.out.2.1.trans HXA.out).below (Below.mono hB9 (by have := HB.out; omega))
                  · have h := HS.out
                    rwa [if_pos (show (f, t).1 < (f, t).2 from HFT.out)] at h
                case measure => simp [intOf]; omega
              · have HS := Lib.hid (els_some HR.out.2.2 HX.out HE.out)
                have HFT := Lib.hid hft
                have HOW := Lib.hid (HR.out.1.kept (HXA.out.grown' none) (fun k e => by cases e))
                go_wp2_with fail
                go_roundw
                case rel =>
                  refine ⟨k + 1, out, by omega, by go_num, by omega, Lib.hid ⟨HOW.out, HR.out.2.1.trans HXA.out, ?_⟩⟩
                  have h := HS.out
                  rwa [if_neg (show ¬ (f, t).1 < (f, t).2 from HFT.out), List.append_nil] at h
                case measure => simp [intOf]; omega
          · obtain rfl : k = n := by omega
            have HEL : Hid (elsF (max 0 len) l = some out) := Lib.hid (by
              rw [HLB.out.1, HR.out.2.2, List.drop_eq_nil_iff.2 (by have := HN.out; omega), elsF]
              simp)
            have HPS := Lib.hid (HRC.out.symm.trans (pf_some HPF.out (by rw [HY.out]; exact HLF.out) (by rw [HN.out]; exact H0.out) HEL.out))
            have HOA := Lib.hid HR.out.1.at
            have HXR := Lib.hid (HX1.out.trans HR.out.2.1)
            by_cases h8 : 8 < k
            · obtain ⟨rfl, rfl⟩ : R = [] ∧ C = 5 := by have h := HPS.out; rw [if_pos (by rw [HN.out]; exact h8)] at h; cases h; exact ⟨rfl, rfl⟩
              have h8' : (8 : Int) < (k : Int) := by omega
              clear h8
              go_wp2_with fail
              go_ret2
              first | exact ⟨⟨_, _, rfl, .inl ⟨rfl, rfl⟩, rfl⟩, HXR.out⟩ | exact ⟨⟨_, rfl, .inl ⟨rfl, rfl⟩⟩, HXR.out⟩
            · have h8' : ¬ (8 : Int) < (k : Int) := by omega
              have H8 := Lib.hid h8
              obtain ⟨A2, cap2, hov, -⟩ := HOA.out.parts
              obtain ⟨m, hm⟩ : ∃ m, out.length = m := ⟨_, rfl⟩
              have HM2 := Lib.hid hm
              rw [hm] at hov
              subst hov
              clear h8 hm
              by_cases hm0 : m = 0
              · obtain ⟨rfl, rfl⟩ : R = [] ∧ C = 1 := by have h := HPS.out; rw [if_neg (by rw [HN.out]; exact H8.out), if_pos (by rw [HM2.out]; exact hm0)] at h; cases h; exact ⟨rfl, rfl⟩
                have hm0' : ((m : Int) == 0) = true := by simp; omega
                clear hm0
                go_wp2_with fail
                go_ret2
                first | exact ⟨⟨_, _, rfl, .inl ⟨rfl, rfl⟩, rfl⟩, HXR.out⟩ | exact ⟨⟨_, rfl, .inl ⟨rfl, rfl⟩⟩, HXR.out⟩
              · obtain ⟨rfl, rfl⟩ : R = out ∧ C = 0 := by have h := HPS.out; rw [if_neg (by rw [HN.out]; exact H8.out), if_neg (by rw [HM2.out]; exact hm0)] at h; cases h; exact ⟨rfl, rfl⟩
                have hm0' : ((m : Int) == 0) = false := by simp; omega
                clear hm0
                go_wp2_with fail
                go_ret2
                first | exact ⟨⟨_, _, rfl, HOA.out, rfl⟩, HXR.out⟩ | exact ⟨⟨_, rfl, HOA.out⟩, HXR.out⟩
    · obtain ⟨rfl, rfl⟩ : R = [] ∧ C = 2 := by have h := HRC.out.symm.trans (pf_none HPF.out (by rw [HY.out]; exact hlf)); cases h; exact ⟨rfl, rfl⟩
      clear hlf HC hx hxx hs hys
      go_wp2_with fail
      go_ret2
      exact ⟨⟨_, _, rfl, .inl ⟨rfl, rfl⟩, rfl⟩, hx1⟩
end Go.Proofs.YteamnofooicbeaaDoor
