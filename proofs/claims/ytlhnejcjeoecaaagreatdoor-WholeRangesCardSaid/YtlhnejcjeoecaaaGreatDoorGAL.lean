/- Parse once more, with the capacity of what it returns. The program's Multipart of a body that lies anywhere. WholeRanges: small words: an operation of a drawn region that is passed over; Bytes of two equal texts; a part of the body. -/
import Derived.Test.YtlhnejcjeoecaaaGreatDoorGAI
import Derived.Test.YtlhnejcjeoecaaaGreatDoorGAF
import Derived.Test.YtlhnejcjeoecaaaGreatDoorGAK
import Derived.Test.YtlhnejcjeoecaaaGreatDoorGAA
import Derived.Test.YtlhnejcjeoecaaaGreatDoorGAD
import Derived.Test.YtlhnejcjeoecaaaGreatDoorGAB
namespace Go.Proofs.YtlhnejcjeoecaaaGreatDoor
open Go.RowKit
def RQt (w : World) (v : Value) (gs : List (Int × Int)) : Prop := RAt w v gs ∧ ∃ A cap, v = .slice A gs.length cap ∧ gs.length ≤ cap
theorem RQt.ext {w w' : World} {v : Value} {gs : List (Int × Int)} (h : RQt w v gs) (hx : Ext w w') : RQt w' v gs := ⟨h.1.ext hx, h.2⟩
set_option maxRecDepth 100000 in
set_option maxHeartbeats 2000000 in
theorem parse_in (s : ByteArray) (len : Int) (hl : -9223372036854775808 ≤ len ∧ len ≤ 9223372036854775807) (hs : s.size ≤ 90000) (w : World) (hM : MaxL w) :
    Calls Tryz.prog 10 #[.string s, .int .i64 len] w fun e w' => (∃ v ev, e = .returned (.tuple #[v, ev]) ∧ RQt w' v (parseF s len).1 ∧ ev = errC (parseF s len).2) ∧ Ext w w' := by
  have HCP := Lib.hid (sprefix_any s w)
  have HM := Lib.hid hM
  obtain ⟨R, C, hRC⟩ : ∃ R C, parseF s len = (R, C) := ⟨_, _, rfl⟩
  have HRC := Lib.hid hRC
  rw [hRC]
  simp only
  obtain ⟨pf, hpf⟩ : ∃ b, pfx s = b := ⟨_, rfl⟩
  have HPF := Lib.hid hpf
  rw [hpf] at HCP
  clear hpf hM hRC
  cases pf with
  | false =>
    obtain ⟨rfl, rfl⟩ : R = [] ∧ C = 2 := by have h := HRC.out.symm.trans (pf_no HPF.out); cases h; exact ⟨rfl, rfl⟩
    go_enter Tryz.func10, Tryz.ntmps10
    go_upto_region 2 with (go_at_call 23; refine HCP.out.mono ?_; rintro e w' ⟨⟨x, rfl, hx, -⟩, rfl⟩)
    have HLI : Hid (∀ W, Calls Tryz.prog 24 #[.string x] W fun e w' => (∃ v ev, e = .returned (.tuple #[v, ev])) ∧ Ext W w') := Lib.hid (fun W => (list_any x (by omega) W).mono (fun e w' ⟨⟨v, ev, h, _⟩, hx⟩ => ⟨⟨v, ev, h⟩, hx⟩))
    go_wp2_with (go_at_call 24; refine (HLI.out _).mono ?_; rintro e w1 ⟨⟨v, ev, rfl⟩, hx1⟩)
    go_ret2
    exact ⟨⟨_, _, rfl, ⟨.inl ⟨rfl, rfl⟩, none, 0, rfl, Nat.le_refl _⟩, rfl⟩, hx1⟩
  | true =>
    have HLI : Hid (∀ W, Calls Tryz.prog 24 #[.string (s.extract 6 s.size)] W fun e w' => (∃ v ev, e = .returned (.tuple #[v, ev]) ∧ Hid ((∃ l, listF (s.extract 6 s.size) = some l ∧ ev = .nilIface ∧ StrsAt w' v l) ∨ (listF (s.extract 6 s.size) = none ∧ ev = errV 2 ∧ v = .slice none 0 0))) ∧ Ext W w') := Lib.hid (fun W => (list_any _ (by rw [ByteArray.size_extract]; omega) W).mono (fun e w' ⟨⟨v, ev, h, hc⟩, hx⟩ => ⟨⟨v, ev, h, Lib.hid hc⟩, hx⟩))
    obtain ⟨y, hy⟩ : ∃ y, s.extract 6 s.size = y := ⟨_, rfl⟩
    have HY := Lib.hid hy
    have hys : y.size ≤ s.size := by rw [← hy, ByteArray.size_extract]; omega
    rw [hy] at HLI HCP
    clear hy
    go_enter Tryz.func10, Tryz.ntmps10
    go_upto_region 2 with (go_at_call 23; refine HCP.out.mono ?_; rintro e w' ⟨⟨x, rfl, hx, hxx⟩, rfl⟩; obtain rfl := hxx rfl)
    go_upto_region 3 with (go_at_call 24; refine (HLI.out _).mono ?_; rintro e w1 ⟨⟨v, ev, rfl, HC⟩, hx1⟩)
    clear HLI HCP
    rcases HC.out with ⟨l, hlf, rfl, hla⟩ | ⟨hlf, rfl, rfl⟩
    · obtain ⟨A, cap, rfl, hr⟩ := hla.parts
      obtain ⟨hn, hsz⟩ := list_facts hlf
      have HLF := Lib.hid hlf
      obtain ⟨n, hxn⟩ : ∃ n, l.length = n := ⟨_, rfl⟩
      have HN := Lib.hid hxn
      rw [hxn] at hr hn ⊢
      have HSZ : Hid (∀ x ∈ l, x.size ≤ 90000) := Lib.hid (fun x hx => Nat.le_trans (hsz x hx) (by omega))
      have hn2 : n ≤ 100000 := by omega
      clear hlf hla hxn hsz HC hn hx hxx hs hys
      rcases Nat.eq_zero_or_pos n with hn0 | hn0
      · obtain ⟨rfl, rfl⟩ : R = [] ∧ C = 2 := by have h := HRC.out.symm.trans (pf_nil HPF.out (by rw [HY.out]; exact HLF.out) (by rw [HN.out]; exact hn0)); cases h; exact ⟨rfl, rfl⟩
        have hn0' : ((n : Int) == 0) = true := by simp; omega
        clear hn0
        go_wp2_with fail
        go_ret2
        exact ⟨⟨_, _, rfl, ⟨.inl ⟨rfl, rfl⟩, none, 0, rfl, Nat.le_refl _⟩, rfl⟩, hx1⟩
      · have hn0' : ((n : Int) == 0) = false := by simp; omega
        have H0 := Lib.hid hn0
        obtain ⟨L, hL⟩ : ∃ L, max 0 len = L := ⟨_, rfl⟩
        have hL0 : 0 ≤ L := by omega
        have hL1 : L ≤ 9223372036854775807 := by omega
        have HLB := Lib.hid (And.intro hL (And.intro hL0 hL1))
        obtain ⟨B, hB⟩ : ∃ B, w1.heap.size = B := ⟨_, rfl⟩
        have HB := Lib.hid hB
        have HX1 := Lib.hid hx1
        clear hB hx1 hn0 hL0 hL1
        go_upto_region 6 with fail
        clear hL
        go_wp2_with fail
        go_loopw [10, 41] (fun ov i wr => ∃ (k : Nat) (out : List (Int × Int)), k ≤ n ∧ i = .int .i64 k ∧ out.length ≤ k ∧ Hid (ROwn 27 wr B ov out ∧ Ext w1 wr ∧ elsF L l = (elsF L (l.drop k)).map (out ++ ·))) (fun _ i _ => n - (intOf i).toNat)
        case atStart => exact ⟨0, [], by omega, rfl, by simp, Lib.hid ⟨ROwn.nil _ _ _, Ext.refl _, by rw [List.drop_zero]; cases elsF L l <;> rfl⟩⟩
        case round =>
          obtain ⟨k, out, hk, rfl, ho, HR⟩ := hrel
          by_cases hlt : k < n
          · obtain ⟨g, rfl, hg⟩ := hr (by omega)
            obtain ⟨x, hx⟩ : ∃ x, l[k]? = some x := ⟨l[k]'(by rw [HN.out]; exact hlt), by simp⟩
            have hki : (k : Int) < (n : Int) := by omega
            have hk6 : (k : Int) < 200001 := by omega
            have a0 := HR.out.2.1.cell (hg k x hx)
            have HX := Lib.hid hx
            have HEL : Hid (Calls Tryz.prog 25 #[.string x, .int .i64 L] wr fun e w' => (∃ f t ok, e = .returned (.tuple #[.agg #[.int .i64 f, .int .i64 t], .bool ok]) ∧ Hid (ok = (elF x L).isSome ∧ ∀ p, elF x L = some p → p = (f, t))) ∧ Ext wr w') := Lib.hid ((element_any x L HLB.out.2.1 HLB.out.2.2 (by have := HSZ.out x (List.mem_of_getElem? hx); omega) wr (HM.out.ext (HX1.out.trans HR.out.2.1))).mono (by
              rintro e w' ⟨⟨f, t, ok, h1, h2, h3⟩, h4⟩
              exact ⟨⟨f, t, ok, h1, Lib.hid ⟨h2, h3⟩⟩, h4⟩))
            clear hx hg hr
            go_upto_region 10 with fail
            go_wp2_with fail
            refine HEL.out.mono ?_
            rintro e w3 ⟨⟨f, t, ok, rfl, HOK⟩, hx3⟩
            have HX3 := Lib.hid hx3
            clear hx3
            obtain ⟨wa, hwa⟩ : ∃ wa, wa = w3.alloc (.cells #[.int .i64 f, .int .i64 t] 27) := ⟨_, rfl⟩
            have XA : Ext w3 wa := by rw [hwa]; exact (Ext.refl w3).alloc _
            have HT : Hid (RowB wa w3.heap.size 27 [.int .i64 f, .int .i64 t]) := Lib.hid (by rw [hwa]; exact row_laid _ _ _)
            have HXA := Lib.hid (HX3.out.trans XA)
            cases ok with
            | false =>
              obtain ⟨rfl, rfl⟩ : R = [] ∧ C = 2 := by
                have he : elF x L = none := by
                  have := HOK.out.1
                  cases h : elF x L with
                  | none => rfl
                  | some p => rw [h] at this; cases this
                have h := HRC.out.symm.trans (pf_bad HPF.out (by rw [HY.out]; exact HLF.out) (by rw [HLB.out.1]; exact els_none HR.out.2.2 HX.out he))
                cases h
                exact ⟨rfl, rfl⟩
              clear a0
              go_upto_region 11 with fail
              rw [← hwa]
              clear hwa
              go_wp2_with fail
              go_ret2
              exact ⟨⟨_, _, rfl, ⟨.inl ⟨rfl, rfl⟩, none, 0, rfl, Nat.le_refl _⟩, rfl⟩, HX1.out.trans (HR.out.2.1.trans HXA.out)⟩
            | true =>
              have HE : Hid (elF x L = some (f, t)) := Lib.hid (by
                have := HOK.out.1
                cases h : elF x L with
                | none => rw [h] at this; cases this
                | some p => rw [HOK.out.2 p h])
              clear a0
              go_upto_region 11 with fail
              rw [← hwa]
              clear hwa
              obtain ⟨tg, htg⟩ : ∃ tg, w3.heap.size = tg := ⟨_, rfl⟩
              rw [htg] at HT ⊢
              clear htg XA
              obtain ⟨t0, t1, f0, f1⟩ := rng_cells HT.out
              by_cases hft : f < t
              · have HS := Lib.hid (els_some HR.out.2.2 HX.out HE.out)
                have HFT := Lib.hid hft
                have hsz : B ≤ wa.heap.size := by have := HB.out; have := HR.out.2.1.size; have := HXA.out.size; omega
                have HOW := Lib.hid (HR.out.1.kept (HXA.out.grown' none) (fun k e => by cases e))
                have ho2 : out.length ≤ 200000 := by omega
                go_wp2_with (at_builtin; refine wpList_append_r 27 23 Tryz.underlying23 rng_info _ rfl _ _ rfl B f t HOW.out rfl rfl rfl ho2 hsz ?_; intro v' w9 hO9 hB9 hK9)
                go_roundw
                case rel =>
                  refine ⟨k + 1, out ++ [(f, t)], by omega, by go_num, by rw [List.length_append, List.length_singleton]; omega, Lib.hid ⟨hO9, ?_, ?_⟩⟩
                  · exact Below.trans (HR.out.2.1.trans HXA.out).below (Below.mono hB9 (by have := HB.out; omega))
                  · have h := HS.out
                    rwa [if_pos (show (f, t).1 < (f, t).2 from HFT.out)] at h
                case measure => simp [intOf]; omega
              · have HS := Lib.hid (els_some HR.out.2.2 HX.out HE.out)
                have HFT := Lib.hid hft
                have HOW := Lib.hid (HR.out.1.kept (HXA.out.grown' none) (fun k e => by cases e))
                go_wp2_with fail
                go_roundw
                case rel =>
                  refine ⟨k + 1, out, by omega, by go_num, by omega, Lib.hid ⟨HOW.out, HR.out.2.1.trans HXA.out, ?_⟩⟩
                  have h := HS.out
                  rwa [if_neg (show ¬ (f, t).1 < (f, t).2 from HFT.out), List.append_nil] at h
                case measure => simp [intOf]; omega
          · obtain rfl : k = n := by omega
            have HEL : Hid (elsF (max 0 len) l = some out) := Lib.hid (by
              rw [HLB.out.1, HR.out.2.2, List.drop_eq_nil_iff.2 (by have := HN.out; omega), elsF]
              simp)
            have HPS := Lib.hid (HRC.out.symm.trans (pf_some HPF.out (by rw [HY.out]; exact HLF.out) (by rw [HN.out]; exact H0.out) HEL.out))
            have HOA := Lib.hid (And.intro HR.out.1.at HR.out.1.parts)
            have HXR := Lib.hid (HX1.out.trans HR.out.2.1)
            by_cases h8 : 8 < k
            · obtain ⟨rfl, rfl⟩ : R = [] ∧ C = 5 := by have h := HPS.out; rw [if_pos (by rw [HN.out]; exact h8)] at h; cases h; exact ⟨rfl, rfl⟩
              have h8' : (8 : Int) < (k : Int) := by omega
              clear h8
              go_wp2_with fail
              go_ret2
              first | exact ⟨⟨_, _, rfl, ⟨.inl ⟨rfl, rfl⟩, none, 0, rfl, Nat.le_refl _⟩, rfl⟩, HXR.out⟩ | exact ⟨⟨_, rfl, ⟨.inl ⟨rfl, rfl⟩, none, 0, rfl, Nat.le_refl _⟩⟩, HXR.out⟩
            · have h8' : ¬ (8 : Int) < (k : Int) := by omega
              have H8 := Lib.hid h8
              obtain ⟨A2, cap2, hov, -⟩ := HOA.out.1.parts
              obtain ⟨m, hm⟩ : ∃ m, out.length = m := ⟨_, rfl⟩
              have HM2 := Lib.hid hm
              rw [hm] at hov
              subst hov
              clear h8 hm
              by_cases hm0 : m = 0
              · obtain ⟨rfl, rfl⟩ : R = [] ∧ C = 1 := by have h := HPS.out; rw [if_neg (by rw [HN.out]; exact H8.out), if_pos (by rw [HM2.out]; exact hm0)] at h; cases h; exact ⟨rfl, rfl⟩
                have hm0' : ((m : Int) == 0) = true := by simp; omega
                clear hm0
                go_wp2_with fail
                go_ret2
                first | exact ⟨⟨_, _, rfl, ⟨.inl ⟨rfl, rfl⟩, none, 0, rfl, Nat.le_refl _⟩, rfl⟩, HXR.out⟩ | exact ⟨⟨_, rfl, ⟨.inl ⟨rfl, rfl⟩, none, 0, rfl, Nat.le_refl _⟩⟩, HXR.out⟩
              · obtain ⟨rfl, rfl⟩ : R = out ∧ C = 0 := by have h := HPS.out; rw [if_neg (by rw [HN.out]; exact H8.out), if_neg (by rw [HM2.out]; exact hm0)] at h; cases h; exact ⟨rfl, rfl⟩
                have hm0' : ((m : Int) == 0) = false := by simp; omega
                clear hm0
                go_wp2_with fail
                go_ret2
                first | exact ⟨⟨_, _, rfl, HOA.out, rfl⟩, HXR.out⟩ | exact ⟨⟨_, rfl, HOA.out⟩, HXR.out⟩
    · obtain ⟨rfl, rfl⟩ : R = [] ∧ C = 2 := by have h := HRC.out.symm.trans (pf_none HPF.out (by rw [HY.out]; exact hlf)); cases h; exact ⟨rfl, rfl⟩
      clear hlf HC hx hxx hs hys
      go_wp2_with fail
      go_ret2
      exact ⟨⟨_, _, rfl, ⟨.inl ⟨rfl, rfl⟩, none, 0, rfl, Nat.le_refl _⟩, rfl⟩, hx1⟩
end Go.Proofs.YtlhnejcjeoecaaaGreatDoor
namespace Go.Proofs.YtlhnejcjeoecaaaGreatDoor
open Go.RowKit Go.Deep
/-- a text's bytes in a block that is there -/
def BO (w : World) (g o : Nat) (t : ByteArray) : Prop := g < w.heap.size ∧ P20.BytesO w g o t
theorem BO.ext {w w' : World} {g o : Nat} {t : ByteArray} (h : BO w g o t) (hx : Ext w w') : BO w' g o t := ⟨Nat.lt_of_lt_of_le h.1 hx.size, fun i hi => hx.cell (h.2 i hi)⟩
theorem bcontains_o {w : World} {B' g o c : Nat} {v : Value} {s p : ByteArray} (h : BO w g o s) (hc : s.size ≤ c) (k : BytesV w B' v p) (hs : s.size ≤ 100000) (hp : p.size ≤ 100000) (hM : MaxL w) :
    Calls Tryz.prog 31 #[.slice (some ⟨g, o, none⟩) s.size c, v] w fun e w' => e = .returned (.bool (holdF s p)) ∧ Ext w w' := by
  obtain ⟨m, hm⟩ := hM
  obtain ⟨g', c', rfl, -, hr'⟩ := k
  have := Any.bytes_Contains_at (P := Tryz.prog) (ρ := Tryz.lays186_ren) { Tryz.lays186 with } ⟨g, o, none⟩ ⟨g', 0, none⟩ s.size c p.size c' (numsOf s) (numsOf p) m w (numsOf_length s) (numsOf_length p) (nums_range s) (nums_range p) (fun i hi => by rw [Addr.add_lit]; exact h.2 i hi) (row_nums hr') hc (by omega) (by omega) hm
  rw [bytesOf_nums, bytesOf_nums] at this
  refine this.mono ?_
  rintro e w' ⟨rfl, q, rfl⟩
  exact ⟨rfl, (Ext.refl w).drewN q⟩
theorem reads_partO {w : World} {g o : Nat} {body : ByteArray} (hr : BO w g o body) {f t : Nat} (hft : f ≤ t) (ht : t ≤ body.size) : Reads w w.heap.size 1 (some ⟨g, o + f, none⟩) (t - f) (Lib.strCells (body.extract f t)) := by
  have hz : (body.extract f t).size = t - f := by rw [ByteArray.size_extract]; omega
  refine ⟨by rw [Lib.strCells_length, hz]; omega, fun _ => ⟨_, rfl, hr.1, fun j u hu => ?_⟩⟩
  rw [Addr.add_lit]
  have hj : j < t - f := by
    have := (List.getElem?_eq_some_iff.1 hu).1
    rw [Lib.strCells_length, hz] at this
    omega
  rw [Nat.add_assoc, hr.2 (f + j) (by omega)]
  unfold Lib.strCells at hu
  rw [show (body.extract f t).data.toList = (body.data.toList.drop f).take (t - f) by rw [← ByteArray.toList_eq, Lib.extract_toList], List.getElem?_map, List.getElem?_take, if_pos hj, List.getElem?_drop] at hu
  unfold P20.byteIs
  rw [List.getD_eq_getElem?_getD, List.getElem?_map]
  cases hb : body.data.toList[f + j]? with
  | none => rw [hb] at hu; cases hu
  | some x => rw [hb] at hu; rw [← hu]; rfl
set_option maxRecDepth 100000 in
set_option maxHeartbeats 4000000 in
theorem multO_any (b k body : ByteArray) (hb : b.size ≤ 3000) (hk : k.size ≤ 3000) (hy : body.size ≤ 3000) {w : World} {v dv : Value} {xs : List (Int × Int)} (h : RIn w v xs) (hn : xs.length ≤ 12) {gd od cd : Nat} (hdv : dv = .slice (some ⟨gd, od, none⟩) body.size cd) (hcd : body.size ≤ cd) (hrd : BO w gd od body) (hM : MaxL w) (hP : PowT w) :
    Calls Tryz.prog 17 #[.string b, .string k, v, dv] w fun e w' => ∃ v' ev, e = .returned (.tuple #[v', ev]) ∧ Hid (MRes w w' b k body xs v' ev) ∧ Ext w w' := by
  subst hdv
  have HRD := Lib.hid hrd
  have HM := Lib.hid hM
  have HP := Lib.hid hP
  obtain ⟨A, cap, rfl, hcap, hr⟩ := h
  obtain ⟨n, hxn⟩ : ∃ n, xs.length = n := ⟨_, rfl⟩
  have HN := Lib.hid hxn
  rw [hxn] at hn hcap hr ⊢
  have HR := Lib.hid hr
  clear hr hxn hrd hM hP
  have HFV := Lib.hid (fvalue_any k (by omega) w)
  have HDL := Lib.hid (fun W => delimiter_any b (by omega) W)
  obtain ⟨b1, hb1⟩ : ∃ c, bndF b = c := ⟨_, rfl⟩
  obtain ⟨b2, hb2⟩ : ∃ c, holdF body b = c := ⟨_, rfl⟩
  obtain ⟨b3, hb3⟩ : ∃ c, kindF k = c := ⟨_, rfl⟩
  have HG : Hid (goodM b k body = (b1 && !b2 && b3)) := Lib.hid (by unfold goodM; rw [hb1, hb2, hb3])
  have HS1 := Lib.hid (fun h : b1 = true => bnd_size (hb1.trans h))
  have HS3 := Lib.hid (fun h : b3 = true => kind_size (hb3.trans h))
  have HB2 := Lib.hid hb2
  have HB3 := Lib.hid hb3
  rw [hb1] at HDL
  clear hb1 hb2 hb3
  go_enter Tryz.func17, Tryz.ntmps17
  go_upto_region 2 with (go_at_call 29; refine HFV.out.mono ?_; rintro e w1 ⟨⟨vv, ev, rfl, HK⟩, hx1⟩)
  have HX1 := Lib.hid hx1
  clear hx1
  cases b1 with
  | false =>
    go_wp2_with (go_at_call 30; refine (HDL.out _).mono ?_; rintro e w2 ⟨rfl, rfl⟩)
    go_returns
    exact ⟨_, _, rfl, Lib.hid (mres_two HG.out), HX1.out⟩
  | true =>
    cases b2 with
    | true =>
      go_wp2_with (first
      | (go_at_call 30; refine (HDL.out _).mono ?_; rintro e w2 ⟨rfl, rfl⟩)
      | (go_at_call 31; refine (bcontains_o (HRD.out.ext (HX1.out.trans hx2)) hcd (show BytesV w2 0 _ b from ⟨_, _, rfl, Nat.zero_le _, hr2⟩) (by omega) (by omega) (HM.out.ext (HX1.out.trans hx2))).mono ?_; rw [HB2.out]; rintro e w3 ⟨rfl, hx3⟩)
      | (refine wpList_bytes_of_string_g _ 9 22 5 (.tmp 27) rfl (by kernel_rfl) Tryz.underlying9 Tryz.underlying22 Tryz.underlying5 b rfl ?_; intro w2 cap2 hx2 hr2 hc2))
      go_returns
      exact ⟨_, _, rfl, Lib.hid (mres_two HG.out), (HX1.out.trans hx2).trans hx3⟩
    | false =>
      rcases good_field HK.out with ⟨h1, rfl, rfl⟩ | ⟨h1, h2⟩ | ⟨h1, rfl, h2⟩
      · obtain rfl : b3 = true := HB3.out.symm.trans h1
        have hbz := HS1.out rfl
        have hkz := HS3.out rfl
        clear h1 HS1 HS3 HB3
        go_upto_region 4 with (first
      | (go_at_call 30; refine (HDL.out _).mono ?_; rintro e w2 ⟨rfl, rfl⟩)
      | (go_at_call 31; refine (bcontains_o (HRD.out.ext (HX1.out.trans hx2)) hcd (show BytesV w2 0 _ b from ⟨_, _, rfl, Nat.zero_le _, hr2⟩) (by omega) (by omega) (HM.out.ext (HX1.out.trans hx2))).mono ?_; rw [HB2.out]; rintro e w3 ⟨rfl, hx3⟩)
      | (refine wpList_bytes_of_string_g _ 9 22 5 (.tmp 27) rfl (by kernel_rfl) Tryz.underlying9 Tryz.underlying22 Tryz.underlying5 b rfl ?_; intro w2 cap2 hx2 hr2 hc2))
        have HX3 := Lib.hid ((HX1.out.trans hx2).trans hx3)
        clear hx2 hx3 hr2 hc2 HX1 HDL HFV HK HB2
        rcases Nat.eq_zero_or_pos n with h0 | h0
        · subst h0
          have HNE := Lib.hid (show xs = [] from List.length_eq_zero_iff.1 HN.out)
          go_wp2_with fail
          go_returns
          exact ⟨_, _, rfl, Lib.hid (mres_one HG.out (fun h => h.1 HNE.out)), HX3.out⟩
        · have h0' : ((n : Int) == 0) = false := by simp; omega
          have hne : ¬ (n : Int) = 0 := by omega
          have HNE := Lib.hid (show xs ≠ [] from fun e => by have h := HN.out; rw [e] at h; simp at h; omega)
          obtain ⟨B, hB⟩ : ∃ q, w3.heap.size = q := ⟨_, rfl⟩
          have HB := Lib.hid hB
          clear hB
          go_wp2_with fail
          go_loopw [12, 47] (fun ov i wr => ∃ (m : Nat) (y : ByteArray) (A8 : Option Addr) (c8 : Nat), m ≤ n ∧ i = .int .i64 m ∧ ov = .slice A8 y.size c8 ∧ y.size ≤ 64000 ∧ y.size ≤ c8 ∧ Hid (OS wr B (.slice A8 y.size c8) y ∧ Below B w3 wr ∧ y = preS b vv body body.size (xs.take m) ∧ ∀ p ∈ xs.take m, okC p.1 p.2 body.size = true)) (fun _ i _ => n - (intOf i).toNat)
          case atStart => exact ⟨0, ⟨#[]⟩, none, 0, by omega, rfl, rfl, by decide, by decide, Lib.hid ⟨OS.nil _ _, Below.refl _ _, rfl, fun p hp => by simp at hp⟩⟩
          case round =>
            obtain ⟨m, y, A8, c8, hm, rfl, rfl, hy64, hyc, HS⟩ := hrel
            have HX := Lib.hid (show Ext w wr from by have h := HS.out.2.1; rw [← HB.out] at h; exact HX3.out.trans h)
            have HBS := Lib.hid (show B ≤ wr.heap.size from by have h := HS.out.2.1.size; rw [HB.out] at h; exact h)
            by_cases hlt : m < n
            · obtain ⟨a, rfl, hg⟩ := HR.out (by omega)
              have hki : (m : Int) < (n : Int) := by omega
              have hk6 : (m : Int) < 13 := by omega
              have hkc : m < cap := by omega
              obtain ⟨⟨f, t⟩, hr⟩ : ∃ r, xs[m]? = some r := ⟨_, List.getElem?_eq_getElem (by rw [HN.out]; exact hlt)⟩
              have c0 := HX.out.cell (hg m _ hr).1
              have c1 := HX.out.cell (hg m _ hr).2
              simp only at c0 c1
              have HXM := Lib.hid hr
              clear hr hg
              cases hok : okC f t body.size with
              | false =>
                have HCR := Lib.hid (fun W => content_no hok W)
                have HNO := Lib.hid (show ¬ (xs ≠ [] ∧ ∀ p ∈ xs, okC p.1 p.2 body.size = true) from fun h => by
                  have := h.2 (f, t) (List.mem_of_getElem? HXM.out)
                  simp only at this
                  rw [hok] at this
                  cases this)
                clear hok
                by_cases a1 : f < 0
                · go_wp2_with fail
                  go_returns
                  exact ⟨_, _, rfl, Lib.hid (mres_one HG.out HNO.out), HX.out.alloc _⟩
                · by_cases a2 : t ≤ f
                  · go_wp2_with fail
                    go_returns
                    exact ⟨_, _, rfl, Lib.hid (mres_one HG.out HNO.out), HX.out.alloc _⟩
                  · by_cases a3 : (body.size : Int) < t
                    · go_wp2_with fail
                      go_returns
                      exact ⟨_, _, rfl, Lib.hid (mres_one HG.out HNO.out), HX.out.alloc _⟩
                    · go_wp2_with (go_at_call 32; refine (HCR.out _).mono ?_; rintro e w4 ⟨rfl, hx4⟩)
                      go_returns
                      exact ⟨_, _, rfl, Lib.hid (mres_one HG.out HNO.out), (HX.out.alloc _).trans hx4⟩
              | true =>
                have HCR := Lib.hid (fun W (hW : Ext w W) => content_ok hok W (HP.out.ext hW))
                have HOK := Lib.hid hok
                have hcz := cr_size hok
                obtain ⟨⟨p1, p2, p3⟩, p4, -, -⟩ := okC_parts hok
                obtain ⟨f, rfl⟩ := Int.eq_ofNat_of_zero_le p1
                obtain ⟨t, rfl⟩ := Int.eq_ofNat_of_zero_le (show 0 ≤ t by omega)
                obtain ⟨c, hc⟩ : ∃ c, crS f t body.size = c := ⟨_, rfl⟩
                rw [hc] at HCR hcz
                have HC := Lib.hid hc
                have hft : f ≤ t := by omega
                have hty : t ≤ body.size := by omega
                have hfc : ¬ cd = f := by omega
                have a1 : ¬ (f : Int) < 0 := by omega
                have a2 : ¬ (t : Int) ≤ (f : Int) := by omega
                have a3 : ¬ (body.size : Int) < (t : Int) := by omega
                clear hok hc p1 p3
                obtain ⟨H, hH⟩ : ∃ H, headS b vv c = H := ⟨_, rfl⟩
                have hHz : H.size ≤ 2210 := by rw [← hH]; exact head_size hbz hkz hcz
                have HH := Lib.hid hH
                clear hH
                go_upto_region 15 with (go_at_call 32; refine (HCR.out _ (HX.out.alloc _)).mono ?_; rintro e w4 ⟨rfl, hx4⟩)
                have HBX := Lib.hid ((row_laid wr 27 [.int .i64 (f : Int), .int .i64 (t : Int)]).ext hx4)
                have XA : Ext wr w4 := ((Ext.refl wr).alloc (.cells #[.int .i64 (f : Int), .int .i64 (t : Int)] 27)).trans hx4
                have HOS4 := Lib.hid (HS.out.1.kept XA)
                have HB4 := Lib.hid (Nat.le_trans HBS.out XA.size)
                have HW4 := Lib.hid (HS.out.2.1.trans (Below.mono XA HBS.out))
                clear hx4 XA c0 c1
                go_upto_region 16 with (at_builtin; refine wpList_os_string _ rfl _ _ rfl B HOS4.out rfl H (by rw [← HH.out]; rfl) (by omega) HB4.out ?_; intro y5 A5 c5 w5 e5 hz5 hc5 ho5 hb5 hk5; have HZ5 := Lib.hid hz5; have HE5 := Lib.hid e5; have hy5 : y5.size ≤ 66300 := (by omega); clear hz5 e5)
                have HBX5 := Lib.hid (hk5 _ _ _ (by decide) HBX.out)
                have HOS5 := Lib.hid ho5
                have HB5 := Lib.hid (Nat.le_trans HB4.out hb5.size)
                have HW5 := Lib.hid (HW4.out.trans hb5)
                have z0 := HBX5.out.cell (j := 0) rfl
                have z1 := HBX5.out.cell (j := 1) rfl
                clear ho5 hb5 hk5
                obtain ⟨d, hd⟩ : ∃ d, body.extract f t = d := ⟨_, rfl⟩
                have hdz : d.size = t - f := by rw [← hd, ByteArray.size_extract]; omega
                have HDZ := Lib.hid hdz
                have hd3 : d.size ≤ 3000 := by omega
                have HD := Lib.hid hd
                have HRD5 := Lib.hid (show Reads w5 w5.heap.size 1 (some ⟨gd, od + f, none⟩) (t - f) (Lib.strCells d) from by
                  have hX5 : Ext w w5 := by have h := HW5.out; rw [← HB.out] at h; exact HX3.out.trans h
                  have h := reads_partO (HRD.out.ext hX5) hft hty
                  rwa [hd] at h)
                clear hd hdz
                go_upto_region 17 with (first
                  | (at_builtin; refine wpList_os_string _ rfl _ _ rfl B HOS6.out rfl crlB rfl (by have : crlB.size = 2 := rfl; omega) HB6.out ?_; intro y7 A7 c7 w7 e7 hz7 hc7 ho7 hb7 hk7; have HZ7 := Lib.hid hz7; have HE7 := Lib.hid e7; clear hz7 e7)
                  | (at_builtin; refine wpList_os_bytes _ rfl _ _ rfl B HOS5.out rfl d rfl HRD5.out HDZ.out.symm (by omega) HB5.out ?_; intro y6 A6 c6 w6 e6 hz6 hc6 ho6 hb6 hk6; have HZ6 := Lib.hid hz6; have HE6 := Lib.hid e6; have hy6 : y6.size ≤ 70000 := (by omega); have HOS6 := Lib.hid ho6; have HB6 := Lib.hid (Nat.le_trans HB5.out hb6.size); clear hz6 ho6 hk6 e6))
                have HY7 : Hid (y7 = preS b vv body body.size (xs.take (m + 1))) := Lib.hid (by
                  have hcut : cutO body ((f : Int), (t : Int)) = d := by unfold cutO; simpa using HD.out
                  rw [take_step HXM.out, preS_snoc, ← HS.out.2.2.1, hcut, HE7.out, HE6.out, HE5.out]
                  simp only
                  rw [HC.out]
                  unfold partS
                  rw [HH.out, app_assoc, app_assoc, app_assoc])
                have HALL : Hid (∀ p ∈ xs.take (m + 1), okC p.1 p.2 body.size = true) := Lib.hid (fun p hp => by
                  rw [take_step HXM.out, List.mem_append] at hp
                  rcases hp with hp | hp
                  · exact HS.out.2.2.2 p hp
                  · obtain rfl : p = ((f : Int), (t : Int)) := by simpa using hp
                    exact HOK.out)
                have hz7 : y7.size ≤ 64000 := by
                  have h := preS_size hbz hkz hy (xs.take (m + 1)) HALL.out
                  rw [← HY7.out, List.length_take] at h
                  omega
                have HOS7 := Lib.hid ho7
                have HW7 := Lib.hid ((HW5.out.trans hb6).trans hb7)
                clear ho7 hb6 hb7 hk7
                go_wp2_with fail
                go_roundw
                case rel => exact ⟨m + 1, y7, A7, c7, by omega, by go_num, rfl, hz7, hc7, Lib.hid ⟨HOS7.out, HW7.out, HY7.out, HALL.out⟩⟩
                case measure => simp [intOf]; omega
            · obtain rfl : m = n := by omega
              have htk : xs.take m = xs := by rw [← HN.out, List.take_length]
              rw [htk] at HS
              clear htk
              have hfz : (finB b).size ≤ 46 := by
                unfold finB
                rw [app_size, app_size]
                have e1 : (⟨#[45, 45]⟩ : ByteArray).size = 2 := rfl
                have e2 : (⟨#[45, 45, 13, 10]⟩ : ByteArray).size = 4 := rfl
                omega
              have hf0 : 0 < (finB b).size := by
                unfold finB
                rw [app_size, app_size]
                have e2 : (⟨#[45, 45, 13, 10]⟩ : ByteArray).size = 4 := rfl
                omega
              obtain ⟨F, hF⟩ : ∃ F, finB b = F := ⟨_, rfl⟩
              have HF := Lib.hid hF
              rw [hF] at hfz hf0
              clear hF
              go_wp2_with (at_builtin; refine wpList_os_string _ rfl _ _ rfl B HS.out.1 rfl F (by rw [← HF.out]; rfl) (by omega) HBS.out ?_; intro y7 A7 c7 w7 e7 hz7 hc7 ho7 hb7 hk7; have HZ7 := Lib.hid hz7; have HE7 := Lib.hid e7; clear hz7 e7)
              go_returns
              refine ⟨_, _, rfl, Lib.hid ⟨y7, 0, rfl, .inl ⟨HG.out, HNE.out, HS.out.2.2.2, ?_, rfl⟩, fun _ => ⟨?_, ?_⟩, fun h => absurd rfl h⟩, ?_⟩
              · rw [HE7.out, HS.out.2.2.1, HF.out]
              · obtain ⟨g, cap, e, hg, hr⟩ := ho7.bytes (by have := HZ7.out; omega)
                exact ⟨g, cap, e, Nat.le_trans (by have := HX3.out.size; rw [HB.out] at this; exact this) hg, hr⟩
              · intro g n cap e
                injection e with e1 e2 e3
                omega
              · have h := HS.out.2.1.trans hb7
                rw [← HB.out] at h
                exact HX3.out.trans h
      · obtain rfl : b3 = false := HB3.out.symm.trans h1
        rcases h2 with rfl | rfl
        · clear h1
          go_wp2_with (first
      | (go_at_call 30; refine (HDL.out _).mono ?_; rintro e w2 ⟨rfl, rfl⟩)
      | (go_at_call 31; refine (bcontains_o (HRD.out.ext (HX1.out.trans hx2)) hcd (show BytesV w2 0 _ b from ⟨_, _, rfl, Nat.zero_le _, hr2⟩) (by omega) (by omega) (HM.out.ext (HX1.out.trans hx2))).mono ?_; rw [HB2.out]; rintro e w3 ⟨rfl, hx3⟩)
      | (refine wpList_bytes_of_string_g _ 9 22 5 (.tmp 27) rfl (by kernel_rfl) Tryz.underlying9 Tryz.underlying22 Tryz.underlying5 b rfl ?_; intro w2 cap2 hx2 hr2 hc2))
          go_returns
          exact ⟨_, _, rfl, Lib.hid (mres_two HG.out), (HX1.out.trans hx2).trans hx3⟩
        · clear h1
          go_wp2_with (first
      | (go_at_call 30; refine (HDL.out _).mono ?_; rintro e w2 ⟨rfl, rfl⟩)
      | (go_at_call 31; refine (bcontains_o (HRD.out.ext (HX1.out.trans hx2)) hcd (show BytesV w2 0 _ b from ⟨_, _, rfl, Nat.zero_le _, hr2⟩) (by omega) (by omega) (HM.out.ext (HX1.out.trans hx2))).mono ?_; rw [HB2.out]; rintro e w3 ⟨rfl, hx3⟩)
      | (refine wpList_bytes_of_string_g _ 9 22 5 (.tmp 27) rfl (by kernel_rfl) Tryz.underlying9 Tryz.underlying22 Tryz.underlying5 b rfl ?_; intro w2 cap2 hx2 hr2 hc2))
          go_returns
          exact ⟨_, _, rfl, Lib.hid (mres_two HG.out), (HX1.out.trans hx2).trans hx3⟩
      · obtain rfl : b3 = false := HB3.out.symm.trans h1
        have qv : (vv.toList == k.toList) = false := by rw [beq_eq_false_iff_ne]; exact fun h => h2 (bs_ext h)
        clear h1 h2
        go_wp2_with (first
      | (go_at_call 30; refine (HDL.out _).mono ?_; rintro e w2 ⟨rfl, rfl⟩)
      | (go_at_call 31; refine (bcontains_o (HRD.out.ext (HX1.out.trans hx2)) hcd (show BytesV w2 0 _ b from ⟨_, _, rfl, Nat.zero_le _, hr2⟩) (by omega) (by omega) (HM.out.ext (HX1.out.trans hx2))).mono ?_; rw [HB2.out]; rintro e w3 ⟨rfl, hx3⟩)
      | (refine wpList_bytes_of_string_g _ 9 22 5 (.tmp 27) rfl (by kernel_rfl) Tryz.underlying9 Tryz.underlying22 Tryz.underlying5 b rfl ?_; intro w2 cap2 hx2 hr2 hc2))
        go_returns
        exact ⟨_, _, rfl, Lib.hid (mres_two HG.out), (HX1.out.trans hx2).trans hx3⟩
end Go.Proofs.YtlhnejcjeoecaaaGreatDoor
namespace Go.Proofs.YtlhnejcjeoecaaaGreatDoor
open Go.RowKit
section
variable {P : Program} {ops : Array Oper} {md : Region.Mode} {C : World → Prop} {Q : Exit → Act → World → Prop}
/-- an operation that is passed over -/
theorem wpAnyC_skip {i : Nat} {oi : Oper} {f : Nat} {seen : Array Bool} {a : Act} {w : World} (hi : ops[i]? = some oi) (hs : Region.noSelect ops = true) (hf : Region.free md ops seen i = true) (hr : (Region.ready md ops seen).contains i = true)
    (hQ : ∀ c a w, Q (.panic c) (a.put oi.dst undef) w → Q (.panic c) a w) (hw : C w) (hg : Region.wanted oi (yielded ops a.tmps) = false)
    (h : wpAnyC P md ops C Q f (seen.setIfInBounds i true) (a.put oi.dst undef) w) : wpAnyC P md ops C Q (f + 1) seen a w :=
  wpAnyC_first hi (Region.noSelect_spec hs) hQ f seen a w hw (Region.free_spec hi hf) (by simpa using hr) (.inr ⟨hg, rfl⟩) h
end
theorem bytes_same {w : World} {u v : Value} {s : ByteArray} (h1 : (convert 22 9 u).run Tryz.prog w = .ok (.string s) w) (h2 : (convert 22 9 v).run Tryz.prog w = .ok (.string s) w) :
    Calls Tryz.prog 13 #[u, v] w fun e w' => e = .returned (.bool true) ∧ w = w' := by
  go_enter Tryz.func13, Tryz.ntmps13
  go_wp2_with fail
  go_ret
  exact ⟨ret_bool (by simp), rfl⟩
/-- a part of the body, read as a text -/
theorem part_conv {w : World} {g o cap : Nat} {t : ByteArray} (h : BO w g o t) {f u : Nat} (hft : f ≤ u) (hu : u ≤ t.size) :
    (convert 22 9 (.slice (some ⟨g, o + f, none⟩) (u - f) cap)).run Tryz.prog w = .ok (.string (t.extract f u)) w := by
  have hz : (t.extract f u).size = u - f := by rw [ByteArray.size_extract]; omega
  have hb : P20.BytesO w g (o + f) (t.extract f u) := by
    intro j hj
    rw [hz] at hj
    rw [Nat.add_assoc, h.2 (f + j) (by omega)]
    have e1 := P20.byteIs_getD (by omega : f + j < t.size)
    have e2 := P20.byteIs_getD (by omega : j < (t.extract f u).size)
    rw [e1, e2, ByteArray.getElem_extract]
  have := P20.conv_bytesO (cap := cap) hb
  rw [hz] at this
  exact this
theorem good_parts {b k body : ByteArray} (h : goodM b k body = true) : bndF b = true ∧ holdF body b = false ∧ kindF k = true := by
  unfold goodM at h
  simp only [Bool.and_eq_true, Bool.not_eq_true'] at h
  exact ⟨h.1.1, h.1.2, h.2⟩
end Go.Proofs.YtlhnejcjeoecaaaGreatDoor
