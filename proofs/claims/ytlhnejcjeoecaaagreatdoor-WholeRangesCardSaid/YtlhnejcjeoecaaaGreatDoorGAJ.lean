/- Chapter 09: the program's ReadMultipart. Chapter 09: a slice of bytes that came of a text and grows; the body of a Multi. Chapter 09: the reference's Multipart. -/
import Derived.Test.YtlhnejcjeoecaaaGreatDoorGAI
import Derived.ArgAppend
namespace Go.Proofs.YtlhnejcjeoecaaaGreatDoor
open Go.RowKit Go.Deep
/-- how much the reader has still to read -/
def leftOf (w : World) (g : Nat) : Nat := match w.cell? ⟨g, 0, none⟩ with
  | some (.string s) => s.size
  | _ => 0
theorem left_is {w : World} {g : Nat} {s : ByteArray} {bd : Bool} (h : RowB w g 79 [.string s, .bool bd]) : leftOf w g = s.size := by
  unfold leftOf
  rw [h.cell (j := 0) rfl]
theorem RS.set0 {w0 w : World} {g B : Nat} {s : ByteArray} {bd : Bool} {v : Value} {ps : List (Int × Int × ByteArray)} (h : RS w0 w g B s bd v ps) (x : ByteArray) : RS w0 (w.setCell ⟨g, 0, none⟩ (.string x)) g B x bd v ps :=
  ⟨h.row.set 0 (.string x) (by simp), h.pts.other h.hi _, h.ext.setCell h.lo _, h.lo, h.hi⟩
theorem P3.more {T : TypeId} {w : World} {B B' : Nat} {v : Value} {qs : List (Int × Int × Value)} (h : P3 T w B v qs) (hb : B' ≤ B) : P3 T w B' v qs := own_more h hb
theorem PPt.more {w : World} {B B' : Nat} {v : Value} {ps : List (Int × Int × ByteArray)} (h : PPt w B v ps) (hb : B' ≤ B) : PPt w B' v ps := by
  obtain ⟨ds, h1, h2, h3⟩ := h
  refine ⟨ds, h1, h2.more hb, fun i d p hd hp => ?_⟩
  obtain ⟨g, cap, e, hg, hr⟩ := h3 i d p hd hp
  exact ⟨g, cap, e, by omega, hr⟩
set_option maxRecDepth 100000 in
set_option maxHeartbeats 8000000 in
theorem readm_any (b s0 : ByteArray) (hb : b.size ≤ 3000) (hs0 : s0.size ≤ 100000) {w : World} {bv : Value} (hbv : BytesV w 0 bv s0) (hM : MaxL w) (hP : PowT w) :
    Calls Tryz.prog 18 #[.string b, bv] w fun e w' => ∃ v n ev, e = .returned (.tuple #[v, .int .i64 n, ev]) ∧
      Hid ((∃ ps, (bndF b = true ∧ rdF b s0 none = some (ps, n)) ∧ ev = .nilIface ∧ PPt w' w.heap.size v ps ∧ ps.length ≤ 100000) ∨ ((bndF b = true → rdF b s0 none = none) ∧ v = .slice none 0 0 ∧ n = 0 ∧ ev = errV 2)) ∧ Ext w w' := by
  have HBD := Lib.hid (fun W => delimiter_any b (by omega) W)
  cases hbd : bndF b with
  | false =>
    rw [hbd] at HBD
    clear hbd
    go_enter Tryz.func18, Tryz.ntmps18
    go_wp2_with (go_at_call 30; refine (HBD.out _).mono ?_; rintro e w1 ⟨rfl, rfl⟩)
    go_returns
    exact ⟨_, _, _, rfl, Lib.hid (.inr ⟨by first | exact fun h => (by cases h) | trivial | simp, rfl, rfl, rfl⟩), Ext.refl _⟩
  | true =>
    rw [hbd] at HBD
    clear hbd
    obtain ⟨tot, htot⟩ : ∃ tot, rdF b s0 none = tot := ⟨_, rfl⟩
    have HTOT := Lib.hid htot
    have HST0 := Lib.hid (show Still b tot s0 none [] by rw [← htot]; exact Still.start b s0)
    have HM := Lib.hid hM
    have HPW := Lib.hid hP
    have hcv := hbv.conv
    obtain ⟨wa, hwa⟩ : ∃ wa, wa = w.alloc (.cells #[.string s0, .bool false] 79) := ⟨_, rfl⟩
    have XA : Ext w wa := by rw [hwa]; exact (Ext.refl w).alloc _
    have hrow : RowB wa w.heap.size 79 [.string s0, .bool false] := by rw [hwa]; exact row_laid _ _ _
    have HRS := Lib.hid (show RS w wa w.heap.size (w.heap.size + 1) s0 false (.slice none 0 0) [] from ⟨hrow, PPt.nil _ _, XA, Nat.le_refl _, Nat.lt_succ_self _⟩)
    clear htot hM hP XA hrow
    go_enter Tryz.func18, Tryz.ntmps18
    go_upto_region 4 with (go_at_call 30; refine (HBD.out _).mono ?_; rintro e w1 ⟨rfl, rfl⟩)
    rw [← hwa]
    clear hwa hcv
    obtain ⟨g, hg⟩ : ∃ g, w.heap.size = g := ⟨_, rfl⟩
    have HG := Lib.hid hg
    rw [hg] at HRS ⊢
    clear hg
    go_upto_region 6 with fail
    go_loopw [8, 9, 10] (fun ov kv lv wr => ∃ (s : ByteArray) (bd : Value) (bb : Bool) (ps : List (Int × Int × ByteArray)) (st : Option (ByteArray × Int)) (k : ByteArray) (n : Int) (A8 : Option Addr) (c8 : Nat), ov = .slice A8 ps.length c8 ∧ kv = .string k ∧ lv = .int .i64 n ∧ bd = .bool bb ∧ ps.length + s.size ≤ 100000 ∧ Hid (RS w wr g (g + 1) s bb ov ps ∧ (st = none ∨ st = some (k, n)) ∧ ((bb = false ∧ Still b tot s st ps) ∨ (bb = true ∧ tot = none)))) (fun _ _ _ wr => leftOf wr g)
    case atStart => exact ⟨s0, _, false, [], none, ⟨#[]⟩, 0, none, 0, rfl, rfl, rfl, rfl, by simpa using hs0, Lib.hid ⟨HRS.out, .inl rfl, .inl ⟨rfl, HST0.out⟩⟩⟩
    case round =>
      obtain ⟨s, bd, bb, ps, st, k, n, A8, c8, rfl, rfl, rfl, rfl, hlen, HS⟩ := hrel
      have hss : s.size ≤ 100000 := by omega
      have c0 := HS.out.1.row.cell (j := 0) rfl
      have c1 := HS.out.1.row.cell (j := 1) rfl
      cases bb with
      | true =>
        have HT := Lib.hid (show tot = none by
          rcases HS.out.2.2 with h | h
          · cases h.1
          · exact h.2)
        have HXF := Lib.hid HS.out.1.ext
        go_wp2_with fail
        go_returns
        exact ⟨_, _, _, rfl, Lib.hid (.inr ⟨by first | exact HTOT.out.trans HT.out | exact fun _ => HTOT.out.trans HT.out, rfl, rfl, rfl⟩), HXF.out⟩
      | false =>
        have HSL := Lib.hid (show Still b tot s st ps by
          rcases HS.out.2.2 with h | h
          · exact h.2
          · cases h.1)
        by_cases hf : s = finB b
        · have hq : (s.toList == (⟨#[45, 45]⟩ ++ b ++ ⟨#[45, 45, 13, 10]⟩ : ByteArray).toList) = true := by rw [hf]; exact beq_self_eq_true _
          have HXF := Lib.hid HS.out.1.ext
          rcases HSL.out.fin hf with ⟨hps, ht⟩ | ⟨hps, k', n', hst, ht⟩
          · subst hps
            have HT := Lib.hid ht
            clear hf ht
            go_wp2_with fail
            go_returns
            exact ⟨_, _, _, rfl, Lib.hid (.inr ⟨by first | exact HTOT.out.trans HT.out | exact fun _ => HTOT.out.trans HT.out, rfl, rfl, rfl⟩), HXF.out⟩
          · have hp0 : 0 < ps.length := List.length_pos_iff.2 hps
            have hp0' : ((ps.length : Int) == 0) = false := by simp; omega
            have hp0n : ¬ ps.length = 0 := by omega
            have HT := Lib.hid (show tot = some (ps, n) by
              rcases HS.out.2.1 with h | h
              · rw [hst] at h; cases h
              · rw [hst] at h
                have := (Prod.mk.inj (Option.some.inj h)).2
                rw [ht, this])
            clear hf ht hps hst
            go_wp2_with fail
            go_returns
            refine ⟨_, _, _, rfl, Lib.hid (.inl ⟨ps, by first | exact HTOT.out.trans HT.out | exact ⟨rfl, HTOT.out.trans HT.out⟩, rfl, ?_, by omega⟩), HXF.out⟩
            exact (HS.out.1.pts).more (by have := HG.out; omega)
        · have hq : (s.toList == (⟨#[45, 45]⟩ ++ b ++ ⟨#[45, 45, 13, 10]⟩ : ByteArray).toList) = false := by rw [beq_eq_false_iff_ne]; exact fun h => hf (bs_ext h)
          have HNF := Lib.hid hf
          clear hf
          go_upto_region 7 with fail
          clear c0 c1
          go_upto_region 8 with (go_at_call 33; refine (skip_rs HS.out.1 (hdB b)).mono ?_; rintro e w1 ⟨rfl, x1, hx1, he1, hr1, hk1⟩)
          obtain ⟨b1, hb1⟩ : ∃ c, (false || !pfxB (hdB b) s) = c := ⟨_, rfl⟩
          rw [hb1] at hr1
          have HB1 := Lib.hid hb1
          have HR1 := Lib.hid hr1
          have HE1 := Lib.hid he1
          have hz1 := cutB_size x1
          obtain ⟨⟨y1, r1, o1⟩, hc1⟩ : ∃ q, cutB x1 = q := ⟨_, rfl⟩
          have HC1 := Lib.hid hc1
          have HL1 := Lib.hid (line_rs hr1 (by omega) HM.out)
          rw [hc1] at hz1 HL1
          simp only at hz1 HL1
          clear hr1 he1 hk1 hb1 hc1
          go_upto_region 9 with (go_at_call 34; refine HL1.out.mono ?_; rintro e w2 ⟨rfl, hr2, hk2⟩)
          obtain ⟨b2, hb2⟩ : ∃ c, (b1 || !o1) = c := ⟨_, rfl⟩
          rw [hb2] at hr2
          have HB2 := Lib.hid hb2
          have HR2 := Lib.hid hr2
          clear hr2 hk2 hb2 HL1
          go_upto_region 10 with (go_at_call 33; refine (skip_rs HR2.out crB).mono ?_; rintro e w3 ⟨rfl, x2, hx2, he2, hr3, hk3⟩)
          obtain ⟨b3, hb3⟩ : ∃ c, (b2 || !pfxB crB r1) = c := ⟨_, rfl⟩
          rw [hb3] at hr3
          have HB3 := Lib.hid hb3
          have HR3 := Lib.hid hr3
          have HE2 := Lib.hid he2
          have hz2 := cutB_size x2
          obtain ⟨⟨y2, r2, o2⟩, hc2⟩ : ∃ q, cutB x2 = q := ⟨_, rfl⟩
          have HC2 := Lib.hid hc2
          have HL2 := Lib.hid (line_rs hr3 (by omega) HM.out)
          rw [hc2] at hz2 HL2
          simp only at hz2 HL2
          clear hr3 he2 hk3 hb3 hc2
          have HCR := Lib.hid (fun W (hW : Ext w W) => readcr_any y2 (by omega) W (HM.out.ext hW) (HPW.out.ext hW))
          go_upto_region 11 with (first
            | (go_at_call 34; refine HL2.out.mono ?_; rintro e w4 ⟨rfl, hr4, hk4⟩)
            | (go_at_call 35; refine (HCR.out _ hr4.ext).mono ?_; rintro e w5 ⟨⟨f, t, nn, ev, rfl, HK5⟩, hx5⟩))
          obtain ⟨b4, hb4⟩ : ∃ c, (b3 || !o2) = c := ⟨_, rfl⟩
          rw [hb4] at hr4
          have HB4 := Lib.hid hb4
          obtain ⟨w6, hw6⟩ : ∃ wb, wb = w5.alloc (.cells #[.int .i64 f, .int .i64 t] 27) := ⟨_, rfl⟩
          have X6 : Ext w5 w6 := by rw [hw6]; exact (Ext.refl w5).alloc _
          have HBX : Hid (RowB w6 w5.heap.size 27 [.int .i64 f, .int .i64 t]) := Lib.hid (by rw [hw6]; exact row_laid _ _ _)
          have hgx : g < w5.heap.size := Nat.lt_of_lt_of_le hr4.row.lt hx5.size
          rw [← hw6]
          clear hw6
          have HR6 := Lib.hid (hr4.grow (hx5.trans X6))
          obtain ⟨rb, hrb⟩ : ∃ q, w5.heap.size = q := ⟨_, rfl⟩
          rw [hrb] at HBX hgx ⊢
          clear hrb hr4 hk4 hx5 X6 hb4 HL2 HCR
          go_upto_region 12 with (go_at_call 33; refine (skip_rs HR6.out crlB).mono ?_; rintro e w7 ⟨rfl, x3, hx3, he3, hr7, hk7⟩)
          obtain ⟨b5, hb5⟩ : ∃ c, (b4 || !pfxB crlB r2) = c := ⟨_, rfl⟩
          rw [hb5] at hr7
          have HB5 := Lib.hid hb5
          have HE3 := Lib.hid he3
          have HBX7 := Lib.hid (hk7.row HBX.out (by omega))
          have HFV := Lib.hid (fvalue_any y1 (by omega) w7)
          have HR7 := Lib.hid hr7
          clear hr7 hk7 hb5 he3
          go_upto_region 13 with (go_at_call 29; refine HFV.out.mono ?_; rintro e w8 ⟨⟨vv, ev2, rfl, HK6⟩, hx8⟩)
          have HR8 := Lib.hid (HR7.out.grow hx8)
          have HBX8 := Lib.hid (HBX7.out.ext hx8)
          clear hx8 HFV
          have a0 := HBX8.out.cell (j := 0) rfl
          have a1 := HBX8.out.cell (j := 1) rfl
          have c0 := HR8.out.row.cell (j := 0) rfl
          have c1 := HR8.out.row.cell (j := 1) rfl
          have HXF := Lib.hid HR8.out.ext
          have HOK : Hid (b5 = false → okP b s ∧ (k1 b s) = (y1, r1, o1) ∧ (k2 b s) = (y2, r2, o2) ∧ eB b s = x3) := Lib.hid (fun h5 => by
            have e5 := HB5.out
            rw [h5] at e5
            have e4 := HB4.out
            have e3 := HB3.out
            have e2 := HB2.out
            have e1 := HB1.out
            simp only [Bool.or_eq_false_iff, Bool.not_eq_false'] at e5
            rw [e5.1] at e4
            simp only [Bool.or_eq_false_iff, Bool.not_eq_false'] at e4
            rw [e4.1] at e3
            simp only [Bool.or_eq_false_iff, Bool.not_eq_false'] at e3
            rw [e3.1] at e2
            simp only [Bool.or_eq_false_iff, Bool.not_eq_false'] at e2
            rw [e2.1] at e1
            simp only [Bool.or_eq_false_iff, Bool.not_eq_false', true_and] at e1
            have g1 : k1 b s = (y1, r1, o1) := by
              unfold k1
              rw [← HE1.out e1]
              exact HC1.out
            have g2 : k2 b s = (y2, r2, o2) := by
              unfold k2
              rw [g1]
              simp only
              rw [← HE2.out e3.2]
              exact HC2.out
            refine ⟨⟨e1, by rw [g1]; exact e2.2, by rw [g1]; exact e3.2, by rw [g2]; exact e4.2, by rw [g2]; exact e5.2⟩, g1, g2, ?_⟩
            unfold eB
            rw [g2]
            exact (HE3.out e5.2).symm)
          have HBAD : Hid (b5 = true → ¬ okP b s) := Lib.hid (fun h5 hP => by
            obtain ⟨p1, p2, p3, p4, p5⟩ := hP
            have e1 := HB1.out
            rw [p1] at e1
            have g1 : k1 b s = (y1, r1, o1) := by
              unfold k1
              rw [← HE1.out p1]
              exact HC1.out
            rw [g1] at p2 p3
            simp only at p2 p3
            have g2 : k2 b s = (y2, r2, o2) := by
              unfold k2
              rw [g1]
              simp only
              rw [← HE2.out p3]
              exact HC2.out
            rw [g2] at p4 p5
            simp only at p4 p5
            have e2 := HB2.out
            have e3 := HB3.out
            have e4 := HB4.out
            have e5 := HB5.out
            rw [← e1, p2] at e2
            rw [← e2, p3] at e3
            rw [← e3, p4] at e4
            rw [← e4, p5, h5] at e5
            cases e5)
          cases b5 with
          | true =>
            have HB := Lib.hid (HSL.out.bad HNF.out (part_no1 (HBAD.out rfl)))
            go_wp2_with fail
            go_returns
            exact ⟨_, _, _, rfl, Lib.hid (.inr ⟨by first | exact HTOT.out.trans HB.out | exact fun _ => HTOT.out.trans HB.out, rfl, rfl, rfl⟩), HXF.out⟩
          | false =>
            obtain ⟨hok, g1, g2, ge⟩ := HOK.out rfl
            have HOKP := Lib.hid hok
            have HG1 := Lib.hid g1
            have HG2 := Lib.hid g2
            have HGE := Lib.hid ge
            clear hok g1 g2 ge
            rcases HK5.out with ⟨k1', k2', rfl⟩ | ⟨k1', rfl, rfl, rfl, rfl⟩
            · have HCO := Lib.hid (show crO (k2 b s).1 = some (f, t, nn) by rw [HG2.out]; exact crO_yes k1' k2')
              have HOKC := Lib.hid k1'
              clear k1' k2'
              rcases HK6.out with ⟨h1, rfl, rfl⟩ | ⟨h1, rfl | rfl | ⟨rfl, h2⟩⟩
              · have HKK := Lib.hid (show kindF (k1 b s).1 = true by rw [HG1.out]; exact h1)
                clear h1
                obtain ⟨⟨p1, p2, p3⟩, -, -, -⟩ := okC_parts HOKC.out
                obtain ⟨z, hz⟩ : ∃ z : Nat, (z : Int) = t - f := ⟨(t - f).toNat, by omega⟩
                have HZ2 := Lib.hid (show szI f t = z by unfold szI; omega)
                have hw : wrap64 (t - f) = (z : Int) := by unfold wrap64; omega
                have hz6 : (z : Int) ≤ 999999999999999 := by omega
                clear hz p1 p2 p3
                have HKY := Lib.hid (show (k1 b s).1 = vv by rw [HG1.out])
                rcases HS.out.2.1 with hst | hst
                · have HSTE := Lib.hid (show st = none ∨ st = some ((k1 b s).1, nn) from .inl hst)
                  have hps : ps = [] := HSL.out.2.2 hst
                  subst hps
                  simp only [List.length_nil] at hlen
                  clear hst
                  by_cases hzl : z ≤ x3.size
                  · have hzl' : ¬ (x3.size : Int) < (z : Int) := by omega
                    go_upto_region 16 with fail
                    have f0 := HR8.out.row.frozen (j := 0) (by simp)
                    have hzi : (z : Int) ≤ (x3.size : Int) := by omega
                    have hx3z : x3.size ≤ 100000 := by omega
                    obtain ⟨d, hd⟩ : ∃ d, x3.extract 0 z = d := ⟨_, rfl⟩
                    obtain ⟨e9, he9⟩ : ∃ d, x3.extract z x3.size = d := ⟨_, rfl⟩
                    have HDE := Lib.hid (And.intro hd he9)
                    have hds : d.size ≤ 100000 := by rw [← hd, ByteArray.size_extract]; omega
                    have hes : e9.size ≤ 100000 := by rw [← he9, ByteArray.size_extract]; omega
                    go_upto_region 18 with fail
                    have HR9 := Lib.hid (HR8.out.set0 e9)
                    have HBX9 := Lib.hid ((keep_set w8 g 0 (.string e9)).row HBX8.out (by omega))
                    clear c0 c1 a0 a1 f0 hd he9
                    go_upto_region 19 with (go_at_call 33; refine (skip_rs HR9.out crlB).mono ?_; rintro e w10 ⟨rfl, x4, hx4, he4, hr10, hk10⟩)
                    obtain ⟨b6, hb6⟩ : ∃ c, (false || !pfxB crlB e9) = c := ⟨_, rfl⟩
                    rw [hb6] at hr10
                    have HB6 := Lib.hid hb6
                    have HR10 := Lib.hid hr10
                    have HE4 := Lib.hid he4
                    have HBX10 := Lib.hid (hk10.row HBX9.out (by omega))
                    clear hr10 hk10 hb6 he4
                    have HCT := Lib.hid (scontains_any d b (by omega) w10 (HM.out.ext HR10.out.ext))
                    obtain ⟨hh, hhd⟩ : ∃ c, holdF d b = c := ⟨_, rfl⟩
                    have HHD := Lib.hid hhd
                    rw [show Lib.contains d.data.toList b.data.toList = hh from hhd] at HCT
                    clear hhd
                    cases hh with
                    | true =>
                      have HN := Lib.hid (cond_hold (st := st) (f := f) (t := t) (n := nn) HZ2.out HGE.out.symm (by rw [HDE.out.1]; exact HHD.out))
                      have HB := Lib.hid (HSL.out.bad HNF.out (part_no3 HCO.out HN.out))
                      have HXG := Lib.hid HR10.out.ext
                      go_wp2_with (go_at_call 36; refine HCT.out.mono ?_; rintro e w11 ⟨rfl, rfl⟩)
                      go_returns
                      exact ⟨_, _, _, rfl, Lib.hid (.inr ⟨by first | exact HTOT.out.trans HB.out | exact fun _ => HTOT.out.trans HB.out, rfl, rfl, rfl⟩), HXG.out⟩
                    | false =>
                      go_upto_region 21 with (go_at_call 36; refine HCT.out.mono ?_; rintro e w11 ⟨rfl, rfl⟩)
                      have HFIN : Hid ((b6 = false ∧ Still b tot x4 (some (vv, nn)) ([] ++ [(f, t, d)])) ∨ (b6 = true ∧ tot = none)) := Lib.hid (by
                        have e6 := HB6.out
                        cases hp : pfxB crlB e9 with
                        | true =>
                          rw [hp] at e6
                          have h4 := HE4.out hp
                          have h2 : z + 2 ≤ x3.size := by
                            have := pfxB_size hp
                            rw [← HDE.out.2, ByteArray.size_extract, crlB_size] at this
                            omega
                          have hpp : pfxB crlB (x3.extract z x3.size) = true := by rw [HDE.out.2]; exact hp
                          have hhh : holdF (x3.extract 0 z) b = false := by rw [HDE.out.1]; exact HHD.out
                          have hgo := HSL.out.step HNF.out (part_go HOKP.out HCO.out HKK.out HSTE.out HZ2.out HGE.out.symm h2 hpp hhh)
                          rw [HDE.out.1, HKY.out, ← aft_ext h2, HDE.out.2, ← h4] at hgo
                          exact .inl ⟨e6.symm, hgo⟩
                        | false =>
                          rw [hp] at e6
                          exact .inr ⟨e6.symm, HSL.out.bad HNF.out (part_no3 HCO.out (cond_cr (st := st) (f := f) (t := t) (n := nn) HZ2.out HGE.out.symm (by rw [HDE.out.2]; exact hp)))⟩)
                      have hx4s : x4.size < s.size := by
                        have h8 : e9.size ≤ x3.size := by rw [← HDE.out.2, ByteArray.size_extract]; omega
                        have h5 := aft_size (hdB b) s
                        have h6 := hd_pos b
                        have h7 := pfxB_size HOKP.out.1
                        rw [← HE1.out HOKP.out.1] at h5
                        omega
                      have HX4S := Lib.hid hx4s
                      clear hx4s
                      have g0 := HBX10.out.cell (j := 0) rfl
                      have g1 := HBX10.out.cell (j := 1) rfl
                      have HGB := Lib.hid (show g + 1 ≤ w11.heap.size from HR10.out.row.lt)
                      go_upto_region 22 with (first
                        | (at_builtin; refine wpList_append_part _ rfl _ _ rfl HR12.out f t d HBV.out rfl rfl rfl (by first | omega | simp) (Nat.le_trans HGB.out hx12.size) ?_; intro A13 w13 c13 hc13 hr13)
                        | ((with_reducible show wpList _ _ _ _ _ _); refine wpList_bytes_of_string _ rfl 9 22 5 _ rfl Tryz.underlying9 Tryz.underlying22 Tryz.underlying5 d rfl ?_; intro w12 cap12 hx12 hr12 hc12; have HR12 := Lib.hid (HR10.out.grow hx12); have HBV := Lib.hid (show BytesV w12 (g + 1) (.slice (some ⟨w11.heap.size, 0, none⟩) d.size cap12) d from ⟨_, _, rfl, HGB.out, hr12⟩)))
                      have HR13 := Lib.hid hr13
                      clear hr13
                      go_wp2_with fail
                      go_roundw
                      all_goals first
                        | exact ⟨x4, _, b6, [] ++ [(f, t, d)], some (vv, nn), vv, nn, A13, c13, by first | rfl | simp, rfl, rfl, rfl, by have := HX4S.out; simp only [List.length_append, List.length_cons, List.length_nil]; omega, Lib.hid ⟨by first | exact HR13.out | (have h := HR13.out; simpa only [List.length_append, List.length_cons, List.length_nil, Nat.zero_add] using h), .inr rfl, HFIN.out⟩⟩
                        | (show leftOf w13 g < leftOf _ g; rw [left_is HR13.out.row, left_is HS.out.1.row]; exact HX4S.out)
                        | (trace_state; sorry)
                  · have hzl' : (x3.size : Int) < (z : Int) := by omega
                    have HN := Lib.hid (cond_len (st := st) (f := f) (t := t) (n := nn) HZ2.out HGE.out.symm (by omega))
                    have HB := Lib.hid (HSL.out.bad HNF.out (part_no3 HCO.out HN.out))
                    go_wp2_with fail
                    go_returns
                    exact ⟨_, _, _, rfl, Lib.hid (.inr ⟨by first | exact HTOT.out.trans HB.out | exact fun _ => HTOT.out.trans HB.out, rfl, rfl, rfl⟩), HXF.out⟩
                · have hps : 0 < ps.length := by
                    rcases Nat.eq_zero_or_pos ps.length with h0 | h0
                    · have := HSL.out.2.1 (List.length_eq_zero_iff.1 h0)
                      rw [hst] at this
                      cases this
                    · exact h0
                  have hps' : (0 : Int) < (ps.length : Int) := by omega
                  have HSTS := Lib.hid hst
                  clear hst
                  by_cases hmk : vv = k
                  · have qk : (vv.toList == k.toList) = true := by rw [hmk]; exact beq_self_eq_true _
                    by_cases hnn : nn = n
                    · have qn : (nn != n) = false := by simp [hnn]
                      have HSTE := Lib.hid (show st = none ∨ st = some ((k1 b s).1, nn) from .inr (by rw [HSTS.out, HKY.out, hmk, hnn]))
                      clear hmk hnn
                      by_cases hzl : z ≤ x3.size
                      · have hzl' : ¬ (x3.size : Int) < (z : Int) := by omega
                        go_upto_region 16 with fail
                        have f0 := HR8.out.row.frozen (j := 0) (by simp)
                        have hzi : (z : Int) ≤ (x3.size : Int) := by omega
                        have hx3z : x3.size ≤ 100000 := by omega
                        obtain ⟨d, hd⟩ : ∃ d, x3.extract 0 z = d := ⟨_, rfl⟩
                        obtain ⟨e9, he9⟩ : ∃ d, x3.extract z x3.size = d := ⟨_, rfl⟩
                        have HDE := Lib.hid (And.intro hd he9)
                        have hds : d.size ≤ 100000 := by rw [← hd, ByteArray.size_extract]; omega
                        have hes : e9.size ≤ 100000 := by rw [← he9, ByteArray.size_extract]; omega
                        go_upto_region 18 with fail
                        have HR9 := Lib.hid (HR8.out.set0 e9)
                        have HBX9 := Lib.hid ((keep_set w8 g 0 (.string e9)).row HBX8.out (by omega))
                        clear c0 c1 a0 a1 f0 hd he9
                        go_upto_region 19 with (go_at_call 33; refine (skip_rs HR9.out crlB).mono ?_; rintro e w10 ⟨rfl, x4, hx4, he4, hr10, hk10⟩)
                        obtain ⟨b6, hb6⟩ : ∃ c, (false || !pfxB crlB e9) = c := ⟨_, rfl⟩
                        rw [hb6] at hr10
                        have HB6 := Lib.hid hb6
                        have HR10 := Lib.hid hr10
                        have HE4 := Lib.hid he4
                        have HBX10 := Lib.hid (hk10.row HBX9.out (by omega))
                        clear hr10 hk10 hb6 he4
                        have HCT := Lib.hid (scontains_any d b (by omega) w10 (HM.out.ext HR10.out.ext))
                        obtain ⟨hh, hhd⟩ : ∃ c, holdF d b = c := ⟨_, rfl⟩
                        have HHD := Lib.hid hhd
                        rw [show Lib.contains d.data.toList b.data.toList = hh from hhd] at HCT
                        clear hhd
                        cases hh with
                        | true =>
                          have HN := Lib.hid (cond_hold (st := st) (f := f) (t := t) (n := nn) HZ2.out HGE.out.symm (by rw [HDE.out.1]; exact HHD.out))
                          have HB := Lib.hid (HSL.out.bad HNF.out (part_no3 HCO.out HN.out))
                          have HXG := Lib.hid HR10.out.ext
                          go_wp2_with (go_at_call 36; refine HCT.out.mono ?_; rintro e w11 ⟨rfl, rfl⟩)
                          go_returns
                          exact ⟨_, _, _, rfl, Lib.hid (.inr ⟨by first | exact HTOT.out.trans HB.out | exact fun _ => HTOT.out.trans HB.out, rfl, rfl, rfl⟩), HXG.out⟩
                        | false =>
                          go_upto_region 21 with (go_at_call 36; refine HCT.out.mono ?_; rintro e w11 ⟨rfl, rfl⟩)
                          have HFIN : Hid ((b6 = false ∧ Still b tot x4 (some (vv, nn)) (ps ++ [(f, t, d)])) ∨ (b6 = true ∧ tot = none)) := Lib.hid (by
                            have e6 := HB6.out
                            cases hp : pfxB crlB e9 with
                            | true =>
                              rw [hp] at e6
                              have h4 := HE4.out hp
                              have h2 : z + 2 ≤ x3.size := by
                                have := pfxB_size hp
                                rw [← HDE.out.2, ByteArray.size_extract, crlB_size] at this
                                omega
                              have hpp : pfxB crlB (x3.extract z x3.size) = true := by rw [HDE.out.2]; exact hp
                              have hhh : holdF (x3.extract 0 z) b = false := by rw [HDE.out.1]; exact HHD.out
                              have hgo := HSL.out.step HNF.out (part_go HOKP.out HCO.out HKK.out HSTE.out HZ2.out HGE.out.symm h2 hpp hhh)
                              rw [HDE.out.1, HKY.out, ← aft_ext h2, HDE.out.2, ← h4] at hgo
                              exact .inl ⟨e6.symm, hgo⟩
                            | false =>
                              rw [hp] at e6
                              exact .inr ⟨e6.symm, HSL.out.bad HNF.out (part_no3 HCO.out (cond_cr (st := st) (f := f) (t := t) (n := nn) HZ2.out HGE.out.symm (by rw [HDE.out.2]; exact hp)))⟩)
                          have hx4s : x4.size < s.size := by
                            have h8 : e9.size ≤ x3.size := by rw [← HDE.out.2, ByteArray.size_extract]; omega
                            have h5 := aft_size (hdB b) s
                            have h6 := hd_pos b
                            have h7 := pfxB_size HOKP.out.1
                            rw [← HE1.out HOKP.out.1] at h5
                            omega
                          have HX4S := Lib.hid hx4s
                          clear hx4s
                          have g0 := HBX10.out.cell (j := 0) rfl
                          have g1 := HBX10.out.cell (j := 1) rfl
                          have HGB := Lib.hid (show g + 1 ≤ w11.heap.size from HR10.out.row.lt)
                          go_upto_region 22 with (first
                            | (at_builtin; refine wpList_append_part _ rfl _ _ rfl HR12.out f t d HBV.out rfl rfl rfl (by first | omega | simp) (Nat.le_trans HGB.out hx12.size) ?_; intro A13 w13 c13 hc13 hr13)
                            | ((with_reducible show wpList _ _ _ _ _ _); refine wpList_bytes_of_string _ rfl 9 22 5 _ rfl Tryz.underlying9 Tryz.underlying22 Tryz.underlying5 d rfl ?_; intro w12 cap12 hx12 hr12 hc12; have HR12 := Lib.hid (HR10.out.grow hx12); have HBV := Lib.hid (show BytesV w12 (g + 1) (.slice (some ⟨w11.heap.size, 0, none⟩) d.size cap12) d from ⟨_, _, rfl, HGB.out, hr12⟩)))
                          have HR13 := Lib.hid hr13
                          clear hr13
                          go_wp2_with fail
                          go_roundw
                          all_goals first
                            | exact ⟨x4, _, b6, ps ++ [(f, t, d)], some (vv, nn), vv, nn, A13, c13, by first | rfl | simp, rfl, rfl, rfl, by have := HX4S.out; simp only [List.length_append, List.length_cons, List.length_nil]; omega, Lib.hid ⟨by first | exact HR13.out | (have h := HR13.out; simpa only [List.length_append, List.length_cons, List.length_nil, Nat.zero_add] using h), .inr rfl, HFIN.out⟩⟩
                            | (show leftOf w13 g < leftOf _ g; rw [left_is HR13.out.row, left_is HS.out.1.row]; exact HX4S.out)
                            | (trace_state; sorry)
                      · have hzl' : (x3.size : Int) < (z : Int) := by omega
                        have HN := Lib.hid (cond_len (st := st) (f := f) (t := t) (n := nn) HZ2.out HGE.out.symm (by omega))
                        have HB := Lib.hid (HSL.out.bad HNF.out (part_no3 HCO.out HN.out))
                        go_wp2_with fail
                        go_returns
                        exact ⟨_, _, _, rfl, Lib.hid (.inr ⟨by first | exact HTOT.out.trans HB.out | exact fun _ => HTOT.out.trans HB.out, rfl, rfl, rfl⟩), HXF.out⟩
                    · have qn : (nn != n) = true := by simp [hnn]
                      have HN := Lib.hid (cond_state (b := b) (s := s) (f := f) (t := t) (n := nn) HSTS.out (fun h => hnn h.2))
                      clear hmk hnn
                      have HB := Lib.hid (HSL.out.bad HNF.out (part_no3 HCO.out HN.out))
                      go_wp2_with fail
                      go_returns
                      exact ⟨_, _, _, rfl, Lib.hid (.inr ⟨by first | exact HTOT.out.trans HB.out | exact fun _ => HTOT.out.trans HB.out, rfl, rfl, rfl⟩), HXF.out⟩
                  · have qk : (vv.toList == k.toList) = false := by rw [beq_eq_false_iff_ne]; exact fun h => hmk (bs_ext h)
                    have HN := Lib.hid (cond_state (b := b) (s := s) (f := f) (t := t) (n := nn) HSTS.out (fun h => hmk (HKY.out.symm.trans h.1)))
                    clear hmk
                    have HB := Lib.hid (HSL.out.bad HNF.out (part_no3 HCO.out HN.out))
                    go_wp2_with fail
                    go_returns
                    exact ⟨_, _, _, rfl, Lib.hid (.inr ⟨by first | exact HTOT.out.trans HB.out | exact fun _ => HTOT.out.trans HB.out, rfl, rfl, rfl⟩), HXF.out⟩
              · have HN := Lib.hid (show kindF (k1 b s).1 = false by rw [HG1.out]; exact h1)
                clear h1
                have HB := Lib.hid (HSL.out.bad HNF.out (part_noK HN.out))
                go_wp2_with fail
                go_returns
                exact ⟨_, _, _, rfl, Lib.hid (.inr ⟨by first | exact HTOT.out.trans HB.out | exact fun _ => HTOT.out.trans HB.out, rfl, rfl, rfl⟩), HXF.out⟩
              · have HN := Lib.hid (show kindF (k1 b s).1 = false by rw [HG1.out]; exact h1)
                clear h1
                have HB := Lib.hid (HSL.out.bad HNF.out (part_noK HN.out))
                go_wp2_with fail
                go_returns
                exact ⟨_, _, _, rfl, Lib.hid (.inr ⟨by first | exact HTOT.out.trans HB.out | exact fun _ => HTOT.out.trans HB.out, rfl, rfl, rfl⟩), HXF.out⟩
              · have HN := Lib.hid (show kindF (k1 b s).1 = false by rw [HG1.out]; exact h1)
                have qv : (vv.toList == y1.toList) = false := by rw [beq_eq_false_iff_ne]; exact fun h => h2 (bs_ext h)
                clear h1 h2
                have HB := Lib.hid (HSL.out.bad HNF.out (part_noK HN.out))
                go_wp2_with fail
                go_returns
                exact ⟨_, _, _, rfl, Lib.hid (.inr ⟨by first | exact HTOT.out.trans HB.out | exact fun _ => HTOT.out.trans HB.out, rfl, rfl, rfl⟩), HXF.out⟩
            · have HN := Lib.hid (show crO (k2 b s).1 = none by rw [HG2.out]; exact crO_no k1')
              clear k1'
              have HB := Lib.hid (HSL.out.bad HNF.out (part_no2 HN.out))
              go_wp2_with fail
              go_returns
              exact ⟨_, _, _, rfl, Lib.hid (.inr ⟨by first | exact HTOT.out.trans HB.out | exact fun _ => HTOT.out.trans HB.out, rfl, rfl, rfl⟩), HXF.out⟩
end Go.Proofs.YtlhnejcjeoecaaaGreatDoor
namespace Go.Proofs.YtlhnejcjeoecaaaGreatDoor
open Go.RowKit Go.Deep
theorem u8_info : (Tryz.prog.info? 5).map (fun i => (i.zero, i.size, i.bytes)) = some (some (.int .u8 0), 1, 1) := by kernel_rfl
/-- bytes of the call's own, whatever lies behind them -/
def GB (w : World) (B : Nat) (v : Value) (xs : List Int) : Prop := ∃ g cap cur fr, v = .slice (some ⟨g, 0, none⟩) xs.length cap ∧ B ≤ g ∧ w.heap[g]? = some (.cells cur 5 fr) ∧ (∀ j, fr.1 ≤ j → j < fr.2 → cur.size ≤ j) ∧ xs.length ≤ cap ∧ cur.size = cap ∧ cur.toList.take xs.length = xs.map (Value.int .u8)
theorem GB.row {w : World} {B : Nat} {v : Value} {xs : List Int} (h : GB w B v xs) : ∃ g cap, v = .slice (some ⟨g, 0, none⟩) xs.length cap ∧ B ≤ g ∧ RowB w g 5 (xs.map (Value.int .u8)) := by
  obtain ⟨g, cap, cur, fr, rfl, hB, hh, hf, hl, hc, ht⟩ := h
  exact ⟨g, cap, rfl, hB, cur, fr, cur.toList.drop xs.length, hh, hf, by rw [← ht, List.take_append_drop]⟩
theorem GB.ext {w w' : World} {B : Nat} {v : Value} {xs : List Int} (h : GB w B v xs) (hx : Ext w w') : GB w' B v xs := by
  obtain ⟨g, cap, cur, fr, rfl, hB, hh, r⟩ := h
  exact ⟨g, cap, cur, fr, rfl, hB, (Below.block hx g (Array.getElem?_eq_some_iff.1 hh).1).trans hh, r⟩
theorem GB.slice {w : World} {B : Nat} {v : Value} {xs : List Int} (h : GB w B v xs) : ∃ g cap, v = .slice (some ⟨g, 0, none⟩) xs.length cap ∧ xs.length ≤ cap := by
  obtain ⟨g, cap, cur, fr, rfl, hB, hh, hf, hl, hc, ht⟩ := h
  exact ⟨g, cap, rfl, hl⟩
theorem GB.of_own {w : World} {B n : Nat} {v : Value} {xs : List Int} (h : w.ownsRow B 5 1 v n (xs.map (Value.int .u8))) (hn : 0 < n) : GB w B v xs := by
  have hlen : xs.length = n := by have := h.1; simpa using this
  rcases h.2 with ⟨_, e⟩ | ⟨g, cap, cur, rfl, hB, hh, hl, _, hc, ht⟩
  · omega
  · refine ⟨g, cap, cur, (0, 0), by rw [hlen], hB, hh, fun j _ h2 => absurd h2 (by omega), by omega, by omega, ?_⟩
    rw [hlen]
    simpa using ht
theorem wpList_append_gb (w : World) {ops : Array Oper} {rest : List Oper} {o : Oper} {a : Act} {Q : Exit → Act → World → Prop} (hg : o.guard = none) (s x : Operand)
    (ho : o.op = .call { callee := .builtin .append, args := #[s, x], argTypes := #[22, 22] })
    (B : Nat) {v : Value} {xs : List Int} (y : Int) (h : GB w B v xs) (hs : a.eval s = v) {G : Nat} (hx : a.eval x = .slice (some ⟨G, 0, none⟩) 1 1) (hG : G = w.heap.size) (hlen : xs.length ≤ 1000000000) (hB : B ≤ w.heap.size)
    (hK : ∀ v' w', GB w' B v' (xs ++ [y]) → Below B w w' → wpList Tryz.prog ops Q rest (a.put o.dst v') w') :
    wpList Tryz.prog ops Q (o :: rest) a (w.alloc (.cells #[.int .u8 y] 5)) := by
  subst hG
  obtain ⟨i0, hi0, hz0, hz1, hz2⟩ := info_parts u8_info
  have hX : Ext w (w.alloc (.cells #[.int .u8 y] 5)) := (Ext.refl w).alloc _
  have hb1 : Below B w (w.alloc (.cells #[.int .u8 y] 5)) := (Below.refl B w).alloc hB _
  have h' := h.ext hX
  obtain ⟨g, cap, cur, fr, rfl, hBg, hh, hf, hl, hc, ht⟩ := h'
  have hcell : ∀ j u, (xs.map (Value.int .u8))[j]? = some u → (w.alloc (.cells #[.int .u8 y] 5)).cell? ⟨g, 0 + j, none⟩ = some u := by
    intro j u hu
    rw [Nat.zero_add, cell_of_row _ g j cur 5 fr hh]
    rw [← ht, List.getElem?_take] at hu
    split at hu
    · simpa using hu
    · cases hu
  refine wpList_append_arg _ hg s x 22 ho 5 i0 _ 1 1 Tryz.underlying22 hi0 hz0 hz1 hz2 rfl (by decide) g 0 xs.length cap (xs.map (Value.int .u8)) hs (by simp) hcell ⟨w.heap.size, 0, none⟩ 1 1 [.int .u8 y] hx rfl ?_ ?_ ?_ ?_ ?_ ?_ ?_
  · intro j u hu
    match j, hu with
    | 0, hu =>
      simp at hu
      subst hu
      simp [Addr.add]
  · intro u hu
    simp at hu
    subst hu
    rfl
  · intro hr j hj
    have hj0 : j = 0 := by simp at hj; exact hj
    subst hj0
    have hlt : xs.length < cur.size := by omega
    constructor
    · rw [cell_of_row _ g _ cur 5 fr hh]
      simp [hlt]
    · simp only [World.frozen?, hh, Bool.and_eq_false_iff, decide_eq_false_iff_not]
      by_cases h1 : fr.1 ≤ 0 + xs.length * 1 + 0
      · right
        intro h2
        have := hf _ h1 h2
        omega
      · exact .inl h1
  · simp only [maxLen]; omega
  · omega
  · intro hr
    have hlt : xs.length < cur.size := by omega
    refine hK _ _ ⟨g, cap, cur.setIfInBounds xs.length (.int .u8 y), fr, by simp, hBg, ?_, ?_, by simp; omega, by simpa using hc, ?_⟩ ?_
    · simp only [World.setCells, Nat.zero_add, Nat.mul_one]
      simp [World.setCell, Array.getElem?_modify, hh]
    · intro k h1 h2; simpa using hf k h1 h2
    · rw [Array.toList_setIfInBounds, List.length_append, List.map_append, ← ht]
      simp only [List.length_cons, List.length_nil, List.map_cons, List.map_nil]
      have hl2 : xs.length < cur.toList.length := by simpa using hlt
      rw [List.take_succ_eq_append_getElem (by simpa using hl2)]
      simp only [List.getElem_set_self, List.take_set]
      rw [List.set_eq_of_length_le (by rw [List.length_take]; omega)]
    · simp only [World.setCells]
      exact hb1.setCell (p := ⟨g, 0 + xs.length * 1, none⟩) hBg _
  · intro hr v' w' hown hgr
    refine hK v' w' (GB.of_own (n := xs.length + 1) ?_ (by omega)) (hb1.grown hgr (Nat.le_trans hB hX.size) (fun k hk => by cases hk))
    rw [List.map_append]
    exact own_more hown (Nat.le_trans hB hX.size)
/-- '[]byte(s)' as such a slice -/
def numsOf (s : ByteArray) : List Int := s.data.toList.map fun b => (b.toNat : Int)
theorem numsOf_length (s : ByteArray) : (numsOf s).length = s.size := by unfold numsOf; rw [List.length_map, ← Lib.size_eq]
theorem wpList_gb_of_string (w : World) {ops : Array Oper} {rest : List Oper} {o : Oper} {a : Act} {Q : Exit → Act → World → Prop}
    (hgd : o.guard = none) (x : Operand) (ho : o.op = Op.convert 9 22 x) (s : ByteArray) (hx : a.eval x = .string s)
    (hK : ∀ w' v, Ext w w' → GB w' w.heap.size v (numsOf s) → wpList Tryz.prog ops Q rest (a.put o.dst v) w') :
    wpList Tryz.prog ops Q (o :: rest) a w := by
  refine wpList_plain hgd fun K hK' => ?_
  have hrun := run_bytes_of_string (P := Tryz.prog) w 9 22 5 s Tryz.underlying9 Tryz.underlying22 Tryz.underlying5
  unfold Oper.wp
  simp only [execOp, ho, hx, Sem.run_bind, hrun, Result.andThen]
  refine hK' _ _ (hK _ _ ((Ext.refl w).drew.trans (Ext.alloc (Ext.refl _) _)) ?_)
  have hge := grownCap_ge w s.size 0 5
  refine ⟨w.heap.size, grownCap w s.size 0 5, bytesRow s (grownCap w s.size 0 5), ((bytesRow s (grownCap w s.size 0 5)).size, (bytesRow s (grownCap w s.size 0 5)).size + 1), by rw [numsOf_length], Nat.le_refl _, ?_, ?_, by rw [numsOf_length]; exact hge, ?_, ?_⟩
  · show (w.heap.push _)[w.heap.size]? = _
    simp
  · intro j h1 _; exact h1
  · unfold bytesRow
    simp
    omega
  · have hb : (bytesRow s (grownCap w s.size 0 5)).toList = (s.data.toList.map fun b => Value.int .u8 b.toNat) ++ List.replicate (grownCap w s.size 0 5 - s.size) (.int .u8 0) := by
      unfold bytesRow
      simp
    rw [numsOf_length, hb, List.take_append_of_le_length (by rw [List.length_map, ← Lib.size_eq]; exact Nat.le_refl _), List.take_of_length_le (by rw [List.length_map, ← Lib.size_eq]; exact Nat.le_refl _)]
    unfold numsOf
    rw [List.map_map]
    rfl
end Go.Proofs.YtlhnejcjeoecaaaGreatDoor
namespace Go.Proofs.YtlhnejcjeoecaaaGreatDoor
open Go.RowKit Go.Deep
def goodM (b k body : ByteArray) : Bool := bndF b && !holdF body b && kindF k
/-- what Multipart returns: the body, or the error -/
def mOut (b k body : ByteArray) (xs : List (Int × Int)) (s : ByteArray) (c : Int) : Prop :=
  (goodM b k body = true ∧ xs ≠ [] ∧ (∀ p ∈ xs, okC p.1 p.2 body.size = true) ∧ s = preS b k body body.size xs ++ finB b ∧ c = 0) ∨
  (goodM b k body = true ∧ ¬ (xs ≠ [] ∧ ∀ p ∈ xs, okC p.1 p.2 body.size = true) ∧ s = ⟨#[]⟩ ∧ c = 1) ∨
  (goodM b k body = false ∧ s = ⟨#[]⟩ ∧ c = 2)
theorem kind_size {k : ByteArray} (h : kindF k = true) : k.size ≤ 2048 := by
  unfold kindF at h
  rw [Bool.and_eq_true, decide_eq_true_iff] at h
  exact h.2.2
theorem bnd_size {b : ByteArray} (h : bndF b = true) : b.size ≤ 40 := by
  unfold bndF at h
  rw [decide_eq_true_iff] at h
  exact h.2.2
theorem cr_size {f t n : Int} (h : okC f t n = true) : (crS f t n).size ≤ 80 := by
  obtain ⟨⟨h1, h2, h3⟩, h4, h5, -⟩ := okC_parts h
  have a1 := itoS_size f (by omega) (by omega)
  have a2 := itoS_size (t - 1) (by omega) (by omega)
  have a3 := itoS_size n (by omega) (by omega)
  unfold crS
  rw [app_size, app_size, app_size, app_size, app_size]
  have e1 : (⟨#[98, 121, 116, 101, 115, 32]⟩ : ByteArray).size = 6 := rfl
  have e2 : (⟨#[45]⟩ : ByteArray).size = 1 := rfl
  have e3 : (⟨#[47]⟩ : ByteArray).size = 1 := rfl
  omega
theorem head_size {b k c : ByteArray} (hb : b.size ≤ 40) (hk : k.size ≤ 2048) (hc : c.size ≤ 80) : (headS b k c).size ≤ 2210 := by
  unfold headS hdB
  rw [app_size, app_size, app_size, app_size, app_size, app_size]
  have e1 : (⟨#[45, 45]⟩ : ByteArray).size = 2 := rfl
  have e2 : (⟨#[13, 10, 67, 111, 110, 116, 101, 110, 116, 45, 84, 121, 112, 101, 58, 32]⟩ : ByteArray).size = 16 := rfl
  have e3 : cr2.size = 17 := rfl
  have e4 : cr4.size = 4 := rfl
  omega
theorem preS_size {b k body : ByteArray} (hb : b.size ≤ 40) (hk : k.size ≤ 2048) (hs : body.size ≤ 3000) : ∀ l : List (Int × Int), (∀ p ∈ l, okC p.1 p.2 body.size = true) → (preS b k body body.size l).size ≤ 5300 * l.length
  | [], _ => Nat.le_refl _
  | p :: l, h => by
    show (partS b k (crS p.1 p.2 body.size) (cutO body p) ++ preS b k body body.size l).size ≤ _
    have h1 := preS_size hb hk hs l (fun q hq => h q (by simp [hq]))
    have h2 := head_size (b := b) (k := k) hb hk (cr_size (h p (by simp)))
    have h3 : (cutO body p).size ≤ 3000 := by unfold cutO; rw [ByteArray.size_extract]; omega
    unfold partS
    rw [app_size, app_size, app_size, List.length_cons]
    have e1 : crlB.size = 2 := rfl
    omega
theorem take_step {xs : List (Int × Int)} {k : Nat} {p : Int × Int} (h : xs[k]? = some p) : xs.take (k + 1) = xs.take k ++ [p] := by rw [List.take_add_one, h]; rfl
end Go.Proofs.YtlhnejcjeoecaaaGreatDoor
