/- Chapter 09: the law RangesContent. -/
import Derived.Test.YteamnofooicbeaaDoorRgX
import Derived.Test.YteamnofooicbeaaDoorRgO
namespace Go.Proofs.YteamnofooicbeaaDoor
open Go.RowKit Go.Sort
theorem cr_inj {f t n f' t' n' : Int} (h : okC f t n = true) (h' : okC f' t' n' = true) (e : crS f' t' n' = crS f t n) : f' = f ∧ t' = t ∧ n' = n := by
  obtain ⟨-, -, -, a1, a2, a3⟩ := cr_foundr h rfl
  obtain ⟨-, -, -, b1, b2, b3⟩ := cr_foundr h' e
  rw [a1] at b1
  rw [a2] at b2
  rw [a3] at b3
  obtain ⟨⟨p1, p2, -⟩, p3, -, -⟩ := okC_parts h
  obtain ⟨⟨q1, q2, -⟩, q3, -, -⟩ := okC_parts h'
  simp only [Option.some.injEq] at b1 b2 b3
  omega
theorem crS_size {f t n : Int} (h : okC f t n = true) : (crS f t n).size ≤ 100000 := by
  obtain ⟨n1, n2, n3⟩ := cr_nums h
  have key : ∀ (l : List UInt8) (m : Nat), numF (bs l) = some m → l.length ≤ 15 := by
    intro l m h
    unfold numF at h
    split at h
    · rename_i hh
      have := hh.2.2
      rw [Lib.size_eq] at this
      exact this
    · cases h
  have k1 := key _ _ n1
  have k2 := key _ _ n2
  have k3 := key _ _ n3
  rw [crS_list, Lib.size_eq]
  show (cpL ++ _).length ≤ 100000
  simp only [List.length_append, List.length_cons]
  have : cpL.length = 6 := rfl
  omega
set_option maxRecDepth 100000 in
set_option maxHeartbeats 2000000 in
theorem content_law (f t len : Int) (s : ByteArray) (w : World) (hM : MaxL w) (hP : PowT w) :
    Calls Tryd.prog 5 #[.agg #[.int .i64 f, .int .i64 t], .int .i64 len, .string s] w fun e w' => e = .returned (.bool true) ∧ Ext w w' := by
  have HAW := Lib.hid (fun W (hW : Ext w W) => awake_any W (hM.ext hW))
  obtain ⟨wa, hwa⟩ : ∃ wa, wa = w.alloc (.cells #[.int .i64 f, .int .i64 t] 43) := ⟨_, rfl⟩
  have XA : Ext w wa := by rw [hwa]; exact (Ext.refl w).alloc _
  have HT : Hid (RowB wa w.heap.size 43 [.int .i64 f, .int .i64 t]) := Lib.hid (by rw [hwa]; exact row_laid _ _ _)
  have HX := Lib.hid XA
  clear XA
  by_cases hs : s.size ≤ 200
  · have hs' : ¬ (200 : Int) < (s.size : Int) := by omega
    have HRA := Lib.hid (fun W (hW : Ext w W) => readcr_any s (by omega) W (hM.ext hW) (hP.ext hW))
    have HRB := Lib.hid (fun W => rreadcr_any s (by omega) W)
    have HCO := Lib.hid (fun (h : okC f t len = true) W (hW : Ext w W) => content_ok h W (hP.ext hW))
    have HCR := Lib.hid (fun (h : okC f t len = true) W (hW : Ext w W) => readcr_any (crS f t len) (crS_size h) W (hM.ext hW) (hP.ext hW))
    clear hM hP hs
    go_enter Tryd.func5, Tryd.ntmps5
    go_upto_region 1 with fail
    rw [← hwa]
    clear hwa
    obtain ⟨g, hg⟩ : ∃ g, w.heap.size = g := ⟨_, rfl⟩
    have HG := Lib.hid hg
    rw [hg] at HT ⊢
    clear hg
    go_upto_region 3 with (go_at_call 12; refine (HAW.out _ HX.out).mono ?_; rintro e w1 ⟨rfl, hx1⟩)
    have HX1 := Lib.hid (HX.out.trans hx1)
    have HT1 := Lib.hid (HT.out.ext hx1)
    clear hx1
    have a0 := HT1.out.cell (j := 0) rfl
    have a1 := HT1.out.cell (j := 1) rfl
    cases hk : okC f t len with
    | true =>
      have HK := Lib.hid hk
      obtain ⟨y, hy⟩ : ∃ y, crS f t len = y := ⟨_, rfl⟩
      have HY := Lib.hid hy
      have HC1 := Lib.hid (HCO.out hk)
      have HC2 := Lib.hid (fun W => rcontent_ok hk W)
      have HC3 := Lib.hid (HCR.out hk)
      rw [hy] at HC1 HC2 HC3
      clear hk hy HCO HCR
      go_wp2_with fail
      refine (HC1.out _ HX1.out).mono ?_
      rintro e w2 ⟨rfl, hx2⟩
      have HX2 := Lib.hid (HX1.out.trans hx2)
      have HT2 := Lib.hid (HT1.out.ext hx2)
      clear hx2 a0 a1
      have a0 := HT2.out.cell (j := 0) rfl
      have a1 := HT2.out.cell (j := 1) rfl
      go_upto_region 4 with fail
      go_wp2_with fail
      refine (HC2.out _).mono ?_
      rintro e w3 ⟨rfl, hx3⟩
      have HX3 := Lib.hid (HX2.out.trans hx3)
      have HT3 := Lib.hid (HT2.out.ext hx3)
      clear hx3 a0 a1
      go_upto_region 6 with fail
      go_wp2_with fail
      refine (HC3.out _ HX3.out).mono ?_
      rintro e w4 ⟨⟨f0, t0, n0, ev0, rfl, HK0⟩, hx4⟩
      obtain ⟨k1, k2, rfl⟩ : okC f0 t0 n0 = true ∧ crS f0 t0 n0 = y ∧ ev0 = .nilIface := by
        rcases HK0.out with h | ⟨h, -⟩
        · exact h
        · exact absurd HY.out (h _ _ _ HK.out)
      obtain ⟨rfl, rfl, rfl⟩ := cr_inj HK.out k1 (k2.trans HY.out.symm)
      clear k1 k2
      have HX4 := Lib.hid (HX3.out.trans hx4)
      have HT4 := Lib.hid (HT3.out.ext hx4)
      clear hx4
      go_upto_region 7 with fail
      obtain ⟨we, hwe⟩ : ∃ wb, wb = w4.alloc (.cells #[.int .i64 f0, .int .i64 t0] 37) := ⟨_, rfl⟩
      have XE : Ext w4 we := by rw [hwe]; exact (Ext.refl w4).alloc _
      have HTE : Hid (RowB we w4.heap.size 37 [.int .i64 f0, .int .i64 t0]) := Lib.hid (by rw [hwe]; exact row_laid _ _ _)
      rw [← hwe]
      clear hwe
      have HX5 := Lib.hid (HX4.out.trans XE)
      have HT5 := Lib.hid (HT4.out.ext XE)
      clear XE
      obtain ⟨qe, hqe⟩ : ∃ q, w4.heap.size = q := ⟨_, rfl⟩
      rw [hqe] at HTE ⊢
      clear hqe
      have a0 := HT5.out.cell (j := 0) rfl
      have a1 := HT5.out.cell (j := 1) rfl
      have e0 := HTE.out.cell (j := 0) rfl
      have e1 := HTE.out.cell (j := 1) rfl
      have hyy : (y.toList == y.toList) = true := beq_self_eq_true _
      have hyn : (y.toList != y.toList) = false := by simp
      go_upto_region 11 with fail
      go_wp2_with fail
      refine (HRA.out _ HX5.out).mono ?_
      rintro e w7 ⟨⟨f1, t1, n1, ev1, rfl, HK1⟩, hx7⟩
      have HX7 := Lib.hid (HX5.out.trans hx7)
      have HT7 := Lib.hid (HT5.out.ext hx7)
      clear hx7
      go_upto_region 12 with fail
      obtain ⟨wb, hwb⟩ : ∃ wb, wb = w7.alloc (.cells #[.int .i64 f1, .int .i64 t1] 37) := ⟨_, rfl⟩
      have XB : Ext w7 wb := by rw [hwb]; exact (Ext.refl w7).alloc _
      have HTB : Hid (RowB wb w7.heap.size 37 [.int .i64 f1, .int .i64 t1]) := Lib.hid (by rw [hwb]; exact row_laid _ _ _)
      rw [← hwb]
      clear hwb
      have HX8 := Lib.hid (HX7.out.trans XB)
      clear XB
      obtain ⟨qb, hqb⟩ : ∃ q, w7.heap.size = q := ⟨_, rfl⟩
      rw [hqb] at HTB ⊢
      clear hqb
      go_wp2_with fail
      refine (HRB.out _).mono ?_
      rintro e w9 ⟨⟨f2, t2, n2, ev2, rfl, HK2⟩, hx9⟩
      have HX9 := Lib.hid (HX8.out.trans hx9)
      have HT9 := Lib.hid (HTB.out.ext hx9)
      clear hx9
      go_upto_region 13 with fail
      obtain ⟨wc, hwc⟩ : ∃ wc, wc = w9.alloc (.cells #[.int .i64 f2, .int .i64 t2] 43) := ⟨_, rfl⟩
      have XC : Ext w9 wc := by rw [hwc]; exact (Ext.refl w9).alloc _
      have HTC : Hid (RowB wc w9.heap.size 43 [.int .i64 f2, .int .i64 t2]) := Lib.hid (by rw [hwc]; exact row_laid _ _ _)
      rw [← hwc]
      clear hwc
      have HXA := Lib.hid (HX9.out.trans XC)
      have HTD := Lib.hid (HT9.out.ext XC)
      clear XC
      obtain ⟨qc, hqc⟩ : ∃ q, w9.heap.size = q := ⟨_, rfl⟩
      rw [hqc] at HTC ⊢
      clear hqc
      have b0 := HTD.out.cell (j := 0) rfl
      have b1 := HTD.out.cell (j := 1) rfl
      have c0 := HTC.out.cell (j := 0) rfl
      have c1 := HTC.out.cell (j := 1) rfl
      rcases HK1.out with ⟨k1, k2, rfl⟩ | ⟨k1, rfl, rfl, rfl, rfl⟩
      · rcases HK2.out with ⟨l1, l2, rfl⟩ | ⟨l1, -⟩
        · obtain ⟨rfl, rfl, rfl⟩ := cr_inj k1 l1 (l2.trans k2.symm)
          clear k1 k2 l1 l2
          go_wp2_with fail
          go_ret
          exact ⟨rfl, HXA.out⟩
        · exact absurd k2 (l1 _ _ _ k1)
      · rcases HK2.out with ⟨l1, l2, -⟩ | ⟨l1, rfl, rfl, rfl, rfl⟩
        · exact absurd l2 (k1 _ _ _ l1)
        · clear k1 l1
          go_wp2_with (go_at_call 18; refine (is_err 2 _ (by decide)).mono ?_; rintro e w5 ⟨rfl, rfl⟩)
          go_ret
          exact ⟨rfl, HXA.out⟩
    | false =>
      have HC1 := Lib.hid (fun W => content_no hk W)
      have HC2 := Lib.hid (fun W => rcontent_no hk W)
      clear hk HCO HCR
      go_wp2_with fail
      refine (HC1.out _).mono ?_
      rintro e w2 ⟨rfl, hx2⟩
      have HX2 := Lib.hid (HX1.out.trans hx2)
      have HT2 := Lib.hid (HT1.out.ext hx2)
      clear hx2 a0 a1
      have a0 := HT2.out.cell (j := 0) rfl
      have a1 := HT2.out.cell (j := 1) rfl
      go_upto_region 4 with fail
      go_wp2_with fail
      refine (HC2.out _).mono ?_
      rintro e w3 ⟨rfl, hx3⟩
      have HX3 := Lib.hid (HX2.out.trans hx3)
      have HT3 := Lib.hid (HT2.out.ext hx3)
      clear hx3 a0 a1
      go_upto_region 9 with fail
      go_upto_region 11 with (go_at_call 18; refine (is_err 2 _ (by decide)).mono ?_; rintro e w5 ⟨rfl, rfl⟩)
      go_upto_region 11 with fail
      go_wp2_with fail
      refine (HRA.out _ HX3.out).mono ?_
      rintro e w7 ⟨⟨f1, t1, n1, ev1, rfl, HK1⟩, hx7⟩
      have HX7 := Lib.hid (HX3.out.trans hx7)
      have HT7 := Lib.hid (HT3.out.ext hx7)
      clear hx7
      go_upto_region 12 with fail
      obtain ⟨wb, hwb⟩ : ∃ wb, wb = w7.alloc (.cells #[.int .i64 f1, .int .i64 t1] 37) := ⟨_, rfl⟩
      have XB : Ext w7 wb := by rw [hwb]; exact (Ext.refl w7).alloc _
      have HTB : Hid (RowB wb w7.heap.size 37 [.int .i64 f1, .int .i64 t1]) := Lib.hid (by rw [hwb]; exact row_laid _ _ _)
      rw [← hwb]
      clear hwb
      have HX8 := Lib.hid (HX7.out.trans XB)
      clear XB
      obtain ⟨qb, hqb⟩ : ∃ q, w7.heap.size = q := ⟨_, rfl⟩
      rw [hqb] at HTB ⊢
      clear hqb
      go_wp2_with fail
      refine (HRB.out _).mono ?_
      rintro e w9 ⟨⟨f2, t2, n2, ev2, rfl, HK2⟩, hx9⟩
      have HX9 := Lib.hid (HX8.out.trans hx9)
      have HT9 := Lib.hid (HTB.out.ext hx9)
      clear hx9
      go_upto_region 13 with fail
      obtain ⟨wc, hwc⟩ : ∃ wc, wc = w9.alloc (.cells #[.int .i64 f2, .int .i64 t2] 43) := ⟨_, rfl⟩
      have XC : Ext w9 wc := by rw [hwc]; exact (Ext.refl w9).alloc _
      have HTC : Hid (RowB wc w9.heap.size 43 [.int .i64 f2, .int .i64 t2]) := Lib.hid (by rw [hwc]; exact row_laid _ _ _)
      rw [← hwc]
      clear hwc
      have HXA := Lib.hid (HX9.out.trans XC)
      have HTD := Lib.hid (HT9.out.ext XC)
      clear XC
      obtain ⟨qc, hqc⟩ : ∃ q, w9.heap.size = q := ⟨_, rfl⟩
      rw [hqc] at HTC ⊢
      clear hqc
      have b0 := HTD.out.cell (j := 0) rfl
      have b1 := HTD.out.cell (j := 1) rfl
      have c0 := HTC.out.cell (j := 0) rfl
      have c1 := HTC.out.cell (j := 1) rfl
      rcases HK1.out with ⟨k1, k2, rfl⟩ | ⟨k1, rfl, rfl, rfl, rfl⟩
      · rcases HK2.out with ⟨l1, l2, rfl⟩ | ⟨l1, -⟩
        · obtain ⟨rfl, rfl, rfl⟩ := cr_inj k1 l1 (l2.trans k2.symm)
          clear k1 k2 l1 l2
          go_wp2_with fail
          go_ret
          exact ⟨rfl, HXA.out⟩
        · exact absurd k2 (l1 _ _ _ k1)
      · rcases HK2.out with ⟨l1, l2, -⟩ | ⟨l1, rfl, rfl, rfl, rfl⟩
        · exact absurd l2 (k1 _ _ _ l1)
        · clear k1 l1
          go_wp2_with (go_at_call 18; refine (is_err 2 _ (by decide)).mono ?_; rintro e w5 ⟨rfl, rfl⟩)
          go_ret
          exact ⟨rfl, HXA.out⟩
  · have hs' : (200 : Int) < (s.size : Int) := by omega
    clear hM hP
    go_enter Tryd.func5, Tryd.ntmps5
    go_upto_region 1 with fail
    rw [← hwa]
    clear hwa
    go_upto_region 2 with (go_at_call 12; refine (HAW.out _ HX.out).mono ?_; rintro e w1 ⟨rfl, hx1⟩)
    have HX1 := Lib.hid (HX.out.trans hx1)
    clear hx1
    go_wp2_with (go_at_call 12; refine (HAW.out _ HX1.out).mono ?_; rintro e w2 ⟨rfl, hx2⟩)
    go_ret
    exact ⟨rfl, HX1.out.trans hx2⟩
end Go.Proofs.YteamnofooicbeaaDoor
