/- Chapter 09: ReadContentRange. -/
import Derived.Test.YteamnofooicbeaaDoorGP
namespace Go.Proofs.YteamnofooicbeaaDoor
open Go.RowKit Go.Sort
theorem scpfx_any (s : ByteArray) (w : World) : Calls Tryd.prog 41 #[.string s, .string ⟨#[98, 121, 116, 101, 115, 32]⟩] w fun e w' => (∃ x, e = .returned (.tuple #[.string x, .bool (cpfx s)]) ∧ x.size ≤ s.size ∧ (cpfx s = true → x = s.extract 6 s.size)) ∧ w = w' := by
  refine (Any.strings_CutPrefix Tryd.lays103 s ⟨#[98, 121, 116, 101, 115, 32]⟩ w).mono ?_
  rintro e w' ⟨rfl, rfl⟩
  refine ⟨⟨_, rfl, ?_, fun hp => ?_⟩, rfl⟩
  · unfold Lib.trimPrefix
    rw [Lib.size_eq, Lib.size_eq]
    split <;> simp
  · have hp2 : Lib.hasPrefix s.data.toList [98, 121, 116, 101, 115, 32] = true := hp
    refine bs_ext ?_
    rw [bs_mk, Lib.extract_toList]
    unfold Lib.trimPrefix
    rw [if_pos hp2, List.take_of_length_le (by rw [List.length_drop, ← Lib.size_eq]; omega)]
    rfl
/-- the field reads as a range and a length, or as nothing -/
def CrIs (s : ByteArray) (f t n : Int) (good : Prop) : Prop := (okC f t n = true ∧ crS f t n = s ∧ good) ∨ ((∀ f t n, okC f t n = true → crS f t n ≠ s) ∧ f = 0 ∧ t = 0 ∧ n = 0 ∧ ¬ good)
/-- what the program finds in a field that is one -/
theorem cr_found {s : ByteArray} {f t n : Int} (h : okC f t n = true) (e : crS f t n = s) :
    cpfx s = true ∧ (cutF (s.extract 6 s.size) 47).2.2 = true ∧ (cutF (cutF (s.extract 6 s.size) 47).1 45).2.2 = true ∧ numF (cutF (cutF (s.extract 6 s.size) 47).1 45).1 = some f.toNat ∧ numF (cutF (cutF (s.extract 6 s.size) 47).1 45).2.1 = some (t - 1).toNat ∧ numF (cutF (s.extract 6 s.size) 47).2.1 = some n.toNat := by
  rw [← e, crS_list, crest_app, (cr_prog h).1]
  simp only
  rw [(cr_prog h).2]
  exact ⟨cpfx_app _, by trivial, by trivial, (cr_nums h).1, (cr_nums h).2.1, (cr_nums h).2.2⟩
set_option maxRecDepth 100000 in
set_option maxHeartbeats 2000000 in
theorem readcr_any (s : ByteArray) (hs : s.size ≤ 100000) (w : World) (hM : MaxL w) (hP : PowT w) :
    Calls Tryd.prog 21 #[.string s] w fun e w' => (∃ f t n ev, e = .returned (.tuple #[.agg #[.int .i64 f, .int .i64 t], .int .i64 n, ev]) ∧ Hid ((okC f t n = true ∧ crS f t n = s ∧ ev = .nilIface) ∨ ((∀ f t n, okC f t n = true → crS f t n ≠ s) ∧ f = 0 ∧ t = 0 ∧ n = 0 ∧ ev = errV 2))) ∧ Ext w w' := by
  have HCP := Lib.hid (scpfx_any s w)
  have HM := Lib.hid hM
  have HP := Lib.hid hP
  obtain ⟨wa, hwa⟩ : ∃ wa, wa = w.alloc (.cells #[.int .i64 0, .int .i64 0] 37) := ⟨_, rfl⟩
  have XA : Ext w wa := by rw [hwa]; exact (Ext.refl w).alloc _
  have HT : Hid (RowB wa w.heap.size 37 [.int .i64 0, .int .i64 0]) := Lib.hid (by rw [hwa]; exact row_laid _ _ _)
  have HCPA := Lib.hid (scpfx_any s wa)
  obtain ⟨pf, hpf⟩ : ∃ b, cpfx s = b := ⟨_, rfl⟩
  have HPF := Lib.hid hpf
  rw [hpf] at HCPA
  clear hpf HCP hM hP
  go_enter Tryd.func21, Tryd.ntmps21
  go_upto_region 1 with fail
  rw [← hwa]
  clear hwa
  obtain ⟨g, hg⟩ : ∃ g, w.heap.size = g := ⟨_, rfl⟩
  have HG := Lib.hid hg
  rw [hg] at HT ⊢
  clear hg
  go_upto_region 2 with (go_at_call 41; refine HCPA.out.mono ?_; rintro e w1 ⟨⟨x, rfl, hxs, hxx⟩, rfl⟩)
  have HXX := Lib.hid hxx
  obtain ⟨z1, z2⟩ := cutF_size x 47
  have HC1 := Lib.hid (fun W (hW : Ext w W) => scut_any x 47 (by omega) W (HM.out.ext hW))
  obtain ⟨⟨a, b, o1⟩, hcu⟩ : ∃ p, cutF x 47 = p := ⟨_, rfl⟩
  have HCU := Lib.hid hcu
  rw [hcu] at HC1 z1 z2
  simp only at HC1 z1 z2
  have HX1 := Lib.hid XA
  clear hcu hxx XA
  go_upto_region 3 with (go_at_call 50; refine (HC1.out _ HX1.out).mono ?_; rintro e w2 ⟨rfl, hx2⟩)
  have HX2 := Lib.hid (HX1.out.trans hx2)
  have HT2 := Lib.hid (HT.out.ext hx2)
  clear HC1 hx2 HT
  obtain ⟨z3, z4⟩ := cutF_size a 45
  have HC2 := Lib.hid (fun W (hW : Ext w W) => scut_any a 45 (by omega) W (HM.out.ext hW))
  obtain ⟨⟨c, d, o2⟩, hcv⟩ : ∃ p, cutF a 45 = p := ⟨_, rfl⟩
  have HCV := Lib.hid hcv
  rw [hcv] at HC2 z3 z4
  simp only at HC2 z3 z4
  have HN1 := Lib.hid (fun W => numr_any c (by omega) W)
  have HN2 := Lib.hid (fun W => numr_any d (by omega) W)
  have HN3 := Lib.hid (fun W => numr_any b (by omega) W)
  have HF : Hid (∀ f t n, okC f t n = true → crS f t n = s → pf = true ∧ (pf = true → o1 = true ∧ o2 = true ∧ numF c = some f.toNat ∧ numF d = some (t - 1).toNat ∧ numF b = some n.toNat)) := Lib.hid (fun f t n hk he => by
    obtain ⟨k1, k2, k3, k4, k5, k6⟩ := cr_found hk he
    refine ⟨by rw [← HPF.out]; exact k1, fun hp => ?_⟩
    rw [← HXX.out hp, HCU.out] at k2 k3 k4 k5 k6
    simp only at k2 k3 k4 k5 k6
    rw [HCV.out] at k3 k4 k5
    exact ⟨k2, k3, k4, k5, k6⟩)
  obtain ⟨vc, hvc⟩ : ∃ v, numV c = v := ⟨_, rfl⟩
  obtain ⟨bc, hbc⟩ : ∃ v, (numF c).isSome = v := ⟨_, rfl⟩
  obtain ⟨vd, hvd⟩ : ∃ v, numV d = v := ⟨_, rfl⟩
  obtain ⟨bd, hbd⟩ : ∃ v, (numF d).isSome = v := ⟨_, rfl⟩
  obtain ⟨vb, hvb⟩ : ∃ v, numV b = v := ⟨_, rfl⟩
  obtain ⟨bb, hbb⟩ : ∃ v, (numF b).isSome = v := ⟨_, rfl⟩
  rw [hvc, hbc] at HN1
  rw [hvd, hbd] at HN2
  rw [hvb, hbb] at HN3
  have HV1 := Lib.hid (And.intro hvc hbc)
  have HV2 := Lib.hid (And.intro hvd hbd)
  have HV3 := Lib.hid (And.intro hvb hbb)
  clear hcv z1 z2 z3 z4 hxs hvc hbc hvd hbd hvb hbb
  go_upto_region 4 with (go_at_call 50; refine (HC2.out _ HX2.out).mono ?_; rintro e w3 ⟨rfl, hx3⟩)
  clear HC2
  go_upto_region 5 with (go_at_call 51; refine (HN1.out _).mono ?_; rintro e w4 ⟨rfl, hx4⟩)
  go_upto_region 6 with (go_at_call 51; refine (HN2.out _).mono ?_; rintro e w5 ⟨rfl, hx5⟩)
  go_upto_region 7 with (go_at_call 51; refine (HN3.out _).mono ?_; rintro e w6 ⟨rfl, hx6⟩)
  have HX7 := Lib.hid ((HX2.out.trans hx3).trans ((hx4.trans hx5).trans hx6))
  have HT7 := Lib.hid (HT2.out.ext (hx3.trans ((hx4.trans hx5).trans hx6)))
  clear hx3 hx4 hx5 hx6 HN1 HN2 HN3 HT2 HX2 HX1
  cases pf with
  | false =>
    have HBAD : Hid (∀ f t n, okC f t n = true → crS f t n ≠ s) := Lib.hid (fun f t n hk he => by
      exact absurd (HF.out f t n hk he).1 (by decide))
    obtain ⟨t0, t1, f0, f1⟩ := rng_cells HT7.out
    go_wp2_with fail
    have hr := (HT7.out.set 0 (.int .i64 0) (by simp)).set 1 (.int .i64 0) (by simp)
    obtain ⟨r0, r1, -, -⟩ := rng_cells hr
    exact bodyPost_ret (v := .tuple #[.agg #[.int .i64 0, .int .i64 0], .int .i64 0, errV 2]) (by simp [results, Tryd.results21, go_sem, r0, r1]) rfl ⟨⟨0, 0, 0, errV 2, rfl, Lib.hid (.inr ⟨HBAD.out, rfl, rfl, rfl, rfl⟩)⟩, ext_set2 HX7.out (by have := HG.out; omega) _ _⟩
  | true =>
  cases o1 with
  | false =>
    have HBAD : Hid (∀ f t n, okC f t n = true → crS f t n ≠ s) := Lib.hid (fun f t n hk he => by
      exact absurd ((HF.out f t n hk he).2 rfl).1 (by decide))
    obtain ⟨t0, t1, f0, f1⟩ := rng_cells HT7.out
    go_wp2_with fail
    have hr := (HT7.out.set 0 (.int .i64 0) (by simp)).set 1 (.int .i64 0) (by simp)
    obtain ⟨r0, r1, -, -⟩ := rng_cells hr
    exact bodyPost_ret (v := .tuple #[.agg #[.int .i64 0, .int .i64 0], .int .i64 0, errV 2]) (by simp [results, Tryd.results21, go_sem, r0, r1]) rfl ⟨⟨0, 0, 0, errV 2, rfl, Lib.hid (.inr ⟨HBAD.out, rfl, rfl, rfl, rfl⟩)⟩, ext_set2 HX7.out (by have := HG.out; omega) _ _⟩
  | true =>
  cases o2 with
  | false =>
    have HBAD : Hid (∀ f t n, okC f t n = true → crS f t n ≠ s) := Lib.hid (fun f t n hk he => by
      exact absurd ((HF.out f t n hk he).2 rfl).2.1 (by decide))
    obtain ⟨t0, t1, f0, f1⟩ := rng_cells HT7.out
    go_wp2_with fail
    have hr := (HT7.out.set 0 (.int .i64 0) (by simp)).set 1 (.int .i64 0) (by simp)
    obtain ⟨r0, r1, -, -⟩ := rng_cells hr
    exact bodyPost_ret (v := .tuple #[.agg #[.int .i64 0, .int .i64 0], .int .i64 0, errV 2]) (by simp [results, Tryd.results21, go_sem, r0, r1]) rfl ⟨⟨0, 0, 0, errV 2, rfl, Lib.hid (.inr ⟨HBAD.out, rfl, rfl, rfl, rfl⟩)⟩, ext_set2 HX7.out (by have := HG.out; omega) _ _⟩
  | true =>
  cases bc with
  | false =>
    have HBAD : Hid (∀ f t n, okC f t n = true → crS f t n ≠ s) := Lib.hid (fun f t n hk he => by
      have h1 := ((HF.out f t n hk he).2 rfl).2.2.1; have h2 := HV1.out.2; rw [h1] at h2; cases h2)
    obtain ⟨t0, t1, f0, f1⟩ := rng_cells HT7.out
    go_wp2_with fail
    have hr := (HT7.out.set 0 (.int .i64 0) (by simp)).set 1 (.int .i64 0) (by simp)
    obtain ⟨r0, r1, -, -⟩ := rng_cells hr
    exact bodyPost_ret (v := .tuple #[.agg #[.int .i64 0, .int .i64 0], .int .i64 0, errV 2]) (by simp [results, Tryd.results21, go_sem, r0, r1]) rfl ⟨⟨0, 0, 0, errV 2, rfl, Lib.hid (.inr ⟨HBAD.out, rfl, rfl, rfl, rfl⟩)⟩, ext_set2 HX7.out (by have := HG.out; omega) _ _⟩
  | true =>
  cases bd with
  | false =>
    have HBAD : Hid (∀ f t n, okC f t n = true → crS f t n ≠ s) := Lib.hid (fun f t n hk he => by
      have h1 := ((HF.out f t n hk he).2 rfl).2.2.2.1; have h2 := HV2.out.2; rw [h1] at h2; cases h2)
    obtain ⟨t0, t1, f0, f1⟩ := rng_cells HT7.out
    go_wp2_with fail
    have hr := (HT7.out.set 0 (.int .i64 0) (by simp)).set 1 (.int .i64 0) (by simp)
    obtain ⟨r0, r1, -, -⟩ := rng_cells hr
    exact bodyPost_ret (v := .tuple #[.agg #[.int .i64 0, .int .i64 0], .int .i64 0, errV 2]) (by simp [results, Tryd.results21, go_sem, r0, r1]) rfl ⟨⟨0, 0, 0, errV 2, rfl, Lib.hid (.inr ⟨HBAD.out, rfl, rfl, rfl, rfl⟩)⟩, ext_set2 HX7.out (by have := HG.out; omega) _ _⟩
  | true =>
  cases bb with
  | false =>
    have HBAD : Hid (∀ f t n, okC f t n = true → crS f t n ≠ s) := Lib.hid (fun f t n hk he => by
      have h1 := ((HF.out f t n hk he).2 rfl).2.2.2.2; have h2 := HV3.out.2; rw [h1] at h2; cases h2)
    obtain ⟨t0, t1, f0, f1⟩ := rng_cells HT7.out
    go_wp2_with fail
    have hr := (HT7.out.set 0 (.int .i64 0) (by simp)).set 1 (.int .i64 0) (by simp)
    obtain ⟨r0, r1, -, -⟩ := rng_cells hr
    exact bodyPost_ret (v := .tuple #[.agg #[.int .i64 0, .int .i64 0], .int .i64 0, errV 2]) (by simp [results, Tryd.results21, go_sem, r0, r1]) rfl ⟨⟨0, 0, 0, errV 2, rfl, Lib.hid (.inr ⟨HBAD.out, rfl, rfl, rfl, rfl⟩)⟩, ext_set2 HX7.out (by have := HG.out; omega) _ _⟩
  | true =>
    have HEQ : Hid (∀ f t n, okC f t n = true → crS f t n = s → f = vc ∧ t = vd + 1 ∧ n = vb) := Lib.hid (fun f t n hk he => by
      obtain ⟨⟨k1, k2, k3⟩, k4, k5, -⟩ := okC_parts hk
      obtain ⟨-, -, m1, m2, m3⟩ := (HF.out f t n hk he).2 rfl
      have e1 := HV1.out.1
      have e2 := HV2.out.1
      have e3 := HV3.out.1
      unfold numV at e1 e2 e3
      rw [m1] at e1
      rw [m2] at e2
      rw [m3] at e3
      simp only [Option.getD_some] at e1 e2 e3
      omega)
    have hvb : 0 ≤ vd ∧ vd < 1000000000000000 := by
      rw [← HV2.out.1]
      unfold numV
      cases hn : numF d with
      | none => simp
      | some n => have := numF_lt hn; simp only [Option.getD_some]; omega
    have hw : wrap64 (vd + 1) = vd + 1 := by unfold wrap64; omega
    clear hvb
    go_upto_region 10 with fail
    obtain ⟨wb, hwb⟩ : ∃ wb, wb = w6.alloc (.cells #[.int .i64 vc, .int .i64 (vd + 1)] 37) := ⟨_, rfl⟩
    have XB : Ext w6 wb := by rw [hwb]; exact (Ext.refl w6).alloc _
    have HTB : Hid (RowB wb w6.heap.size 37 [.int .i64 vc, .int .i64 (vd + 1)]) := Lib.hid (by rw [hwb]; exact row_laid _ _ _)
    rw [← hwb]
    clear hwb
    have HX8 := Lib.hid (HX7.out.trans XB)
    have HT8 := Lib.hid (HT7.out.ext XB)
    clear XB
    obtain ⟨q, hq⟩ : ∃ q, w6.heap.size = q := ⟨_, rfl⟩
    rw [hq] at HTB ⊢
    clear hq
    have b0 := HTB.out.cell (j := 0) rfl
    have b1 := HTB.out.cell (j := 1) rfl
    cases hk : okC vc (vd + 1) vb with
    | false =>
      have HBAD : Hid (∀ f t n, okC f t n = true → crS f t n ≠ s) := Lib.hid (fun f t n hk2 he => by
        obtain ⟨r1, r2, r3⟩ := HEQ.out f t n hk2 he
        rw [r1, r2, r3, hk] at hk2
        cases hk2)
      have HCT := Lib.hid (fun W => content_no hk W)
      clear hk
      go_upto_region 11 with (go_at_call 19; refine (HCT.out _).mono ?_; rintro e w7 ⟨rfl, hx7⟩)
      have HX9 := Lib.hid (HX8.out.trans hx7)
      have HT9 := Lib.hid (HT8.out.ext hx7)
      clear hx7 b0 b1
      obtain ⟨t0, t1, f0, f1⟩ := rng_cells HT9.out
      go_wp2_with fail
      have hr := (HT9.out.set 0 (.int .i64 0) (by simp)).set 1 (.int .i64 0) (by simp)
      obtain ⟨r0, r1, -, -⟩ := rng_cells hr
      exact bodyPost_ret (v := .tuple #[.agg #[.int .i64 0, .int .i64 0], .int .i64 0, errV 2]) (by simp [results, Tryd.results21, go_sem, r0, r1]) rfl ⟨⟨0, 0, 0, errV 2, rfl, Lib.hid (.inr ⟨HBAD.out, rfl, rfl, rfl, rfl⟩)⟩, ext_set2 HX9.out (by have := HG.out; omega) _ _⟩
    | true =>
      have HOK := Lib.hid hk
      have HCT := Lib.hid (fun W (h : PowT W) => content_ok hk W h)
      obtain ⟨y, hy⟩ : ∃ y, crS vc (vd + 1) vb = y := ⟨_, rfl⟩
      have HY := Lib.hid hy
      rw [hy] at HCT
      clear hk hy
      go_upto_region 11 with (go_at_call 19; refine (HCT.out _ (HP.out.ext HX8.out)).mono ?_; rintro e w7 ⟨rfl, hx7⟩)
      have HX9 := Lib.hid (HX8.out.trans hx7)
      have HT9 := Lib.hid (HT8.out.ext hx7)
      have HTC := Lib.hid (HTB.out.ext hx7)
      clear hx7 b0 b1
      by_cases hys : y = s
      · have hcmp : (y.toList == s.toList) = true := by rw [hys]; exact beq_self_eq_true _
        have HYS := Lib.hid hys
        clear hys
        obtain ⟨t0, t1, f0, f1⟩ := rng_cells HT9.out
        obtain ⟨b0, b1, b2, b3⟩ := rng_cells HTC.out
        go_wp2_with fail
        have hr := (HT9.out.set 0 (.int .i64 vc) (by simp)).set 1 (.int .i64 (vd + 1)) (by simp)
        obtain ⟨r0, r1, -, -⟩ := rng_cells hr
        exact bodyPost_ret (v := .tuple #[.agg #[.int .i64 vc, .int .i64 (vd + 1)], .int .i64 vb, .nilIface]) (by simp [results, Tryd.results21, go_sem, r0, r1]) rfl ⟨⟨vc, vd + 1, vb, .nilIface, rfl, Lib.hid (.inl ⟨HOK.out, HY.out.trans HYS.out, rfl⟩)⟩, ext_set2 HX9.out (by have := HG.out; omega) _ _⟩
      · have hcmp : (y.toList == s.toList) = false := by rw [beq_eq_false_iff_ne]; exact fun h => hys (bs_ext (by simpa [Lib.extract_toList] using h))
        have HBAD : Hid (∀ f t n, okC f t n = true → crS f t n ≠ s) := Lib.hid (fun f t n hk2 he => by
          obtain ⟨r1, r2, r3⟩ := HEQ.out f t n hk2 he
          rw [r1, r2, r3, HY.out] at he
          exact hys he)
        clear hys
        obtain ⟨t0, t1, f0, f1⟩ := rng_cells HT9.out
        go_wp2_with fail
        have hr := (HT9.out.set 0 (.int .i64 0) (by simp)).set 1 (.int .i64 0) (by simp)
        obtain ⟨r0, r1, -, -⟩ := rng_cells hr
        exact bodyPost_ret (v := .tuple #[.agg #[.int .i64 0, .int .i64 0], .int .i64 0, errV 2]) (by simp [results, Tryd.results21, go_sem, r0, r1]) rfl ⟨⟨0, 0, 0, errV 2, rfl, Lib.hid (.inr ⟨HBAD.out, rfl, rfl, rfl, rfl⟩)⟩, ext_set2 HX9.out (by have := HG.out; omega) _ _⟩
end Go.Proofs.YteamnofooicbeaaDoor
