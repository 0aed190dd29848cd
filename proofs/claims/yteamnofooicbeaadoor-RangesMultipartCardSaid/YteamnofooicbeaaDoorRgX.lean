/- Chapter 09: the reference's ReadContentRange. -/
import Derived.Test.YteamnofooicbeaaDoorRgW
namespace Go.Proofs.YteamnofooicbeaaDoor
open Go.RowKit Go.Sort
theorem cpfx_short {s : ByteArray} (h : s.size < 6) : cpfx s = false := by
  cases hp : cpfx s with
  | false => rfl
  | true =>
    have h1 : cpL.isPrefixOf s.data.toList = true := hp
    have h2 := (List.isPrefixOf_iff_prefix.1 h1).length_le
    rw [Lib.size_eq] at h
    have : cpL.length = 6 := rfl
    omega
theorem cpfx_cut (s : ByteArray) : ((s.extract 0 6).toList == cpL) = cpfx s := by
  rw [Lib.extract_toList, List.drop_zero, Bool.eq_iff_iff, beq_iff_eq]
  show s.data.toList.take 6 = cpL ↔ cpL.isPrefixOf s.data.toList = true
  rw [List.isPrefixOf_iff_prefix]
  constructor
  · intro e
    rw [← e]
    exact List.take_prefix _ _
  · intro hp
    exact (List.prefix_iff_eq_take.1 hp).symm
/-- what the reference finds in a field that is one -/
theorem cr_foundr {s : ByteArray} {f t n : Int} (h : okC f t n = true) (e : crS f t n = s) :
    cpfx s = true ∧ (cutF (s.extract 6 s.size) 45).2.2 = true ∧ (cutF (cutF (s.extract 6 s.size) 45).2.1 47).2.2 = true ∧ numF (cutF (s.extract 6 s.size) 45).1 = some f.toNat ∧ numF (cutF (cutF (s.extract 6 s.size) 45).2.1 47).1 = some (t - 1).toNat ∧ numF (cutF (cutF (s.extract 6 s.size) 45).2.1 47).2.1 = some n.toNat := by
  rw [← e, crS_list, crest_app, (cr_ref h).1]
  simp only
  rw [(cr_ref h).2]
  exact ⟨cpfx_app _, by trivial, by trivial, (cr_nums h).1, (cr_nums h).2.1, (cr_nums h).2.2⟩
set_option maxRecDepth 100000 in
set_option maxHeartbeats 2000000 in
theorem rreadcr_any (s : ByteArray) (hs : s.size ≤ 100000) (w : World) :
    Calls Tryd.prog 22 #[.string s] w fun e w' => (∃ f t n ev, e = .returned (.tuple #[.agg #[.int .i64 f, .int .i64 t], .int .i64 n, ev]) ∧ Hid ((okC f t n = true ∧ crS f t n = s ∧ ev = .bool true) ∨ ((∀ f t n, okC f t n = true → crS f t n ≠ s) ∧ f = 0 ∧ t = 0 ∧ n = 0 ∧ ev = .bool false))) ∧ Ext w w' := by
  obtain ⟨wa, hwa⟩ : ∃ wa, wa = w.alloc (.cells #[.int .i64 0, .int .i64 0] 43) := ⟨_, rfl⟩
  have XA : Ext w wa := by rw [hwa]; exact (Ext.refl w).alloc _
  have HT : Hid (RowB wa w.heap.size 43 [.int .i64 0, .int .i64 0]) := Lib.hid (by rw [hwa]; exact row_laid _ _ _)
  have HX := Lib.hid XA
  clear XA
  by_cases h6 : s.size < 6
  · have HBAD : Hid (∀ f t n, okC f t n = true → crS f t n ≠ s) := Lib.hid (fun f t n hk he => by
      have h1 := (cr_foundr hk he).1
      rw [cpfx_short h6] at h1
      cases h1)
    have h6' : (s.size : Int) < 6 := by omega
    clear h6
    go_enter Tryd.func22, Tryd.ntmps22
    go_upto_region 1 with fail
    rw [← hwa]
    clear hwa
    obtain ⟨g, hg⟩ : ∃ g, w.heap.size = g := ⟨_, rfl⟩
    have HG := Lib.hid hg
    rw [hg] at HT ⊢
    clear hg
    obtain ⟨t0, t1, f0, f1⟩ := rng_cells HT.out
    go_wp2_with fail
    have hr := (HT.out.set 0 (.int .i64 0) (by simp)).set 1 (.int .i64 0) (by simp)
    obtain ⟨r0, r1, -, -⟩ := rng_cells hr
    exact bodyPost_ret (v := .tuple #[.agg #[.int .i64 0, .int .i64 0], .int .i64 0, .bool false]) (by simp [results, Tryd.results22, go_sem, r0, r1]) rfl ⟨⟨0, 0, 0, .bool false, rfl, Lib.hid (.inr ⟨HBAD.out, rfl, rfl, rfl, rfl⟩)⟩, ext_set2 HX.out (by have := HG.out; omega) _ _⟩
  have h6' : ¬ (s.size : Int) < 6 := by omega
  have h6i : (6 : Int) ≤ (s.size : Int) := by omega
  have hcut := cpfx_cut s
  obtain ⟨z, hz⟩ : ∃ z, s.extract 0 6 = z := ⟨_, rfl⟩
  rw [hz] at hcut
  by_cases hpf : cpfx s = false
  · have HBAD : Hid (∀ f t n, okC f t n = true → crS f t n ≠ s) := Lib.hid (fun f t n hk he => by
      have h1 := (cr_foundr hk he).1
      rw [hpf] at h1
      cases h1)
    have hb : (z.toList == [98, 121, 116, 101, 115, 32]) = false := hcut.trans hpf
    clear hcut hpf h6
    go_enter Tryd.func22, Tryd.ntmps22
    go_upto_region 1 with fail
    rw [← hwa]
    clear hwa
    obtain ⟨g, hg⟩ : ∃ g, w.heap.size = g := ⟨_, rfl⟩
    have HG := Lib.hid hg
    rw [hg] at HT ⊢
    clear hg
    obtain ⟨t0, t1, f0, f1⟩ := rng_cells HT.out
    go_wp2_with fail
    have hr := (HT.out.set 0 (.int .i64 0) (by simp)).set 1 (.int .i64 0) (by simp)
    obtain ⟨r0, r1, -, -⟩ := rng_cells hr
    exact bodyPost_ret (v := .tuple #[.agg #[.int .i64 0, .int .i64 0], .int .i64 0, .bool false]) (by simp [results, Tryd.results22, go_sem, r0, r1]) rfl ⟨⟨0, 0, 0, .bool false, rfl, Lib.hid (.inr ⟨HBAD.out, rfl, rfl, rfl, rfl⟩)⟩, ext_set2 HX.out (by have := HG.out; omega) _ _⟩
  have hb : (z.toList == [98, 121, 116, 101, 115, 32]) = true := hcut.trans (by revert hpf; cases cpfx s <;> simp)
  clear hcut hpf
  obtain ⟨x, hx⟩ : ∃ x, s.extract 6 s.size = x := ⟨_, rfl⟩
  have HXX := Lib.hid hx
  have hxs : x.size ≤ s.size := by rw [← hx, ByteArray.size_extract]; omega
  obtain ⟨z1, z2⟩ := cutF_size x 45
  have HC1 : Hid (∀ W, Calls Tryd.prog 52 #[.string x, .int .u8 45] W fun e w' => e = .returned (.tuple #[.string (cutF x 45).1, .string (cutF x 45).2.1, .bool (cutF x 45).2.2]) ∧ Ext W w') := Lib.hid (fun W => cut_any x 45 (by omega) W)
  obtain ⟨⟨a, r, o1⟩, hcu⟩ : ∃ p, cutF x 45 = p := ⟨_, rfl⟩
  have HCU := Lib.hid hcu
  rw [hcu] at HC1 z1 z2
  simp only at HC1 z1 z2
  obtain ⟨z3, z4⟩ := cutF_size r 47
  have HC2 : Hid (∀ W, Calls Tryd.prog 52 #[.string r, .int .u8 47] W fun e w' => e = .returned (.tuple #[.string (cutF r 47).1, .string (cutF r 47).2.1, .bool (cutF r 47).2.2]) ∧ Ext W w') := Lib.hid (fun W => cut_any r 47 (by omega) W)
  obtain ⟨⟨b, c, o2⟩, hcv⟩ : ∃ p, cutF r 47 = p := ⟨_, rfl⟩
  have HCV := Lib.hid hcv
  rw [hcv] at HC2 z3 z4
  simp only at HC2 z3 z4
  have HN1 := Lib.hid (fun W => digits_any a (by omega) W)
  have HN2 := Lib.hid (fun W => digits_any b (by omega) W)
  have HN3 := Lib.hid (fun W => digits_any c (by omega) W)
  have HF : Hid (∀ f t n, okC f t n = true → crS f t n = s → o1 = true ∧ o2 = true ∧ numF a = some f.toNat ∧ numF b = some (t - 1).toNat ∧ numF c = some n.toNat) := Lib.hid (fun f t n hk he => by
    obtain ⟨k1, k2, k3, k4, k5, k6⟩ := cr_foundr hk he
    rw [HXX.out, HCU.out] at k2 k3 k4 k5 k6
    simp only at k2 k3 k4 k5 k6
    rw [HCV.out] at k3 k5 k6
    exact ⟨k2, k3, k4, k5, k6⟩)
  have HCA := Lib.hid (fun va (h : numF a = some va) W => value_any a h W)
  have HCB := Lib.hid (fun vb (h : numF b = some vb) W => value_any b h W)
  have HCC := Lib.hid (fun vc (h : numF c = some vc) W => value_any c h W)
  obtain ⟨na, hna⟩ : ∃ v, numF a = v := ⟨_, rfl⟩
  obtain ⟨nb, hnb⟩ : ∃ v, numF b = v := ⟨_, rfl⟩
  obtain ⟨nc, hnc⟩ : ∃ v, numF c = v := ⟨_, rfl⟩
  have HV1 := Lib.hid hna
  have HV2 := Lib.hid hnb
  have HV3 := Lib.hid hnc
  rw [hna] at HN1 HF
  rw [hnb] at HN2 HF
  rw [hnc] at HN3 HF
  clear hcv z1 z2 z3 z4 hxs hna hnb hnc hcu h6
  go_enter Tryd.func22, Tryd.ntmps22
  go_upto_region 1 with fail
  rw [← hwa]
  clear hwa
  obtain ⟨g, hg⟩ : ∃ g, w.heap.size = g := ⟨_, rfl⟩
  have HG := Lib.hid hg
  rw [hg] at HT ⊢
  clear hg
  go_upto_region 4 with (go_at_call 52; refine (HC1.out _).mono ?_; rintro e w2 ⟨rfl, hx2⟩)
  go_upto_region 5 with (go_at_call 52; refine (HC2.out _).mono ?_; rintro e w3 ⟨rfl, hx3⟩)
  have HX3 := Lib.hid ((HX.out.trans hx2).trans hx3)
  have HT3 := Lib.hid (HT.out.ext (hx2.trans hx3))
  clear hx2 hx3 HC1 HC2 HX HT hx hz hb
  cases o1 with
  | false =>
    have HBAD : Hid (∀ f t n, okC f t n = true → crS f t n ≠ s) := Lib.hid (fun f t n hk he => by
      exact absurd (HF.out f t n hk he).1 (by decide))
    obtain ⟨t0, t1, f0, f1⟩ := rng_cells HT3.out
    go_wp2_with fail
    have hr := (HT3.out.set 0 (.int .i64 0) (by simp)).set 1 (.int .i64 0) (by simp)
    obtain ⟨r0, r1, -, -⟩ := rng_cells hr
    exact bodyPost_ret (v := .tuple #[.agg #[.int .i64 0, .int .i64 0], .int .i64 0, .bool false]) (by simp [results, Tryd.results22, go_sem, r0, r1]) rfl ⟨⟨0, 0, 0, .bool false, rfl, Lib.hid (.inr ⟨HBAD.out, rfl, rfl, rfl, rfl⟩)⟩, ext_set2 HX3.out (by have := HG.out; omega) _ _⟩
  | true =>
  cases o2 with
  | false =>
    have HBAD : Hid (∀ f t n, okC f t n = true → crS f t n ≠ s) := Lib.hid (fun f t n hk he => by
      exact absurd (HF.out f t n hk he).2.1 (by decide))
    obtain ⟨t0, t1, f0, f1⟩ := rng_cells HT3.out
    go_wp2_with fail
    have hr := (HT3.out.set 0 (.int .i64 0) (by simp)).set 1 (.int .i64 0) (by simp)
    obtain ⟨r0, r1, -, -⟩ := rng_cells hr
    exact bodyPost_ret (v := .tuple #[.agg #[.int .i64 0, .int .i64 0], .int .i64 0, .bool false]) (by simp [results, Tryd.results22, go_sem, r0, r1]) rfl ⟨⟨0, 0, 0, .bool false, rfl, Lib.hid (.inr ⟨HBAD.out, rfl, rfl, rfl, rfl⟩)⟩, ext_set2 HX3.out (by have := HG.out; omega) _ _⟩
  | true =>
  go_wp2_with fail
  refine (HN1.out _).mono ?_
  rintro e w4 ⟨rfl, rfl⟩
  cases na with
  | none =>
    have HBAD : Hid (∀ f t n, okC f t n = true → crS f t n ≠ s) := Lib.hid (fun f t n hk he => by
      cases (HF.out f t n hk he).2.2.1)
    obtain ⟨t0, t1, f0, f1⟩ := rng_cells HT3.out
    go_wp2_with fail
    have hr := (HT3.out.set 0 (.int .i64 0) (by simp)).set 1 (.int .i64 0) (by simp)
    obtain ⟨r0, r1, -, -⟩ := rng_cells hr
    exact bodyPost_ret (v := .tuple #[.agg #[.int .i64 0, .int .i64 0], .int .i64 0, .bool false]) (by simp [results, Tryd.results22, go_sem, r0, r1]) rfl ⟨⟨0, 0, 0, .bool false, rfl, Lib.hid (.inr ⟨HBAD.out, rfl, rfl, rfl, rfl⟩)⟩, ext_set2 HX3.out (by have := HG.out; omega) _ _⟩
  | some va =>
  go_wp2_with fail
  refine (HN2.out _).mono ?_
  rintro e w5 ⟨rfl, rfl⟩
  cases nb with
  | none =>
    have HBAD : Hid (∀ f t n, okC f t n = true → crS f t n ≠ s) := Lib.hid (fun f t n hk he => by
      cases (HF.out f t n hk he).2.2.2.1)
    obtain ⟨t0, t1, f0, f1⟩ := rng_cells HT3.out
    go_wp2_with fail
    have hr := (HT3.out.set 0 (.int .i64 0) (by simp)).set 1 (.int .i64 0) (by simp)
    obtain ⟨r0, r1, -, -⟩ := rng_cells hr
    exact bodyPost_ret (v := .tuple #[.agg #[.int .i64 0, .int .i64 0], .int .i64 0, .bool false]) (by simp [results, Tryd.results22, go_sem, r0, r1]) rfl ⟨⟨0, 0, 0, .bool false, rfl, Lib.hid (.inr ⟨HBAD.out, rfl, rfl, rfl, rfl⟩)⟩, ext_set2 HX3.out (by have := HG.out; omega) _ _⟩
  | some vb =>
  go_wp2_with fail
  refine (HN3.out _).mono ?_
  rintro e w6 ⟨rfl, rfl⟩
  cases nc with
  | none =>
    have HBAD : Hid (∀ f t n, okC f t n = true → crS f t n ≠ s) := Lib.hid (fun f t n hk he => by
      cases (HF.out f t n hk he).2.2.2.2)
    obtain ⟨t0, t1, f0, f1⟩ := rng_cells HT3.out
    go_wp2_with fail
    have hr := (HT3.out.set 0 (.int .i64 0) (by simp)).set 1 (.int .i64 0) (by simp)
    obtain ⟨r0, r1, -, -⟩ := rng_cells hr
    exact bodyPost_ret (v := .tuple #[.agg #[.int .i64 0, .int .i64 0], .int .i64 0, .bool false]) (by simp [results, Tryd.results22, go_sem, r0, r1]) rfl ⟨⟨0, 0, 0, .bool false, rfl, Lib.hid (.inr ⟨HBAD.out, rfl, rfl, rfl, rfl⟩)⟩, ext_set2 HX3.out (by have := HG.out; omega) _ _⟩
  | some vc =>
    have HEQ : Hid (∀ f t n, okC f t n = true → crS f t n = s → f = (va : Int) ∧ t = (vb : Int) + 1 ∧ n = (vc : Int)) := Lib.hid (fun f t n hk he => by
      obtain ⟨⟨k1, k2, k3⟩, k4, k5, -⟩ := okC_parts hk
      obtain ⟨-, -, m1, m2, m3⟩ := HF.out f t n hk he
      simp only [Option.some.injEq] at m1 m2 m3
      omega)
    have hvb := numF_lt HV2.out
    have hw : wrap64 ((vb : Int) + 1) = (vb : Int) + 1 := by unfold wrap64; omega
    clear hvb
    go_wp2_with fail
    refine (HCA.out _ HV1.out _).mono ?_
    rintro e w7 ⟨rfl, rfl⟩
    go_wp2_with fail
    refine (HCB.out _ HV2.out _).mono ?_
    rintro e w7 ⟨rfl, rfl⟩
    go_wp2_with fail
    refine (HCC.out _ HV3.out _).mono ?_
    rintro e w7 ⟨rfl, rfl⟩
    go_upto_region 8 with fail
    obtain ⟨wb, hwb⟩ : ∃ wb, wb = w3.alloc (.cells #[.int .i64 (va : Int), .int .i64 ((vb : Int) + 1)] 43) := ⟨_, rfl⟩
    have XB : Ext w3 wb := by rw [hwb]; exact (Ext.refl w3).alloc _
    have HTB : Hid (RowB wb w3.heap.size 43 [.int .i64 (va : Int), .int .i64 ((vb : Int) + 1)]) := Lib.hid (by rw [hwb]; exact row_laid _ _ _)
    rw [← hwb]
    clear hwb
    have HX8 := Lib.hid (HX3.out.trans XB)
    have HT8 := Lib.hid (HT3.out.ext XB)
    clear XB
    obtain ⟨q, hq⟩ : ∃ q, w3.heap.size = q := ⟨_, rfl⟩
    rw [hq] at HTB ⊢
    clear hq
    have b0 := HTB.out.cell (j := 0) rfl
    have b1 := HTB.out.cell (j := 1) rfl
    cases hk : okC (va : Int) ((vb : Int) + 1) (vc : Int) with
    | false =>
      have HBAD : Hid (∀ f t n, okC f t n = true → crS f t n ≠ s) := Lib.hid (fun f t n hk he => by
        obtain ⟨r1, r2, r3⟩ := HEQ.out f t n hk he
        rw [r1, r2, r3] at hk
        rename_i hk0
        rw [hk0] at hk
        cases hk)
      have HCT := Lib.hid (fun W => rcontent_no hk W)
      clear hk
      go_upto_region 9 with (go_at_call 20; refine (HCT.out _).mono ?_; rintro e w7 ⟨rfl, hx7⟩)
      have HX9 := Lib.hid (HX8.out.trans hx7)
      have HT9 := Lib.hid (HT8.out.ext hx7)
      clear hx7 b0 b1
      obtain ⟨t0, t1, f0, f1⟩ := rng_cells HT9.out
      go_wp2_with fail
      have hr := (HT9.out.set 0 (.int .i64 0) (by simp)).set 1 (.int .i64 0) (by simp)
      obtain ⟨r0, r1, -, -⟩ := rng_cells hr
      exact bodyPost_ret (v := .tuple #[.agg #[.int .i64 0, .int .i64 0], .int .i64 0, .bool false]) (by simp [results, Tryd.results22, go_sem, r0, r1]) rfl ⟨⟨0, 0, 0, .bool false, rfl, Lib.hid (.inr ⟨HBAD.out, rfl, rfl, rfl, rfl⟩)⟩, ext_set2 HX9.out (by have := HG.out; omega) _ _⟩
    | true =>
      have HOK := Lib.hid hk
      have HCT := Lib.hid (fun W => rcontent_ok hk W)
      obtain ⟨y, hy⟩ : ∃ y, crS (va : Int) ((vb : Int) + 1) (vc : Int) = y := ⟨_, rfl⟩
      have HY := Lib.hid hy
      rw [hy] at HCT
      clear hk hy
      go_upto_region 9 with (go_at_call 20; refine (HCT.out _).mono ?_; rintro e w7 ⟨rfl, hx7⟩)
      have HX9 := Lib.hid (HX8.out.trans hx7)
      have HT9 := Lib.hid (HT8.out.ext hx7)
      have HTC := Lib.hid (HTB.out.ext hx7)
      clear hx7 b0 b1
      by_cases hys : y = s
      · have hcmp : (y.toList == s.toList) = true := by rw [hys]; exact beq_self_eq_true _
        have HYS := Lib.hid hys
        clear hys
        obtain ⟨t0, t1, f0, f1⟩ := rng_cells HT9.out
        obtain ⟨b0, b1, b2, b3⟩ := rng_cells HTC.out
        go_wp2_with fail
        have hr := (HT9.out.set 0 (.int .i64 (va : Int)) (by simp)).set 1 (.int .i64 ((vb : Int) + 1)) (by simp)
        obtain ⟨r0, r1, -, -⟩ := rng_cells hr
        exact bodyPost_ret (v := .tuple #[.agg #[.int .i64 (va : Int), .int .i64 ((vb : Int) + 1)], .int .i64 (vc : Int), .bool true]) (by simp [results, Tryd.results22, go_sem, r0, r1]) rfl ⟨⟨va, vb + 1, vc, .bool true, rfl, Lib.hid (.inl ⟨HOK.out, HY.out.trans HYS.out, rfl⟩)⟩, ext_set2 HX9.out (by have := HG.out; omega) _ _⟩
      · have hcmp : (y.toList == s.toList) = false := by rw [beq_eq_false_iff_ne]; exact fun h => hys (bs_ext (by simpa [Lib.extract_toList] using h))
        have HBAD : Hid (∀ f t n, okC f t n = true → crS f t n ≠ s) := Lib.hid (fun f t n hk he => by
          obtain ⟨r1, r2, r3⟩ := HEQ.out f t n hk he
          rw [r1, r2, r3, HY.out] at he
          exact hys he)
        clear hys
        obtain ⟨t0, t1, f0, f1⟩ := rng_cells HT9.out
        go_wp2_with fail
        have hr := (HT9.out.set 0 (.int .i64 0) (by simp)).set 1 (.int .i64 0) (by simp)
        obtain ⟨r0, r1, -, -⟩ := rng_cells hr
        exact bodyPost_ret (v := .tuple #[.agg #[.int .i64 0, .int .i64 0], .int .i64 0, .bool false]) (by simp [results, Tryd.results22, go_sem, r0, r1]) rfl ⟨⟨0, 0, 0, .bool false, rfl, Lib.hid (.inr ⟨HBAD.out, rfl, rfl, rfl, rfl⟩)⟩, ext_set2 HX9.out (by have := HG.out; omega) _ _⟩
end Go.Proofs.YteamnofooicbeaaDoor
