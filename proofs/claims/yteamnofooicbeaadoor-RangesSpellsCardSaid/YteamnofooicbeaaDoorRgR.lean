/- Chapter 09: the law Spells. -/
import Derived.Test.YteamnofooicbeaaDoorRgQ
namespace Go.Proofs.YteamnofooicbeaaDoor
open Go.RowKit Go.Maps
set_option maxRecDepth 100000 in
theorem equal_rng (a b a' b' : Int) (w : World) :
    (Op.equalIn 10000 37 (.agg #[.int .i64 a, .int .i64 b]) (.agg #[.int .i64 a', .int .i64 b'])).run Tryd.prog w = .ok (a == a' && b == b') w := by
  go_simp
  repeat' split
  all_goals simp_all
attribute [local go_sem 2000] equal_rng
theorem spell_two {u v : Nat} (hu : u < 65536) (hv : v < 65536) (huv : u ≤ v) {n : Int} (hn : 0 ≤ n) : parseF (bs (pfxL ++ (Lib.itoa (u : Int) ++ 45 :: Lib.itoa (v : Int)))) n = if (u : Int) < min ((v : Int) + 1) n then ([((u : Int), min ((v : Int) + 1) n)], 0) else ([], 1) := by
  rw [parse_plain (plain_dash (itoa_digs u) (itoa_digs v)) (by rw [List.length_append, List.length_cons]; omega), el_two (by omega) (by omega) huv, show max 0 n = n by omega, Int.min_comm]
theorem spell_from {u : Nat} (hu : u < 65536) {n : Int} (hn : 0 ≤ n) : parseF (bs (pfxL ++ (Lib.itoa (u : Int) ++ 45 :: []))) n = if (u : Int) < n then ([((u : Int), n)], 0) else ([], 1) := by
  rw [parse_plain (plain_dash (itoa_digs u) (fun c hc => by cases hc)) (by simp), el_from (by omega), show max 0 n = n by omega]
theorem spell_last {u : Nat} (hu : u < 65536) {n : Int} (hn : 0 ≤ n) : parseF (bs (pfxL ++ ([] ++ 45 :: Lib.itoa (u : Int)))) n = if max 0 (n - (u : Int)) < n then ([(max 0 (n - (u : Int)), n)], 0) else ([], 1) := by
  rw [parse_plain (plain_dash (fun c hc => by cases hc) (itoa_digs u)) (by simp), el_last (by omega), show max 0 n = n by omega]
set_option maxRecDepth 100000 in
set_option maxHeartbeats 1000000 in
theorem spells_law (a b l : Nat) (ha : a < 65536) (hb : b < 65536) (hl : l < 65536) (w : World) (hM : MaxL w) :
    Calls Tryd.prog 4 #[.int .u16 a, .int .u16 b, .int .u16 l] w fun e w' => e = .returned (.bool true) ∧ Ext w w' := by
  have HAW := Lib.hid (awake_any w hM)
  have HM := Lib.hid hM
  obtain ⟨u, hu⟩ : ∃ u, min a b = u := ⟨_, rfl⟩
  obtain ⟨v, hv⟩ : ∃ v, max a b = v := ⟨_, rfl⟩
  have hui : min (a : Int) (b : Int) = (u : Int) := by omega
  have hvi : max (a : Int) (b : Int) = (v : Int) := by omega
  have hu6 : u < 65536 := by omega
  have hv6 : v < 65536 := by omega
  have huv : u ≤ v := by omega
  have HT1 := Lib.hid (fun W => text_nat u W (by omega))
  have HT2 := Lib.hid (fun W => text_nat v W (by omega))
  have HS1 := Lib.hid (spell_two hu6 hv6 huv (n := (l : Int)) (by omega))
  have HS2 := Lib.hid (spell_from hu6 (n := (l : Int)) (by omega))
  have HS3 := Lib.hid (spell_last hu6 (n := (l : Int)) (by omega))
  obtain ⟨x, hx⟩ : ∃ x, itoS (u : Int) = x := ⟨_, rfl⟩
  obtain ⟨y, hy⟩ : ∃ y, itoS (v : Int) = y := ⟨_, rfl⟩
  have hxs : x.size ≤ 21 := by rw [← hx]; exact itoS_size _ (by omega) (by omega)
  have hys : y.size ≤ 21 := by rw [← hy]; exact itoS_size _ (by omega) (by omega)
  have HXY := Lib.hid (And.intro hx hy)
  rw [hx] at HT1
  rw [hy] at HT2
  have w1' : wrap64 ((v : Int) + 1) = (v : Int) + 1 := by unfold wrap64; omega
  have w2' : wrap64 ((l : Int) - (u : Int)) = (l : Int) - (u : Int) := by unfold wrap64; omega
  clear hu hv hx hy hM
  go_enter Tryd.func4, Tryd.ntmps4
  go_upto_region 4 with (go_at_call 12; refine HAW.out.mono ?_; rintro e w1 ⟨rfl, hx1⟩)
  go_wp2_with fail
  refine (HT1.out _).mono ?_
  rintro e w2 ⟨rfl, hx2⟩
  go_wp2_with fail
  refine (HT2.out _).mono ?_
  rintro e w3 ⟨rfl, hx3⟩
  have HX3 := Lib.hid ((hx1.trans hx2).trans hx3)
  clear hx1 hx2 hx3
  go_upto_region 5 with fail
  go_upto_block 0 with fail
  obtain ⟨tx1, htx1⟩ : ∃ z : ByteArray, ⟨#[98, 121, 116, 101, 115, 61]⟩ ++ x ++ ⟨#[45]⟩ ++ y = z := ⟨_, rfl⟩
  obtain ⟨tx2, htx2⟩ : ∃ z : ByteArray, ⟨#[98, 121, 116, 101, 115, 61]⟩ ++ x ++ ⟨#[45]⟩ = z := ⟨_, rfl⟩
  obtain ⟨tx3, htx3⟩ : ∃ z : ByteArray, ⟨#[98, 121, 116, 101, 115, 61, 45]⟩ ++ x = z := ⟨_, rfl⟩
  obtain ⟨wb, hwb⟩ : ∃ wb, wb = w3.alloc (.cells #[.string tx1, .int .i64 u, .int .i64 (min ((v : Int) + 1) l), .string tx2, .int .i64 u, .int .i64 l, .string tx3, .int .i64 (max 0 ((l : Int) - u)), .int .i64 l] 38) := ⟨_, rfl⟩
  have XB : Ext w3 wb := by rw [hwb]; exact (Ext.refl w3).alloc _
  have HROW : Hid (RowB wb w3.heap.size 38 [.string tx1, .int .i64 u, .int .i64 (min ((v : Int) + 1) l), .string tx2, .int .i64 u, .int .i64 l, .string tx3, .int .i64 (max 0 ((l : Int) - u)), .int .i64 l]) := Lib.hid (by rw [hwb]; exact row_laid _ _ _)
  have e1 : tx1 = bs (pfxL ++ (Lib.itoa (u : Int) ++ 45 :: Lib.itoa (v : Int))) := by
    rw [← htx1, ← HXY.out.1, ← HXY.out.2]
    show bs pfxL ++ bs (Lib.itoa (u : Int)) ++ bs [45] ++ bs (Lib.itoa (v : Int)) = _
    rw [itoS_app, itoS_app, itoS_app]
    simp [List.append_assoc]
  have e2 : tx2 = bs (pfxL ++ (Lib.itoa (u : Int) ++ 45 :: [])) := by
    rw [← htx2, ← HXY.out.1]
    show bs pfxL ++ bs (Lib.itoa (u : Int)) ++ bs [45] = _
    rw [itoS_app, itoS_app]
    simp [List.append_assoc]
  have e3 : tx3 = bs (pfxL ++ ([] ++ 45 :: Lib.itoa (u : Int))) := by
    rw [← htx3, ← HXY.out.1]
    show bs (pfxL ++ [45]) ++ bs (Lib.itoa (u : Int)) = _
    rw [itoS_app]
    simp [List.append_assoc]
  have HK : Hid (∀ k, k < 3 → ∃ tx f t, (wb.cell? ⟨w3.heap.size, k * 3, none⟩ = some (.string tx) ∧ wb.cell? ⟨w3.heap.size, k * 3 + 1, none⟩ = some (.int .i64 f) ∧ wb.cell? ⟨w3.heap.size, k * 3 + 2, none⟩ = some (.int .i64 t)) ∧ tx.size ≤ 60 ∧ parseF tx l = if f < t then ([(f, t)], 0) else ([], 1)) := Lib.hid (fun k hk => by
    have z1 : (Lib.itoa (u : Int)).length ≤ 21 := Lib.itoa_length_le _ (by omega) (by omega)
    have z2 : (Lib.itoa (v : Int)).length ≤ 21 := Lib.itoa_length_le _ (by omega) (by omega)
    rcases (show k = 0 ∨ k = 1 ∨ k = 2 by omega) with rfl | rfl | rfl
    · refine ⟨tx1, _, _, ⟨HROW.out.cell (j := 0) rfl, HROW.out.cell (j := 1) rfl, HROW.out.cell (j := 2) rfl⟩, ?_, by rw [e1]; exact HS1.out⟩
      rw [e1, bs_size, List.length_append, List.length_append, List.length_cons, show pfxL.length = 6 from rfl]
      omega
    · refine ⟨tx2, _, _, ⟨HROW.out.cell (j := 3) rfl, HROW.out.cell (j := 4) rfl, HROW.out.cell (j := 5) rfl⟩, ?_, by rw [e2]; exact HS2.out⟩
      rw [e2, bs_size, List.length_append, List.length_append, List.length_cons, show pfxL.length = 6 from rfl]
      simp
      omega
    · refine ⟨tx3, _, _, ⟨HROW.out.cell (j := 6) rfl, HROW.out.cell (j := 7) rfl, HROW.out.cell (j := 8) rfl⟩, ?_, by rw [e3]; exact HS3.out⟩
      rw [e3, bs_size, List.length_append, List.length_append, List.length_cons, show pfxL.length = 6 from rfl]
      simp
      omega)
  rw [htx1, htx2, htx3, ← hwb]
  have HXB := Lib.hid (HX3.out.trans XB)
  obtain ⟨gb, hgb⟩ : ∃ g, w3.heap.size = g := ⟨_, rfl⟩
  rw [hgb] at HK ⊢
  clear hwb e1 e2 e3 htx1 htx2 htx3 hxs hys HROW XB hgb w1' w2' hui hvi hu6 hv6 huv
  go_wp2_with fail
  go_loopw [62] (fun i wr => ∃ k : Nat, k ≤ 3 ∧ i = .int .i64 k ∧ Ext wb wr) (fun i _ => 3 - (intOf i).toNat)
  case atStart => exact ⟨0, by omega, rfl, Ext.refl _⟩
  case round =>
    obtain ⟨k, hk, rfl, hxr⟩ := hrel
    by_cases hlt : k < 3
    · obtain ⟨tx, f, t, ⟨d0, d1, d2⟩, htz, hpf⟩ := HK.out k hlt
      have hki : (k : Int) < 3 := by omega
      have a0 := hxr.cell d0
      have a1 := hxr.cell d1
      have a2 := hxr.cell d2
      have HXR := Lib.hid hxr
      have HPA : Hid (∀ W, Ext wr W → Calls Tryd.prog 13 #[.string tx, .int .i64 l] W fun e w' => ∃ v ev, e = .returned (.tuple #[v, ev]) ∧ Hid (RAt w' v (parseF tx l).1 ∧ ev = errC (parseF tx l).2) ∧ Ext W w') := Lib.hid (fun W hW => (parse_any tx l (by omega) (by omega) W (HM.out.ext (HXB.out.trans (hxr.trans hW)))).mono (fun e w' ⟨⟨v, ev, h1, h2⟩, h3⟩ => ⟨v, ev, h1, Lib.hid h2, h3⟩))
      have HPF := Lib.hid hpf
      clear d0 d1 d2 htz hpf hxr
      go_upto_region 8 with fail
      obtain ⟨wc, hwc⟩ : ∃ wc, wc = wr.alloc (.cells #[.string tx, .int .i64 f, .int .i64 t] 38) := ⟨_, rfl⟩
      have XC : Ext wr wc := by rw [hwc]; exact (Ext.refl wr).alloc _
      have HT : Hid (RowB wc wr.heap.size 38 [.string tx, .int .i64 f, .int .i64 t]) := Lib.hid (by rw [hwc]; exact row_laid _ _ _)
      rw [← hwc]
      clear hwc a0 a1 a2
      have b0 := HT.out.cell (j := 0) rfl
      go_upto_region 9 with (go_at_call 13; refine (HPA.out _ XC).mono ?_; rintro e w4 ⟨pv, ev, rfl, HPE, hx4⟩)
      obtain ⟨hpv, hev⟩ := HPE.out
      have HXC := Lib.hid (HXR.out.trans (XC.trans hx4))
      have HT4 := Lib.hid (HT.out.ext hx4)
      clear b0 hx4 XC
      by_cases hft : f < t
      · rw [HPF.out, if_pos hft] at hpv hev
        obtain ⟨A5, cap5, rfl, hc5⟩ := hpv.parts
        obtain ⟨g5, rfl, hg5⟩ := hc5 (by simp)
        have hp0 := hg5 0 _ rfl
        obtain rfl : ev = Value.nilIface := hev
        obtain ⟨tg, htg⟩ : ∃ tg, wr.heap.size = tg := ⟨_, rfl⟩
        rw [htg] at HT4 ⊢
        have a0 := fun q => ((Ext.refl w4).drewN q).cell hp0.1
        have a1 := fun q => ((Ext.refl w4).drewN q).cell hp0.2
        have d1 := HT4.out.cell (j := 1) rfl
        have d2 := HT4.out.cell (j := 2) rfl
        have b1 := fun q => ((Ext.refl w4).drewN q).cell d1
        have b2 := fun q => ((Ext.refl w4).drewN q).cell d2
        have hft' : ¬ t ≤ f := by omega
        clear hpv hc5 hg5 hp0 htg hft
        simp only [List.length_singleton]
        go_upto_region 12 with fail
        refine wp_region_quiet_lit (by kernel_rfl) (by kernel_rfl) ?_
        repeat (go_big_quiet_step (fail))
        refine wpQuiet_nil ?_
        rintro _ ⟨nq, rfl⟩
        go_wp2_with fail
        go_roundw
        case rel => exact ⟨k + 1, by omega, by go_num, HXC.out.drewN nq⟩
        case measure => simp [intOf]; omega
      · rw [HPF.out, if_neg hft] at hpv hev
        obtain ⟨A5, cap5, rfl, -⟩ := hpv.parts
        obtain rfl : ev = errV 1 := hev
        obtain ⟨tg, htg⟩ : ∃ tg, wr.heap.size = tg := ⟨_, rfl⟩
        rw [htg] at HT4 ⊢
        have d1 := HT4.out.cell (j := 1) rfl
        have d2 := HT4.out.cell (j := 2) rfl
        have hft' : t ≤ f := by omega
        clear hpv htg hft
        simp only [List.length_nil]
        go_wp2_with (go_at_call 18; refine (is_err 1 _ (by decide)).mono ?_; rintro e w5 ⟨rfl, rfl⟩)
        go_roundw
        case rel => exact ⟨k + 1, by omega, by go_num, HXC.out⟩
        case measure => simp [intOf]; omega
    · obtain rfl : k = 3 := by omega
      go_wp2_with fail
      go_ret
      exact ⟨rfl, HXB.out.trans hxr⟩
theorem spells_int (x y z : Int) (hx : 0 ≤ x ∧ x ≤ 65535) (hy : 0 ≤ y ∧ y ≤ 65535) (hz : 0 ≤ z ∧ z ≤ 65535) (w : World) (hM : MaxL w) :
    Calls Tryd.prog 4 #[.int .u16 x, .int .u16 y, .int .u16 z] w fun e w' => e = .returned (.bool true) ∧ Ext w w' := by
  obtain ⟨a, rfl⟩ := Int.eq_ofNat_of_zero_le hx.1
  obtain ⟨b, rfl⟩ := Int.eq_ofNat_of_zero_le hy.1
  obtain ⟨c, rfl⟩ := Int.eq_ofNat_of_zero_le hz.1
  exact spells_law a b c (by omega) (by omega) (by omega) w hM
end Go.Proofs.YteamnofooicbeaaDoor
