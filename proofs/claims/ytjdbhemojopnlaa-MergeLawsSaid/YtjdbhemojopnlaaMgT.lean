/- Chapter 52: the laws Puts, Totals, Gaps. -/
import Derived.Test.YtjdbhemojopnlaaMgS
namespace Go.Proofs.Ytjdbhemojopnlaa
open Go.RowKit Go.Maps
theorem refL_good {es : List Ent} : ∀ x ∈ refL es, x.good := by
  have go : ∀ (es r : List Ent), (∀ x ∈ r, x.good) → ∀ x ∈ es.foldl refPut r, x.good := by
    intro es
    induction es with
    | nil => intro r h; exact h
    | cons y es ih =>
      intro r h
      refine ih _ (fun x hx => ?_)
      unfold refPut at hx
      split at hx
      · rename_i hg
        rcases List.mem_cons.1 ((ins_perm y r).mem_iff.1 hx) with rfl | hx
        · exact hg.1
        · exact h x hx
      · exact h x hx
  exact go es [] (by simp)
theorem tot_whole (f : Ent → Int) (t : Int) : ∀ r : List Ent, (∀ x ∈ r, x.good) → tot f (pB t 0 4611686018427387904) r = tot f (pT t) r
  | [], _ => rfl
  | x :: r, h => by
    have h1 := (h x (by simp)).2.2.2.2.2.2
    have h2 := tot_whole f t r (fun y hy => h y (by simp [hy]))
    have h3 : pB t 0 4611686018427387904 x = pT t x := by
      obtain ⟨a, b⟩ := h1
      have e1 : decide (0 ≤ x.at_) = true := by simpa using a
      have e2 : decide (x.at_ < 4611686018427387904) = true := by simp; omega
      simp [pB, pT, e1, e2]
    unfold tot
    rw [h2, h3]
set_option maxRecDepth 100000 in
theorem puts_law {v : Value} {es : List Ent} (w : World) (h : EnsArg w v es) (hty : ∀ x ∈ es, x.typed) :
    Calls Try.prog 3 #[v] w fun e w' => e = .returned (.bool true) ∧ Ext w w' := by
  have HE := Lib.hid h
  obtain ⟨A, cap, rfl, -⟩ := h
  obtain ⟨n, hxn⟩ : ∃ n, es.length = n := ⟨_, rfl⟩
  rw [hxn] at HE ⊢
  by_cases hn : n ≤ 60
  · have HF := Lib.hid (fun W (hW : Ext w W) => filled_any (HE.out.ext hW) (by omega) hty)
    clear hxn hty
    go_enter Try.func3, Try.ntmps3
    go_wp2_with (first
      | (go_at_call 11; refine (awake_any _).mono ?_; rintro e w1 ⟨rfl, hx1⟩)
      | (go_at_call 12; refine (HF.out _ hx1).mono ?_; rintro e w2 ⟨hx2, u, L, rfl, -⟩))
    go_ret
    exact ⟨rfl, hx1.trans hx2⟩
  · clear hxn hty
    go_enter Try.func3, Try.ntmps3
    go_wp2_with (go_at_call 11; refine (awake_any _).mono ?_; rintro e w1 ⟨rfl, hx1⟩)
    go_ret
    exact ⟨rfl, hx1⟩
set_option maxRecDepth 100000 in
set_option maxHeartbeats 1000000 in
theorem totals_law {v : Value} {es : List Ent} (tenant f u : Int) (w : World) (h : EnsArg w v es) (hty : ∀ x ∈ es, x.typed) :
    Calls Try.prog 5 #[v, .int .i64 tenant, .agg #[.int .i64 f, .int .i64 u]] w fun e w' => e = .returned (.bool true) ∧ Ext w w' := by
  have HE := Lib.hid h
  obtain ⟨A, cap, rfl, -⟩ := h
  obtain ⟨n, hxn⟩ : ∃ n, es.length = n := ⟨_, rfl⟩
  rw [hxn] at HE ⊢
  by_cases hn : n ≤ 60
  · have HF := Lib.hid (fun W (hW : Ext w W) => filled_any (HE.out.ext hW) (by omega) hty)
    clear hxn hty
    go_enter Try.func5, Try.ntmps5
    obtain ⟨w0, hw0⟩ : ∃ w0, w0 = w.alloc (.cells #[.int .i64 f, .int .i64 u] 33) := ⟨_, rfl⟩
    have X0 : Ext w w0 := by rw [hw0]; exact (Ext.refl w).alloc _
    have HT : Hid (RowB w0 w.heap.size 33 [.int .i64 f, .int .i64 u]) := Lib.hid (by rw [hw0]; exact row_laid _ _ _)
    go_upto_region 1 with fail
    rw [← hw0]
    clear hw0
    go_upto_region 6 with (first
      | (go_at_call 11; refine (awake_any _).mono ?_; rintro e w1 ⟨rfl, hx1⟩)
      | (go_at_call 12; refine (HF.out _ (X0.trans hx1)).mono ?_; rintro e w2 ⟨hx2, u2, L, rfl, hS, hu, hL, hlen⟩))
    obtain ⟨q, hq⟩ : ∃ q, w1.heap.size + 1 = q := ⟨_, rfl⟩
    rw [hq] at hS ⊢
    clear hq
    have hgd := refL_good (es := es)
    have HLS := fun W (hW : Ext w2 W) => lists_set hL.s hL.p (by rw [← hL.p.length_eq]; omega) (hS.ext hW)
    have HTO : Hid (Calls Try.prog 15 #[.pointer (some ⟨q, 0, none⟩), .int .i64 tenant] w2 fun e w' => e = .returned (.tuple #[.int .i64 (tot Ent.ht (pT tenant) (refL es)), .int .i64 (tot Ent.by_ (pT tenant) (refL es))]) ∧ Ext w2 w') := Lib.hid (total_any (by omega) hgd tenant w2 (HLS w2 (Ext.refl _)))
    have HBE : Hid (∀ W, Ext w2 W → Calls Try.prog 16 #[.pointer (some ⟨q, 0, none⟩), .int .i64 tenant, .int .i64 f, .int .i64 u] W fun e w' => e = .returned (.tuple #[.int .i64 (tot Ent.ht (pB tenant f u) (refL es)), .int .i64 (tot Ent.by_ (pB tenant f u) (refL es))]) ∧ Ext W w') := Lib.hid (fun W hW => between_any (by omega) hgd tenant f u W (HLS W hW))
    have HS0 : Hid (∀ W, Ext w2 W → Calls Try.prog 17 #[u2, .int .i64 tenant, .int .i64 0, .int .i64 4611686018427387904] W fun e w' => e = .returned (.tuple #[.int .i64 (tot Ent.ht (pT tenant) (refL es)), .int .i64 (tot Ent.by_ (pT tenant) (refL es))]) ∧ Ext W w') := Lib.hid (fun W hW => by
      have := sum_any (hu.ext hW) (by omega) hgd tenant 0 4611686018427387904
      rwa [tot_whole _ _ _ hgd, tot_whole _ _ _ hgd] at this)
    have HS1 : Hid (∀ W, Ext w2 W → Calls Try.prog 17 #[u2, .int .i64 tenant, .int .i64 f, .int .i64 u] W fun e w' => e = .returned (.tuple #[.int .i64 (tot Ent.ht (pB tenant f u) (refL es)), .int .i64 (tot Ent.by_ (pB tenant f u) (refL es))]) ∧ Ext W w') := Lib.hid (fun W hW => sum_any (hu.ext hW) (by omega) hgd tenant f u)
    have HT2 := Lib.hid (HT.out.ext (hx1.trans hx2))
    have HX2 := Lib.hid ((X0.trans hx1).trans hx2)
    obtain ⟨h1, e1⟩ : ∃ z, tot Ent.ht (pT tenant) (refL es) = z := ⟨_, rfl⟩
    obtain ⟨h2, e2⟩ : ∃ z, tot Ent.by_ (pT tenant) (refL es) = z := ⟨_, rfl⟩
    obtain ⟨h3, e3⟩ : ∃ z, tot Ent.ht (pB tenant f u) (refL es) = z := ⟨_, rfl⟩
    obtain ⟨h4, e4⟩ : ∃ z, tot Ent.by_ (pB tenant f u) (refL es) = z := ⟨_, rfl⟩
    rw [e1, e2] at HTO HS0
    rw [e3, e4] at HBE HS1
    clear hgd HLS hS hu hL hlen HF X0 hx1 hx2 e1 e2 e3 e4
    go_wp2_with fail
    refine HTO.out.mono ?_
    rintro e w3 ⟨rfl, hx3⟩
    have t0 := (HT2.out.ext hx3).cell (j := 0) rfl
    have t1 := (HT2.out.ext hx3).cell (j := 1) rfl
    go_wp2_with fail
    refine (HBE.out _ hx3).mono ?_
    rintro e w4 ⟨rfl, hx4⟩
    clear t0 t1
    go_wp2_with fail
    refine (HS0.out _ (hx3.trans hx4)).mono ?_
    rintro e w5 ⟨rfl, hx5⟩
    have t0 := (HT2.out.ext ((hx3.trans hx4).trans hx5)).cell (j := 0) rfl
    have t1 := (HT2.out.ext ((hx3.trans hx4).trans hx5)).cell (j := 1) rfl
    go_wp2_with fail
    refine (HS1.out _ ((hx3.trans hx4).trans hx5)).mono ?_
    rintro e w6 ⟨rfl, hx6⟩
    have q1 : (h1 == h1) = true := by simp
    have q2 : (h2 == h2) = true := by simp
    have q3 : (h3 == h3) = true := by simp
    have q4 : (h4 == h4) = true := by simp
    go_wp2_with fail
    go_ret
    exact ⟨rfl, HX2.out.trans (((hx3.trans hx4).trans hx5).trans hx6)⟩
  · clear hxn hty
    go_enter Try.func5, Try.ntmps5
    go_wp2_with (go_at_call 11; refine (awake_any _).mono ?_; rintro e w1 ⟨rfl, hx1⟩)
    go_ret
    exact ⟨rfl, ((Ext.refl w).alloc _).trans hx1⟩
theorem GpsAt.parts {w : World} {v : Value} {gs : List Gp} (h : GpsAt w v gs) : ∃ A cap, v = .slice A gs.length cap ∧ (0 < gs.length → ∃ g, A = some ⟨g, 0, none⟩ ∧ ∀ i e, gs[i]? = some e → ∀ j u, e.cs[j]? = some u → w.cell? ⟨g, i * 4 + j, none⟩ = some u) := by
  rcases h with ⟨rfl, rfl⟩ | ⟨g, cap, hv, hc⟩
  · exact ⟨none, 0, rfl, fun h => absurd h (by simp)⟩
  · exact ⟨_, cap, hv, fun _ => ⟨g, rfl, hc⟩⟩
theorem cells4 {w : World} {g o : Nat} {e : Gp} (h : ∀ j u, e.cs[j]? = some u → w.cell? ⟨g, o + j, none⟩ = some u) : w.cell? ⟨g, o, none⟩ = some (.string e.nd) ∧ w.cell? ⟨g, o + 1, none⟩ = some (.int .i64 e.bt) ∧ w.cell? ⟨g, o + 2, none⟩ = some (.int .i64 e.fr) ∧ w.cell? ⟨g, o + 3, none⟩ = some (.int .i64 e.to_) :=
  ⟨h 0 _ rfl, h 1 _ rfl, h 2 _ rfl, h 3 _ rfl⟩
set_option maxRecDepth 100000 in
set_option maxHeartbeats 1000000 in
theorem gaps_law {v : Value} {es : List Ent} (w : World) (h : EnsArg w v es) (hty : ∀ x ∈ es, x.typed) :
    Calls Try.prog 4 #[v] w fun e w' => e = .returned (.bool true) ∧ Ext w w' := by
  have HE := Lib.hid h
  obtain ⟨A, cap, rfl, -⟩ := h
  obtain ⟨n, hxn⟩ : ∃ n, es.length = n := ⟨_, rfl⟩
  rw [hxn] at HE ⊢
  by_cases hn : n ≤ 60
  · have HF := Lib.hid (fun W (hW : Ext w W) => filled_any (HE.out.ext hW) (by omega) hty)
    clear hxn hty
    go_enter Try.func4, Try.ntmps4
    go_upto_region 4 with (first
      | (go_at_call 11; refine (awake_any _).mono ?_; rintro e w1 ⟨rfl, hx1⟩)
      | (go_at_call 12; refine (HF.out _ hx1).mono ?_; rintro e w2 ⟨hx2, u2, L, rfl, hS, hu, hL, hlen⟩))
    obtain ⟨q, hq⟩ : ∃ q, w1.heap.size + 1 = q := ⟨_, rfl⟩
    rw [hq] at hS ⊢
    clear hq
    have hgd := refL_good (es := es)
    have HGA : Hid (Calls Try.prog 13 #[.pointer (some ⟨q, 0, none⟩)] w2 fun e w' => ∃ u, e = .returned u ∧ GpsAt w' u (gps none (refL es)) ∧ Ext w2 w') := Lib.hid (gaps_any (by omega) hgd w2 (lists_set hL.s hL.p (by rw [← hL.p.length_eq]; omega) hS))
    have HRG : Hid (∀ W, Ext w2 W → Calls Try.prog 14 #[u2] W fun e w' => ∃ u, e = .returned u ∧ GpsAt w' u (gps none (refL es)) ∧ Ext W w') := Lib.hid (fun W hW => rgaps_any (hu.ext hW) (by omega) hgd)
    have hgl : (gps none (refL es)).length ≤ 60 := Nat.le_trans (gps_len _ _) hlen
    have HX2 := Lib.hid (hx1.trans hx2)
    obtain ⟨gs, hgs⟩ : ∃ gs, gps none (refL es) = gs := ⟨_, rfl⟩
    rw [hgs] at HGA HRG hgl
    clear hgd hS hu hL hlen HF hx1 hx2 hgs
    go_wp2_with fail
    refine HGA.out.mono ?_
    rintro e w3 ⟨x3, rfl, hg3, hx3⟩
    go_wp2_with fail
    refine (HRG.out _ hx3).mono ?_
    rintro e w4 ⟨x4, rfl, hg4, hx4⟩
    obtain ⟨A3, c3, rfl, hr3⟩ := (hg3.ext hx4).parts
    obtain ⟨A4, c4, rfl, hr4⟩ := hg4.parts
    obtain ⟨m, hm⟩ : ∃ m, gs.length = m := ⟨_, rfl⟩
    have HM := Lib.hid hm
    rw [hm] at hr3 hr4 hgl ⊢
    have HXF := Lib.hid ((HX2.out.trans hx3).trans hx4)
    have hne : ((m : Int) == (m : Int)) = true := by simp
    clear hm hg3 hg4 hx3 hx4
    go_wp2_with fail
    go_loopw [38] (fun i wr => ∃ k : Nat, k ≤ m ∧ i = .int .i64 k ∧ Ext w4 wr) (fun i _ => m - (intOf i).toNat)
    case atStart => exact ⟨0, by omega, rfl, Ext.refl w4⟩
    case round =>
      obtain ⟨k, hk, rfl, hX⟩ := hrel
      by_cases hlt : k < m
      · obtain ⟨g, rfl, hg⟩ := hr3 (by omega)
        obtain ⟨g', rfl, hg'⟩ := hr4 (by omega)
        obtain ⟨x, hx⟩ : ∃ x, gs[k]? = some x := ⟨gs[k]'(by rw [HM.out]; exact hlt), by simp⟩
        have hki : (k : Int) < (m : Int) := by omega
        have hk6 : (k : Int) < 61 := by omega
        have a := fun q => cells4 (w := wr.drewN q) (fun j u hj => ((hX.drewN q).cell (hg k x hx j u hj)))
        have b := fun q => cells4 (w := wr.drewN q) (fun j u hj => ((hX.drewN q).cell (hg' k x hx j u hj)))
        have a0 := fun q => (a q).1
        have a1 := fun q => (a q).2.1
        have a2 := fun q => (a q).2.2.1
        have a3 := fun q => (a q).2.2.2
        have b0 := fun q => (b q).1
        have b1 := fun q => (b q).2.1
        have b2 := fun q => (b q).2.2.1
        have b3 := fun q => (b q).2.2.2
        clear a b hr3 hr4 hg hg' hx
        go_upto_region 10 with fail
        refine wp_region_quiet_lit (by kernel_rfl) (by kernel_rfl) ?_
        repeat (go_big_quiet_step (fail))
        refine wpQuiet_nil ?_
        rintro _ ⟨nq, rfl⟩
        go_wp2_with fail
        go_roundw
        case rel => exact ⟨k + 1, by omega, by go_num, hX.drewN _⟩
        case measure => simp [intOf]; omega
      · obtain rfl : k = m := by omega
        go_wp2_with fail
        go_ret
        exact ⟨rfl, HXF.out.trans hX⟩
  · clear hxn hty
    go_enter Try.func4, Try.ntmps4
    go_wp2_with (go_at_call 11; refine (awake_any _).mono ?_; rintro e w1 ⟨rfl, hx1⟩)
    go_ret
    exact ⟨rfl, hx1⟩
end Go.Proofs.Ytjdbhemojopnlaa
