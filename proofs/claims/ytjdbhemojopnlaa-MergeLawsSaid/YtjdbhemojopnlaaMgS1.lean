/- Chapter 52: the law Same. -/
import Derived.Test.YtjdbhemojopnlaaMgZ
namespace Go.Proofs.Ytjdbhemojopnlaa
open Go.RowKit Go.Maps
set_option maxRecDepth 100000 in
theorem join_none (v : Value) (w : World) : Calls Try.prog 21 #[.pointer none, v] w fun e w' => e = .returned (errV 3) ∧ w = w' := by
  go_enter Try.func21, Try.ntmps21
  go_wp2_with fail
  go_ret
  exact ⟨rfl, rfl⟩
set_option maxRecDepth 100000 in
theorem join_nil (q : Nat) (w : World) : Calls Try.prog 21 #[.pointer (some ⟨q, 0, none⟩), .pointer none] w fun e w' => e = .returned .nilIface ∧ w = w' := by
  go_enter Try.func21, Try.ntmps21
  go_wp2_with fail
  go_ret
  exact ⟨rfl, rfl⟩
set_option maxRecDepth 100000 in
set_option maxHeartbeats 4000000 in
theorem same_law {v v' : Value} {es fs : List Ent} (x : Ent) (w : World) (h : EnsArg w v es) (hty : ∀ x ∈ es, x.typed) (h' : EnsArg w v' fs) (hty' : ∀ x ∈ fs, x.typed) :
    Calls Try.prog 10 #[v, v', x.v] w fun e w' => e = .returned (.bool true) ∧ Ext w w' := by
  have HE := Lib.hid h
  have HE' := Lib.hid h'
  obtain ⟨A, cap, rfl, -⟩ := h
  obtain ⟨A', cap', rfl, -⟩ := h'
  obtain ⟨n, hxn⟩ : ∃ n, es.length = n := ⟨_, rfl⟩
  obtain ⟨n', hxn'⟩ : ∃ n', fs.length = n' := ⟨_, rfl⟩
  rw [hxn] at HE ⊢
  rw [hxn'] at HE' ⊢
  dsimp only [Ent.v]
  by_cases hn : n ≤ 60
  · by_cases hn' : n' ≤ 60
    · have HF := Lib.hid (fun W (hW : Ext w W) => filled_any (HE.out.ext hW) (by omega) hty)
      have HF' := Lib.hid (fun W (hW : Ext w W) => filled_any (HE'.out.ext hW) (by omega) hty')
      clear hxn hxn' hty hty'
      go_enter Try.func10, Try.ntmps10
      obtain ⟨w0, hw0⟩ : ∃ w0, w0 = w.alloc (.cells x.cs.toArray 41) := ⟨_, rfl⟩
      have X0 : Ext w w0 := by rw [hw0]; exact (Ext.refl w).alloc _
      have HT : Hid (RowB w0 w.heap.size 41 x.cs) := Lib.hid (by rw [hw0]; exact row_laid _ _ _)
      go_upto_region 1 with fail
      simp only [Ent.cs] at hw0
      rw [← hw0]
      clear hw0
      obtain ⟨te, hte⟩ : ∃ t, w.heap.size = t := ⟨_, rfl⟩
      have HTE : Hid (RowB w0 te 41 x.cs) := Lib.hid (by rw [← hte]; exact HT.out)
      have HWT := Lib.hid hte
      clear HT
      rw [hte]
      go_upto_region 4 with (first
        | (go_at_call 11; refine (awake_any _).mono ?_; rintro e w1 ⟨rfl, hx01⟩; have hx1 := X0.trans hx01)
        | (go_at_call 12; refine (HF.out _ hx1).mono ?_; rintro e w2 ⟨hx2, u2, L, rfl, hS, hu, hL, hlen⟩))
      obtain ⟨q, hq⟩ : ∃ q, w1.heap.size + 1 = q := ⟨_, rfl⟩
      obtain ⟨b, hb⟩ : ∃ b, w1.heap.size = b := ⟨_, rfl⟩
      have HX01 := Lib.hid hx01
      have HW1 : Hid (w.heap.size ≤ b) := Lib.hid (by have := hx1.size; omega)
      have HQB : Hid (b < w2.heap.size ∧ q < w2.heap.size) := Lib.hid (by
        have h1 := (Array.getElem?_eq_some_iff.1 hS.hb).1
        have h2 := World.block_lt_of_cell? w2 _ hS.c
        simp only at h2
        omega)
      rw [hq, hb] at hS
      rw [hq]
      clear hq hb
      have HX2 := Lib.hid (hx1.trans hx2)
      go_upto_region 5 with (go_at_call 12; refine (HF'.out _ HX2.out).mono ?_; rintro e w3 ⟨hx3, u3, M, rfl, hS', hu', hM, hlen'⟩)
      obtain ⟨q', hq'⟩ : ∃ q, w2.heap.size + 1 = q := ⟨_, rfl⟩
      obtain ⟨b', hb'⟩ : ∃ b, w2.heap.size = b := ⟨_, rfl⟩
      have hbb : b ≠ b' := by have := HQB.out.1; omega
      have hqb : q' ≠ b := by have := HQB.out.1; omega
      rw [hq', hb'] at hS'
      rw [hq']
      have HTQ : Hid (Ext w0 w3) := Lib.hid ((HX01.out.trans hx2).trans hx3)
      clear hq' hb' hx1 hx2
      have HS3 := Lib.hid (And.intro (hS.ext hx3) hS')
      have HU3 := Lib.hid (And.intro (hu.ext hx3) hu')
      have HLM := Lib.hid (And.intro (And.intro hL hlen) (And.intro hM hlen'))
      have HX3 := Lib.hid (HX2.out.trans hx3)
      obtain ⟨r, hr⟩ : ∃ r, refL es = r := ⟨_, rfl⟩
      obtain ⟨t, ht⟩ : ∃ t, refL fs = t := ⟨_, rfl⟩
      rw [hr, ht] at HU3 HLM
      have hrl : r.length ≤ 60 := HLM.out.1.2
      have htl : t.length ≤ 60 := HLM.out.2.2
      obtain ⟨d, hd⟩ : ∃ d, decide (r = t) = d := ⟨_, rfl⟩
      have HLA : Hid (∀ Z, Ext w3 Z → ListsTo Z (.pointer (some ⟨q, 0, none⟩)) r) := Lib.hid (fun Z hZ => lists_set HLM.out.1.1.s HLM.out.1.1.p (by rw [← HLM.out.1.1.p.length_eq]; omega) (HS3.out.1.ext hZ))
      have HLB : Hid (∀ Z, Ext w3 Z → ListsTo Z (.pointer (some ⟨q', 0, none⟩)) t) := Lib.hid (fun Z hZ => lists_set HLM.out.2.1.s HLM.out.2.1.p (by rw [← HLM.out.2.1.p.length_eq]; omega) (HS3.out.2.ext hZ))
      have HSM : Hid (Calls Try.prog 25 #[.pointer (some ⟨q, 0, none⟩), .pointer (some ⟨q', 0, none⟩)] w3 fun e w' => e = .returned (.bool d) ∧ Ext w3 w') := Lib.hid (by rw [← hd]; exact sets_same (HLA.out w3 (Ext.refl _)) (HLB.out w3 (Ext.refl _)) (by omega))
      have HSR : Hid (∀ Z, Ext w3 Z → Calls Try.prog 24 #[u2, u3] Z fun e w' => e = .returned (.bool d) ∧ Ext Z w') := Lib.hid (fun Z hZ => by rw [← hd]; exact same_any (HU3.out.1.ext hZ) (HU3.out.2.ext hZ) (by omega))
      have HSN : Hid (∀ Z, Ext w3 Z → Calls Try.prog 25 #[.pointer none, .pointer (some ⟨q, 0, none⟩)] Z fun e w' => e = .returned (.bool (decide (([] : List Ent) = r))) ∧ Ext Z w') := Lib.hid (fun Z hZ => sets_same (lists_none Z) (HLA.out Z hZ) (by simp))
      have HTN : Hid (∀ Z (tn : Int), Calls Try.prog 15 #[.pointer none, .int .i64 tn] Z fun e w' => e = .returned (.tuple #[.int .i64 0, .int .i64 0]) ∧ Ext Z w') := Lib.hid (fun Z tn => total_any (r := []) (by simp) (by simp) tn Z (lists_none Z))
      have HGN : Hid (∀ Z, Calls Try.prog 13 #[.pointer none] Z fun e w' => (∃ A cap, e = .returned (.slice A 0 cap)) ∧ Ext Z w') := Lib.hid (fun Z => (gaps_any (r := []) (by simp) (by simp) Z (lists_none Z)).mono (by
        rintro e w' ⟨u, rfl, hu, hx⟩
        obtain ⟨A, cap, rfl⟩ := hu.len
        exact ⟨⟨A, cap, rfl⟩, hx⟩))
      obtain ⟨Ar, cr, hur, -⟩ := HU3.out.1.parts
      obtain ⟨m, hm⟩ : ∃ m, r.length = m := ⟨_, rfl⟩
      obtain ⟨c, hc1, hc2⟩ : ∃ c, decide (([] : List Ent) = r) = c ∧ ((m : Int) == 0) = c := by
        cases r with
        | nil => exact ⟨true, by simp, by rw [← hm]; rfl⟩
        | cons y r => exact ⟨false, by simp, by rw [← hm]; simp; omega⟩
      rw [hc1] at HSN
      have HRM := Lib.hid (And.intro hm hur)
      have HRL := Lib.hid hrl
      subst hur
      rw [hm] at HSR HRM HU3 ⊢
      clear hS hu hL hlen hS' hu' hM hlen' hx3 hbb hqb hr ht hd hm hc1 hrl htl
      have q1 : (d == d) = true := by simp
      go_wp2_with fail
      refine HSM.out.mono ?_
      rintro e w4 ⟨rfl, hx4⟩
      go_wp2_with fail
      refine (HSR.out _ hx4).mono ?_
      rintro e w5 ⟨rfl, hx5⟩
      have HX5 := Lib.hid (hx4.trans hx5)
      clear hx4 hx5
      obtain ⟨t0, t1, t2, t3, t4, t5, t6⟩ := ent_cells (HTE.out.ext (HTQ.out.trans HX5.out))
      go_upto_region 8 with fail
      go_wp2_with fail
      refine (put_none x w5).mono ?_
      rintro e w6 ⟨rfl, hx6⟩
      clear t0 t1 t2 t3 t4 t5 t6
      obtain ⟨t0, t1, t2, t3, t4, t5, t6⟩ := ent_cells (HTE.out.ext (HTQ.out.trans (HX5.out.trans hx6)))
      go_wp2_with fail
      refine (HTN.out w6 x.tn).mono ?_
      rintro e w7 ⟨rfl, hx7⟩
      have HX7 := Lib.hid ((HX5.out.trans hx6).trans hx7)
      clear hx6 hx7 t0 t1 t2 t3 t4 t5 t6
      go_upto_region 10 with fail
      go_wp2_with fail
      refine (is_err 3 _ (by decide)).mono ?_
      rintro e w8 ⟨rfl, rfl⟩
      go_wp2_with fail
      refine (join_none _ _).mono ?_
      rintro e w8 ⟨rfl, rfl⟩
      go_wp2_with fail
      refine (is_err 3 _ (by decide)).mono ?_
      rintro e w8 ⟨rfl, rfl⟩
      go_wp2_with fail
      refine (list_none _).mono ?_
      rintro e w8 ⟨rfl, rfl⟩
      go_wp2_with fail
      refine (HGN.out w7).mono ?_
      rintro e w8 ⟨⟨A8, c8, rfl⟩, hx8⟩
      go_wp2_with fail
      refine (HSN.out w8 (HX7.out.trans hx8)).mono ?_
      rintro e w9 ⟨rfl, hx9⟩
      have HX9 := Lib.hid ((HX7.out.trans hx8).trans hx9)
      clear hx8 hx9
      have q2 : (c == c) = true := by simp
      go_wp2_with fail
      refine (join_nil q w9).mono ?_
      rintro e wx ⟨rfl, rfl⟩
      go_wp2_with fail
      refine (HLA.out w9 HX9.out w9 (Ext.refl _)).mono ?_
      rintro e w10 ⟨u10, rfl, hu10, hx10, -⟩
      go_wp2_with fail
      refine (same_any hu10 (HU3.out.1.ext (HX9.out.trans hx10)) (by have := HRL.out; omega)).mono ?_
      rintro e w11 ⟨rfl, hx11⟩
      rw [decide_eq_true rfl]
      go_wp2_with fail
      go_ret
      exact ⟨rfl, HX3.out.trans ((HX9.out.trans hx10).trans hx11)⟩
    · clear hxn hxn' hty hty'
      go_enter Try.func10, Try.ntmps10
      go_wp2_with (go_at_call 11; refine (awake_any _).mono ?_; rintro e w1 ⟨rfl, hx1⟩)
      go_ret
      exact ⟨rfl, ((Ext.refl w).alloc _).trans hx1⟩
  · clear hxn hxn' hty hty'
    go_enter Try.func10, Try.ntmps10
    go_wp2_with (go_at_call 11; refine (awake_any _).mono ?_; rintro e w1 ⟨rfl, hx1⟩)
    go_ret
    exact ⟨rfl, ((Ext.refl w).alloc _).trans hx1⟩
end Go.Proofs.Ytjdbhemojopnlaa
