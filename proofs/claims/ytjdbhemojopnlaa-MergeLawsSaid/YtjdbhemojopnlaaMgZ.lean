/- Chapter 52: the law Joins. -/
import Derived.Test.YtjdbhemojopnlaaMgY
import Derived.Test.YtjdbhemojopnlaaMgW
namespace Go.Proofs.Ytjdbhemojopnlaa
open Go.RowKit Go.Maps
theorem keys_nodup {L : List Ent} (h : L.Pairwise fun a b => a.key ≠ b.key) : L.Nodup := h.imp fun h e => h (by rw [e])
theorem tied_of_mem {r C : List Ent} (hs : r.Pairwise ltE) (hd : C.Pairwise fun a b => a.key ≠ b.key) (hm : ∀ x, x ∈ r ↔ x ∈ C) : Tied C r :=
  ⟨(List.perm_ext_iff_of_nodup (keys_nodup (hs.imp fun h => ltE_key h)) (keys_nodup hd)).2 hm, hs⟩
/-- the reference's union after some of the other's entries -/
structure UnAt (r t W : List Ent) (mx : Bool) : Prop where
  s : W.Pairwise ltE
  mem : ∀ z, z ∈ W ↔ z ∈ r ∨ (z ∈ t ∧ ∀ y ∈ r, y.key ≠ z.key)
  mx : mx = true ↔ ∃ x ∈ t, ∃ y ∈ r, y.key = x.key ∧ y ≠ x
theorem UnAt.start {r : List Ent} (h : r.Pairwise ltE) : UnAt r [] r false := ⟨h, by simp, by simp⟩
theorem UnAt.there {r t W : List Ent} {mx : Bool} (h : UnAt r t W mx) {x y : Ent} (hx : ∀ z ∈ t, z.key ≠ x.key) (hy : y ∈ W) (hk : y.key = x.key) : UnAt r (t ++ [x]) W (mx || !decide (y = x)) := by
  have hyr : y ∈ r := by
    rcases (h.mem y).1 hy with h1 | ⟨h1, _⟩
    · exact h1
    · exact absurd hk (hx y h1)
  refine ⟨h.s, fun z => ?_, ?_⟩
  · rw [h.mem z]
    constructor
    · rintro (h1 | ⟨h1, h2⟩)
      · exact .inl h1
      · exact .inr ⟨by simp [h1], h2⟩
    · rintro (h1 | ⟨h1, h2⟩)
      · exact .inl h1
      · rcases List.mem_append.1 h1 with h1 | h1
        · exact .inr ⟨h1, h2⟩
        · simp only [List.mem_singleton] at h1
          subst h1
          exact absurd hk (h2 y hyr)
  · rw [Bool.or_eq_true, h.mx]
    simp only [Bool.not_eq_true', decide_eq_false_iff_not]
    constructor
    · rintro (⟨a, ha, c, hc, h1, h2⟩ | h1)
      · exact ⟨a, by simp [ha], c, hc, h1, h2⟩
      · exact ⟨x, by simp, y, hyr, hk, h1⟩
    · rintro ⟨a, ha, c, hc, h1, h2⟩
      rcases List.mem_append.1 ha with ha | ha
      · exact .inl ⟨a, ha, c, hc, h1, h2⟩
      · simp only [List.mem_singleton] at ha
        subst ha
        right
        have e : y = c := sorted_key h.s hy ((h.mem c).2 (.inl hc)) (hk.trans h1.symm)
        rw [e]
        exact h2
theorem UnAt.new {r t W : List Ent} {mx : Bool} (h : UnAt r t W mx) {x : Ent} (hno : ∀ y ∈ W, y.key ≠ x.key) : UnAt r (t ++ [x]) (insE x W) mx := by
  have hnr : ∀ y ∈ r, y.key ≠ x.key := fun y hy => hno y ((h.mem y).2 (.inl hy))
  refine ⟨ins_sorted h.s hno, fun z => ?_, ?_⟩
  · rw [(ins_perm x W).mem_iff, List.mem_cons, h.mem z]
    constructor
    · rintro (rfl | h1 | ⟨h1, h2⟩)
      · exact .inr ⟨by simp, hnr⟩
      · exact .inl h1
      · exact .inr ⟨by simp [h1], h2⟩
    · rintro (h1 | ⟨h1, h2⟩)
      · exact .inr (.inl h1)
      · rcases List.mem_append.1 h1 with h1 | h1
        · exact .inr (.inr ⟨h1, h2⟩)
        · simp only [List.mem_singleton] at h1
          exact .inl h1
  · rw [h.mx]
    constructor
    · rintro ⟨a, ha, c, hc, h1, h2⟩
      exact ⟨a, by simp [ha], c, hc, h1, h2⟩
    · rintro ⟨a, ha, c, hc, h1, h2⟩
      rcases List.mem_append.1 ha with ha | ha
      · exact ⟨a, ha, c, hc, h1, h2⟩
      · simp only [List.mem_singleton] at ha
        subst ha
        exact absurd h1 (hnr c hc)
set_option maxRecDepth 100000 in
set_option maxHeartbeats 4000000 in
theorem joins_law {v v' : Value} {es fs : List Ent} (w : World) (h : EnsArg w v es) (hty : ∀ x ∈ es, x.typed) (h' : EnsArg w v' fs) (hty' : ∀ x ∈ fs, x.typed) :
    Calls Try.prog 7 #[v, v'] w fun e w' => e = .returned (.bool true) ∧ Ext w w' := by
  have HE := Lib.hid h
  have HE' := Lib.hid h'
  obtain ⟨A, cap, rfl, -⟩ := h
  obtain ⟨A', cap', rfl, -⟩ := h'
  obtain ⟨n, hxn⟩ : ∃ n, es.length = n := ⟨_, rfl⟩
  obtain ⟨n', hxn'⟩ : ∃ n', fs.length = n' := ⟨_, rfl⟩
  rw [hxn] at HE ⊢
  rw [hxn'] at HE' ⊢
  by_cases hn : n ≤ 60
  · by_cases hn' : n' ≤ 60
    · have HF := Lib.hid (fun W (hW : Ext w W) => filled_any (HE.out.ext hW) (by omega) hty)
      have HF' := Lib.hid (fun W (hW : Ext w W) => filled_any (HE'.out.ext hW) (by omega) hty')
      clear hxn hxn' hty hty'
      go_enter Try.func7, Try.ntmps7
      go_upto_region 4 with (first
        | (go_at_call 11; refine (awake_any _).mono ?_; rintro e w1 ⟨rfl, hx1⟩)
        | (go_at_call 12; refine (HF.out _ hx1).mono ?_; rintro e w2 ⟨hx2, u2, L, rfl, hS, hu, hL, hlen⟩))
      obtain ⟨q, hq⟩ : ∃ q, w1.heap.size + 1 = q := ⟨_, rfl⟩
      obtain ⟨b, hb⟩ : ∃ b, w1.heap.size = b := ⟨_, rfl⟩
      have HW1 : Hid (w.heap.size ≤ b) := Lib.hid (by have := hx1.size; omega)
      have HQB : Hid (b < w2.heap.size ∧ q < w2.heap.size) := Lib.hid (by
        have h1 := (Array.getElem?_eq_some_iff.1 hS.hb).1
        have h2 := World.block_lt_of_cell? w2 _ hS.c
        simp only at h2
        omega)
      rw [hq, hb] at hS
      rw [hq]
      clear hq hb
      have HX2 := Lib.hid (hx1.trans hx2)
      go_upto_region 7 with (go_at_call 12; refine (HF'.out _ HX2.out).mono ?_; rintro e w3 ⟨hx3, u3, M, rfl, hS', hu', hM, hlen'⟩)
      obtain ⟨q', hq'⟩ : ∃ q, w2.heap.size + 1 = q := ⟨_, rfl⟩
      obtain ⟨b', hb'⟩ : ∃ b, w2.heap.size = b := ⟨_, rfl⟩
      have hbb : b ≠ b' := by have := HQB.out.1; omega
      have hqb : q' ≠ b := by have := HQB.out.1; omega
      rw [hq', hb'] at hS'
      rw [hq']
      clear hq' hb' hx1 hx2
      have HS3 := Lib.hid (And.intro (hS.ext hx3) hS')
      have HU3 := Lib.hid (And.intro (hu.ext hx3) hu')
      have HLM := Lib.hid (And.intro (And.intro hL hlen) (And.intro hM hlen'))
      have HX3 := Lib.hid (HX2.out.trans hx3)
      obtain ⟨r, hr⟩ : ∃ r, refL es = r := ⟨_, rfl⟩
      obtain ⟨t, ht⟩ : ∃ t, refL fs = t := ⟨_, rfl⟩
      rw [hr, ht] at HU3 HLM
      have HJ : Hid (Calls Try.prog 21 #[.pointer (some ⟨q, 0, none⟩), .pointer (some ⟨q', 0, none⟩)] w3 fun e w' => ∃ ev C, e = .returned ev ∧ Ext w w' ∧ SetAt w' q b C ∧ SetAt w' q' b' M ∧ EnsAt w' u2 r ∧ EnsAt w' u3 t ∧ ((¬ Fits L M ∧ ev = errV 20 ∧ C = L) ∨ (Fits L M ∧ ev = .nilIface ∧ ∀ x, x ∈ C ↔ x ∈ L ∨ x ∈ M))) := Lib.hid ((join_any q b q' b' L M w3 HS3.out.1 HS3.out.2).mono (by
        rintro e w' (⟨hf, rfl, hx⟩ | ⟨hf, rfl, hg, C, hC, hm⟩)
        · exact ⟨_, L, rfl, HX3.out.trans hx, HS3.out.1.ext hx, HS3.out.2.ext hx, HU3.out.1.ext hx, HU3.out.2.ext hx, .inl ⟨hf, rfl, rfl⟩⟩
        · exact ⟨_, C, rfl, HX3.out.grownB hg HW1.out, hC, HS3.out.2.kept hg (by simpa using hqb) (by simpa using hbb.symm), HU3.out.1.kept HS3.out.1.hb hg, HU3.out.2.kept HS3.out.1.hb hg, .inr ⟨hf, rfl, hm⟩⟩))
      clear hS hu hL hlen hS' hu' hM hlen' hx3 hbb hqb hr ht
      go_wp2_with fail
      refine HJ.out.mono ?_
      rintro e w4 ⟨ev, C, rfl, hx4, hC4, hM4, hr4, ht4, hcase⟩
      have HC4 := Lib.hid (And.intro hx4 (And.intro hC4 (And.intro hM4 (And.intro hr4 (And.intro ht4 hcase)))))
      obtain ⟨A4, c4, rfl, hrd⟩ := ht4.parts
      obtain ⟨m, hm⟩ : ∃ m, t.length = m := ⟨_, rfl⟩
      have HM := Lib.hid hm
      rw [hm] at hrd ⊢
      have hm60 : m ≤ 60 := by rw [← hm]; exact HLM.out.2.2
      clear hx4 hC4 hM4 hr4 ht4 hcase hm
      go_upto_region 8 with fail
      go_wp2_with fail
      go_loopw [12, 13, 56] (fun wv mv i wr => ∃ (k : Nat) (W : List Ent) (mx : Bool), k ≤ m ∧ i = .int .i64 k ∧ mv = .bool mx ∧ Hid (Ext w4 wr ∧ EnsAt wr wv W ∧ UnAt r (t.take k) W mx ∧ W.length ≤ 60 + k)) (fun _ _ i _ => m - (intOf i).toNat)
      case atStart => exact ⟨0, r, false, by omega, rfl, rfl, Lib.hid ⟨Ext.refl _, HC4.out.2.2.2.1, UnAt.start HLM.out.1.1.s, by have := HLM.out.1.2; omega⟩⟩
      case round =>
        obtain ⟨k, W, mx, hk, rfl, rfl, HR⟩ := hrel
        by_cases hlt : k < m
        · obtain ⟨g, off, rfl, hg⟩ := hrd (by omega)
          obtain ⟨x, hx⟩ : ∃ x, t[k]? = some x := ⟨t[k]'(by rw [HM.out]; exact hlt), by simp⟩
          have hki : (k : Int) < (m : Int) := by omega
          have hk6 : (k : Int) < 61 := by omega
          have HTK : Hid (t.take (k + 1) = t.take k ++ [x]) := Lib.hid (by rw [List.take_add_one, hx]; rfl)
          have HNK : Hid (∀ z ∈ t.take k, z.key ≠ x.key) := Lib.hid (by
            have hp : (t.take k ++ [x]).Pairwise ltE := by rw [← HTK.out]; exact HLM.out.2.1.s.sublist (List.take_sublist _ _)
            exact fun z hz => ltE_key ((List.pairwise_append.1 hp).2.2 z hz x (by simp)))
          obtain ⟨a0, a1, a2, a3, a4, a5, a6⟩ := cells7 (w := wr) (fun j u hj => HR.out.1.cell (hg k x hx j u hj))
          clear hg hx hrd
          go_upto_region 12 with fail
          obtain ⟨wa, hwa⟩ : ∃ wa, wa = wr.alloc (.cells x.cs.toArray 41) := ⟨_, rfl⟩
          have XA : Ext wr wa := by rw [hwa]; exact (Ext.refl wr).alloc _
          have HT : Hid (RowB wa wr.heap.size 41 x.cs) := Lib.hid (by rw [hwa]; exact row_laid _ _ _)
          simp only [Ent.cs] at hwa
          rw [← hwa]
          have HXA := Lib.hid XA
          clear hwa a0 a1 a2 a3 a4 a5 a6 XA
          obtain ⟨t0, t1, t2, t3, t4, t5, t6⟩ := ent_cells HT.out
          have hPP : ∃ (u : Value) (W' : List Ent) (fr ft : Bool), Calls Try.prog 22 #[u12, .agg #[.string x.nd, .int .i64 x.bt, .int .i64 x.sq, .int .i64 x.tn, .int .i64 x.ht, .int .i64 x.by_, .int .i64 x.at_]] wa (fun z w' => ∃ u, z = .returned (.tuple #[u, .bool fr, .bool ft]) ∧ EnsAt w' u W' ∧ Ext wa w') ∧ UnAt r (t.take (k + 1)) W' (mx || !ft) ∧ W'.length ≤ 60 + (k + 1) := by
            by_cases hy : ∃ y ∈ W, y.key = x.key
            · obtain ⟨y, hy, hkk⟩ := hy
              refine ⟨u12, W, false, decide (y = x), (rput_there (HR.out.2.1.ext HXA.out) (by have := HR.out.2.2.2; omega) HR.out.2.2.1.s hy hkk).mono ?_, by rw [HTK.out]; exact HR.out.2.2.1.there HNK.out hy hkk, by have := HR.out.2.2.2; omega⟩
              rintro z w' ⟨rfl, hxw⟩
              exact ⟨_, rfl, (HR.out.2.1.ext HXA.out).ext hxw, hxw⟩
            · have hno : ∀ y ∈ W, y.key ≠ x.key := fun y hyW hkk => hy ⟨y, hyW, hkk⟩
              refine ⟨u12, insE x W, true, true, rput_new (HR.out.2.1.ext HXA.out) (by have := HR.out.2.2.2; omega) hno, by rw [HTK.out]; simpa using HR.out.2.2.1.new hno, by rw [len_ins]; have := HR.out.2.2.2; omega⟩
          obtain ⟨-, W', fr, ft, hP, hU, hlW⟩ := hPP
          have HP := Lib.hid hP
          have HU := Lib.hid (And.intro hU hlW)
          clear hP hU hlW
          go_upto_region 13 with (go_at_call 22; refine HP.out.mono ?_; rintro e w5 ⟨u5, rfl, hu5, hx5⟩)
          cases mx with
          | true =>
            go_wp2_with fail
            go_roundw
            case rel => exact ⟨k + 1, W', true, by omega, by go_num, rfl, Lib.hid ⟨(HR.out.1.trans HXA.out).trans hx5, hu5, by simpa using HU.out.1, HU.out.2⟩⟩
            case measure => simp [intOf]; omega
          | false =>
            cases ft with
            | true =>
              go_wp2_with fail
              go_roundw
              case rel => exact ⟨k + 1, W', false, by omega, by go_num, rfl, Lib.hid ⟨(HR.out.1.trans HXA.out).trans hx5, hu5, by simpa using HU.out.1, HU.out.2⟩⟩
              case measure => simp [intOf]; omega
            | false =>
              go_wp2_with fail
              go_roundw
              case rel => exact ⟨k + 1, W', true, by omega, by go_num, rfl, Lib.hid ⟨(HR.out.1.trans HXA.out).trans hx5, hu5, by simpa using HU.out.1, HU.out.2⟩⟩
              case measure => simp [intOf]; omega
        · obtain rfl : k = m := by omega
          obtain ⟨hxr, hW, hU, hWl⟩ := HR.out
          rw [List.take_of_length_le (by have := HM.out; omega)] at hU
          obtain ⟨hx4, hC4, hM4, hr4, ht4, hcase⟩ := HC4.out
          have hTL := HLM.out.1.1
          have hTM := HLM.out.2.1
          have hfit : Fits L M ↔ mx = false := by
            have h1 := hU.mx
            constructor
            · intro hf
              cases mx with
              | false => rfl
              | true =>
                obtain ⟨x, hx, y, hy, hk, hne⟩ := h1.1 rfl
                exact absurd (hf x (hTM.mem.1 hx) y (hTL.mem.1 hy) hk) hne
            · intro hmx x hx y hy hk
              refine Classical.byContradiction fun hne => ?_
              have := h1.2 ⟨x, hTM.mem.2 hx, y, hTL.mem.2 hy, hk, hne⟩
              rw [hmx] at this
              cases this
          have HLB : Hid (∀ Z, Ext wr Z → Calls Try.prog 20 #[.pointer (some ⟨q', 0, none⟩)] Z fun e w' => ∃ u, e = .returned u ∧ EnsAt w' u t ∧ Ext Z w') := Lib.hid (fun Z hZ => (list_any q' b' M t hTM.s hTM.p (by rw [← hTM.p.length_eq]; have := HM.out; omega) Z ((hM4.ext hxr).ext hZ)).mono (fun e w' ⟨u, h1, h2, h3, _⟩ => ⟨u, h1, h2, h3⟩))
          have HTB : Hid (∀ Z, Ext wr Z → EnsAt Z (.slice A4 k c4) t) := Lib.hid (fun Z hZ => by have := (ht4.ext hxr).ext hZ; rwa [HM.out] at this)
          have hml : t.length ≤ 1000 := by have := HM.out; omega
          have HXW := Lib.hid (hx4.trans hxr)
          cases mx with
          | true =>
            have hev : ev = errV 20 ∧ C = L := by
              rcases hcase with ⟨_, h1, h2⟩ | ⟨hf, _⟩
              · exact ⟨h1, h2⟩
              · have := hfit.1 hf; cases this
            obtain ⟨rfl, rfl⟩ := hev
            have HLA : Hid (Calls Try.prog 20 #[.pointer (some ⟨q, 0, none⟩)] wr fun e w' => ∃ u, e = .returned u ∧ EnsAt w' u r ∧ Ext wr w') := Lib.hid ((list_any q b C r hTL.s hTL.p (by rw [← hTL.p.length_eq]; have := HLM.out.1.2; omega) wr (hC4.ext hxr)).mono (fun e w' ⟨u, h1, h2, h3, _⟩ => ⟨u, h1, h2, h3⟩))
            have HTA : Hid (∀ Z, Ext wr Z → EnsAt Z u2 r) := Lib.hid (fun Z hZ => (hr4.ext hxr).ext hZ)
            have hrl : r.length ≤ 1000 := by have := HLM.out.1.2; omega
            clear hxr hW hU hWl hx4 hC4 hM4 hr4 ht4 hcase hTL hTM hfit
            go_upto_region 17 with fail
            go_wp2_with (go_at_call 23; refine (is_err 20 _ (by decide)).mono ?_; rintro e w' ⟨rfl, rfl⟩)
            refine HLA.out.mono ?_
            rintro e w6 ⟨x6, rfl, h6, hx6⟩
            go_wp2_with fail
            refine (same_any h6 (HTA.out _ hx6) hrl).mono ?_
            rintro e w7 ⟨rfl, hx7⟩
            rw [decide_eq_true rfl]
            go_wp2_with fail
            refine (HLB.out _ (hx6.trans hx7)).mono ?_
            rintro e w8 ⟨x8, rfl, h8, hx8⟩
            go_wp2_with fail
            refine (same_any h8 (HTB.out _ ((hx6.trans hx7).trans hx8)) hml).mono ?_
            rintro e w9 ⟨rfl, hx9⟩
            rw [decide_eq_true rfl]
            go_wp2_with fail
            go_ret
            exact ⟨rfl, HXW.out.trans (((hx6.trans hx7).trans hx8).trans hx9)⟩
          | false =>
            have hfit' := hfit.2 rfl
            have hev : ev = .nilIface ∧ ∀ x, x ∈ C ↔ x ∈ L ∨ x ∈ M := by
              rcases hcase with ⟨h1, _⟩ | ⟨_, h1, h2⟩
              · exact absurd hfit' h1
              · exact ⟨h1, h2⟩
            obtain ⟨rfl, hmem⟩ := hev
            have hTC : Tied C W := tied_of_mem hU.s hC4.nd (fun z => by
              rw [hU.mem z, hmem z, ← hTL.mem, ← hTM.mem]
              constructor
              · rintro (h1 | ⟨h1, _⟩)
                · exact .inl h1
                · exact .inr h1
              · rintro (h1 | h1)
                · exact .inl h1
                · by_cases hz : ∃ y ∈ r, y.key = z.key
                  · obtain ⟨y, hy, hk⟩ := hz
                    have := hfit' z (hTM.mem.1 h1) y (hTL.mem.1 hy) hk
                    exact .inl (this ▸ hy)
                  · exact .inr ⟨h1, fun y hy hk => hz ⟨y, hy, hk⟩⟩)
            have HLA : Hid (Calls Try.prog 20 #[.pointer (some ⟨q, 0, none⟩)] wr fun e w' => ∃ u, e = .returned u ∧ EnsAt w' u W ∧ Ext wr w') := Lib.hid ((list_any q b C W hTC.s hTC.p (by rw [← hTC.p.length_eq]; omega) wr (hC4.ext hxr)).mono (fun e w' ⟨u, h1, h2, h3, _⟩ => ⟨u, h1, h2, h3⟩))
            have HTA : Hid (∀ Z, Ext wr Z → EnsAt Z u12 W) := Lib.hid (fun Z hZ => hW.ext hZ)
            have hrl : W.length ≤ 1000 := by omega
            clear hxr hW hU hWl hx4 hC4 hM4 hr4 ht4 hcase hTL hTM hfit hfit' hmem hTC
            go_upto_region 18 with fail
            go_wp2_with fail
            refine HLA.out.mono ?_
            rintro e w6 ⟨x6, rfl, h6, hx6⟩
            go_wp2_with fail
            refine (same_any h6 (HTA.out _ hx6) hrl).mono ?_
            rintro e w7 ⟨rfl, hx7⟩
            rw [decide_eq_true rfl]
            go_wp2_with fail
            refine (HLB.out _ (hx6.trans hx7)).mono ?_
            rintro e w8 ⟨x8, rfl, h8, hx8⟩
            go_wp2_with fail
            refine (same_any h8 (HTB.out _ ((hx6.trans hx7).trans hx8)) hml).mono ?_
            rintro e w9 ⟨rfl, hx9⟩
            rw [decide_eq_true rfl]
            go_wp2_with fail
            go_ret
            exact ⟨rfl, HXW.out.trans (((hx6.trans hx7).trans hx8).trans hx9)⟩
    · clear hxn hxn' hty hty'
      go_enter Try.func7, Try.ntmps7
      go_wp2_with (go_at_call 11; refine (awake_any _).mono ?_; rintro e w1 ⟨rfl, hx1⟩)
      go_ret
      exact ⟨rfl, hx1⟩
  · clear hxn hxn' hty hty'
    go_enter Try.func7, Try.ntmps7
    go_wp2_with (go_at_call 11; refine (awake_any _).mono ?_; rintro e w1 ⟨rfl, hx1⟩)
    go_ret
    exact ⟨rfl, hx1⟩
end Go.Proofs.Ytjdbhemojopnlaa
