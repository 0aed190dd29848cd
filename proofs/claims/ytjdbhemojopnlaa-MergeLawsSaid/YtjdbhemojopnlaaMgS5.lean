/- Chapter 52: the closure of MergeLaws. -/
import Derived.Test.YtjdbhemojopnlaaMgS4
namespace Go.Proofs.Ytjdbhemojopnlaa
open Go.RowKit Go.Maps
set_option maxRecDepth 100000 in
set_option maxHeartbeats 4000000 in
theorem made_any {g : Nat → List Ent} (lb kb : Nat) (ks : List Nat) (w : World) (hL : Lists3 w lb g) (hk3 : ∀ k ∈ ks, k < 3) (hkn : ks.length ≤ 10) (hka : ∀ (i k : Nat), ks[i]? = some k → w.cell? ⟨kb, i, none⟩ = some (.int .i64 k)) :
    Calls Try.prog 26 #[.slice (some ⟨kb, 0, none⟩) ks.length ks.length, .pointer (some ⟨lb, 0, none⟩)] w fun e w' => ∃ q b C gd, e = .returned (.tuple #[.pointer (some ⟨q, 0, none⟩), .bool gd]) ∧ w.heap.size ≤ b ∧ w.heap.size ≤ q ∧ MdAt w w' g ks q b ks.length gd C := by
  obtain ⟨n, hn⟩ : ∃ n, ks.length = n := ⟨_, rfl⟩
  have HN := Lib.hid hn
  have HKA := Lib.hid hka
  have HK3 := Lib.hid hk3
  have HL := Lib.hid hL
  rw [hn] at hkn ⊢
  clear hn hka hk3 hL
  go_enter Try.func26, Try.ntmps26
  obtain ⟨q, hq⟩ : ∃ q, w.heap.size + 1 = q := ⟨_, rfl⟩
  obtain ⟨b, hb⟩ : ∃ b, w.heap.size = b := ⟨_, rfl⟩
  have HNEW : Hid (Calls Try.prog 18 #[] w fun e w' => e = .returned (.pointer (some ⟨q, 0, none⟩)) ∧ Ext w w' ∧ SetAt w' q b []) := Lib.hid (by rw [← hq, ← hb]; exact new_set w)
  have HB := Lib.hid (show w.heap.size ≤ b ∧ w.heap.size ≤ q by omega)
  clear hq hb
  go_wp2_with (go_at_call 18; refine HNEW.out.mono ?_; rintro e w1 ⟨rfl, hx1, hS1⟩)
  have H0 : Hid (MdAt w w1 g ks q b 0 true []) := Lib.hid ⟨hx1, hS1, by simp, by simp, by simp [uni], fun _ => rfl⟩
  clear hx1 hS1 HNEW
  go_loopw [6, 17] (fun gv i wr => ∃ (j : Nat) (gd : Bool) (C : List Ent), j ≤ n ∧ gv = .bool gd ∧ i = .int .i64 j ∧ Hid (MdAt w wr g ks q b j gd C)) (fun _ i _ => n - (intOf i).toNat)
  case atStart => exact ⟨0, true, [], by omega, rfl, rfl, H0⟩
  case round =>
    obtain ⟨j, gd, C, hj, rfl, rfl, HM⟩ := hrel
    by_cases hlt : j < n
    · obtain ⟨k, hk⟩ : ∃ k, ks[j]? = some k := ⟨ks[j]'(by rw [HN.out]; exact hlt), by simp⟩
      have hki : (j : Int) < (n : Int) := by omega
      have hk6 : (j : Int) < 11 := by omega
      have hk3 : k < 3 := HK3.out k (List.mem_of_getElem? hk)
      have hkc := HM.out.x.cell (HKA.out j k hk)
      have HK := Lib.hid hk
      clear hk
      go_upto_region 6 with fail
      obtain ⟨qs, hqs⟩ : ∃ q, wr.heap.size + 1 = q := ⟨_, rfl⟩
      obtain ⟨bs, hbs⟩ : ∃ b, wr.heap.size = b := ⟨_, rfl⟩
      have HNEW : Hid (Calls Try.prog 18 #[] wr fun e w' => e = .returned (.pointer (some ⟨qs, 0, none⟩)) ∧ Ext wr w' ∧ SetAt w' qs bs []) := Lib.hid (by rw [← hqs, ← hbs]; exact new_set wr)
      have HD : Hid (w.heap.size ≤ bs ∧ q ≠ bs ∧ b ≠ bs) := Lib.hid (by
        have h1 := wf_of_new HM.out.c
        have h2 := HM.out.x.size
        omega)
      clear hqs hbs
      obtain ⟨v, hv, hva⟩ := HL.out.at_ k hk3
      obtain ⟨A, cap, rfl, hr⟩ := hva
      have hl30 := HL.out.len k hk3
      obtain ⟨p, hp⟩ : ∃ p, (g k).length = p := ⟨_, rfl⟩
      have HP := Lib.hid hp
      rw [hp] at hl30 hr hv
      clear hp
      go_upto_region 7 with (go_at_call 18; refine HNEW.out.mono ?_; rintro e w2 ⟨rfl, hx2, hS2⟩)
      have hvc := (HM.out.x.trans hx2).cell hv
      have H2 : Hid (MeAt w w2 g ks q b j gd C k qs bs 0 []) := Lib.hid ⟨⟨HM.out.x.trans hx2, HM.out.c.ext hx2, HM.out.n, HM.out.s, HM.out.f, HM.out.co⟩, hS2, by simp, by simp, by simp⟩
      clear hx2 hS2 HNEW hv
      have hk3' : (k : Int) < 3 := by omega
      go_wp2_with fail
      generalize wr = wo at *
      go_loopw [6, 26] (fun gv i wr => ∃ (l : Nat) (gd : Bool) (S : List Ent), l ≤ p ∧ gv = .bool gd ∧ i = .int .i64 l ∧ Hid (MeAt w wr g ks q b j gd C k qs bs l S)) (fun _ i _ => p - (intOf i).toNat)
      case atStart => exact ⟨0, gd, [], by omega, rfl, rfl, H2⟩
      case round =>
        obtain ⟨l, gd, S, hl, rfl, rfl, HE⟩ := hrel
        by_cases hlt : l < p
        · obtain ⟨ad, rfl, hg⟩ := hr (by omega)
          obtain ⟨x, hx⟩ : ∃ x, (g k)[l]? = some x := ⟨(g k)[l]'(by rw [HP.out]; exact hlt), by simp⟩
          have hki : (l : Int) < (p : Int) := by omega
          have hk6 : (l : Int) < 31 := by omega
          have HXM := Lib.hid (And.intro hx (HL.out.ty k hk3 x (List.mem_of_getElem? hx)))
          obtain ⟨a0, a1, a2, a3, a4, a5, a6⟩ := (hg l x hx).ext HE.out.m.x
          clear hg hx hr
          go_upto_region 10 with fail
          obtain ⟨wa, hwa⟩ : ∃ wa, wa = wr.alloc (.cells x.cs.toArray 41) := ⟨_, rfl⟩
          have XA : Ext wr wa := by rw [hwa]; exact (Ext.refl wr).alloc _
          have HT : Hid (RowB wa wr.heap.size 41 x.cs) := Lib.hid (by rw [hwa]; exact row_laid _ _ _)
          simp only [Ent.cs] at hwa
          rw [← hwa]
          clear hwa a0 a1 a2 a3 a4 a5 a6
          obtain ⟨t0, t1, t2, t3, t4, t5, t6⟩ := ent_cells HT.out
          have HPU : Hid (Calls Try.prog 19 #[.pointer (some ⟨qs, 0, none⟩), .agg #[.string x.nd, .int .i64 x.bt, .int .i64 x.sq, .int .i64 x.tn, .int .i64 x.ht, .int .i64 x.by_, .int .i64 x.at_]] wa fun e w' => ∃ is bad gd', e = .returned (.tuple #[.bool is, bad]) ∧ ((bad = .nilIface ∧ gd' = gd) ∨ (∃ k, bad = errV k) ∧ gd' = false) ∧ MeAt w w' g ks q b j gd' C k qs bs (l + 1) (putL S x)) := Lib.hid ((HE.out.ext XA).put HD.out.1 HD.out.2.1 HD.out.2.2 (List.mem_of_getElem? HK.out) HXM.out.1 HXM.out.2)
          clear XA
          go_upto_region 11 with (go_at_call 19; refine HPU.out.mono ?_; rintro e w3 ⟨is, bad, gd', rfl, hcase, hE3⟩)
          rcases hcase with ⟨rfl, rfl⟩ | ⟨⟨kk, rfl⟩, rfl⟩
          · go_wp2_with fail
            go_roundw
            case rel => exact ⟨l + 1, _, putL S x, by omega, rfl, by go_num, Lib.hid hE3⟩
            case measure => simp [intOf]; omega
          · go_wp2_with fail
            go_roundw
            case rel => exact ⟨l + 1, _, putL S x, by omega, rfl, by go_num, Lib.hid hE3⟩
            case measure => simp [intOf]; omega
        · obtain rfl : l = p := by omega
          have HJ : Hid (Calls Try.prog 21 #[.pointer (some ⟨q, 0, none⟩), .pointer (some ⟨qs, 0, none⟩)] wr fun e w' => ∃ bad gd' C', e = .returned bad ∧ ((bad = .nilIface ∧ gd' = gd) ∨ (bad = errV 20 ∧ gd' = false)) ∧ MdAt w w' g ks q b (j + 1) gd' C') := Lib.hid (HE.out.join HB.out.1 HK.out HP.out.symm (HL.out.len k hk3))
          go_upto_region 14 with fail
          go_wp2_with (go_at_call 21; refine HJ.out.mono ?_; rintro e w3 ⟨bad, gd', C', rfl, hcase, hM3⟩; rcases hcase with ⟨rfl, rfl⟩ | ⟨rfl, rfl⟩)
          · go_roundw
            case rel => exact ⟨j + 1, _, C', by omega, rfl, by go_num, Lib.hid hM3⟩
            case measure => simp [intOf]; omega
          · go_roundw
            case rel => exact ⟨j + 1, _, C', by omega, rfl, by go_num, Lib.hid hM3⟩
            case measure => simp [intOf]; omega
    · obtain rfl : j = n := by omega
      go_wp2_with fail
      go_ret2
      exact ⟨q, b, C, gd, rfl, HB.out.1, HB.out.2, HM.out⟩
end Go.Proofs.Ytjdbhemojopnlaa
