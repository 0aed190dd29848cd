/- Chapter 09: the law RangesFormats. -/
import Derived.Test.YteamnofooicbeaaDoorRfC
import Derived.Test.YteamnofooicbeaaDoorRgO
namespace Go.Proofs.YteamnofooicbeaaDoor
open Go.RowKit
set_option maxRecDepth 100000 in
set_option maxHeartbeats 1000000 in
theorem are_in {w : World} {v u : Value} {xs : List (Int × Int)} (h : RAt w v xs) (k : RIn w u xs) (hn : xs.length ≤ 1000) :
    Calls Tryd.prog 16 #[v, u] w fun e w' => e = .returned (.bool true) ∧ Ext w w' := by
  obtain ⟨A, cap, rfl, hr⟩ := h.parts
  obtain ⟨A', cap', rfl, hcap', hr'⟩ := k
  clear h
  obtain ⟨n, hxn⟩ : ∃ n, xs.length = n := ⟨_, rfl⟩
  have HN := Lib.hid hxn
  rw [hxn] at hn hr hr' hcap' ⊢
  clear hxn
  have hne : ((n : Int) == (n : Int)) = true := by simp
  go_enter Tryd.func16, Tryd.ntmps16
  go_wp2_with fail
  go_loopw [13] (fun i wr => ∃ k : Nat, k ≤ n ∧ i = .int .i64 k ∧ Ext w wr) (fun i _ => n - (intOf i).toNat)
  case atStart => exact ⟨0, by omega, rfl, Ext.refl w⟩
  case round =>
    obtain ⟨k, hk, rfl, hX⟩ := hrel
    by_cases hlt : k < n
    · obtain ⟨g, rfl, hg⟩ := hr (by omega)
      obtain ⟨a, rfl, hg'⟩ := hr' (by omega)
      obtain ⟨⟨x1, x2⟩, hx⟩ : ∃ x, xs[k]? = some x := ⟨_, List.getElem?_eq_getElem (by rw [HN.out]; exact hlt)⟩
      have hki : (k : Int) < (n : Int) := by omega
      have hk6 : (k : Int) < 1001 := by omega
      have a0 := fun q => (hX.drewN q).cell (hg k _ hx).1
      have a1 := fun q => (hX.drewN q).cell (hg k _ hx).2
      have b0 := fun q => (hX.drewN q).cell (hg' k _ hx).1
      have b1 := fun q => (hX.drewN q).cell (hg' k _ hx).2
      simp only at a0 a1 b0 b1
      have h1' : (x1 != x1) = false := by simp
      have h2' : (x2 != x2) = false := by simp
      clear hr hr' hg hg' hx
      go_upto_region 6 with fail
      refine wp_region_quiet_lit (by kernel_rfl) (by kernel_rfl) ?_
      repeat (go_big_quiet_step (fail))
      refine wpQuiet_nil ?_
      rintro _ ⟨nq, rfl⟩
      go_wp2_with fail
      go_roundw
      case rel => exact ⟨k + 1, by omega, by go_num, hX.drewN _⟩
      case measure => simp [intOf]; omega
    · obtain rfl : k = n := by omega
      clear hr hr'
      go_wp2_with fail
      go_ret
      exact ⟨rfl, hX⟩
/-- the greatest To -/
def mxL (xs : List (Int × Int)) : Int := xs.foldl (fun m p => max m p.2) 0
theorem mxL_step {xs : List (Int × Int)} {k : Nat} {p : Int × Int} (h : xs[k]? = some p) : mxL (xs.take (k + 1)) = max (mxL (xs.take k)) p.2 := by
  unfold mxL
  rw [List.take_add_one, h, List.foldl_append]
  rfl
theorem fold_mx : ∀ (xs : List (Int × Int)) (m : Int), m ≤ xs.foldl (fun m p => max m p.2) m ∧ (∀ p ∈ xs, p.2 ≤ xs.foldl (fun m p => max m p.2) m) ∧ ∀ B, m ≤ B → (∀ p ∈ xs, p.2 ≤ B) → xs.foldl (fun m p => max m p.2) m ≤ B
  | [], m => ⟨Int.le_refl _, fun p hp => by (cases hp), fun _ h _ => h⟩
  | x :: r, m => by
    obtain ⟨h1, h2, h3⟩ := fold_mx r (max m x.2)
    simp only [List.foldl_cons]
    refine ⟨by omega, fun p hp => ?_, fun B hB hp => h3 B (by have := hp x (by simp); omega) (fun p h => hp p (by simp [h]))⟩
    rcases List.mem_cons.1 hp with rfl | h
    · omega
    · exact h2 p h
theorem mxL_facts (xs : List (Int × Int)) : 0 ≤ mxL xs ∧ (∀ p ∈ xs, p.2 ≤ mxL xs) ∧ ∀ B, 0 ≤ B → (∀ p ∈ xs, p.2 ≤ B) → mxL xs ≤ B := fold_mx xs 0
set_option maxRecDepth 100000 in
set_option maxHeartbeats 4000000 in
theorem formats_law {w : World} {v : Value} {xs : List (Int × Int)} (h : RIn w v xs) (more : Int) (hm : 0 ≤ more ∧ more ≤ 65535) (hM : MaxL w) (hP : PowT w) :
    Calls Tryd.prog 6 #[v, .int .u16 more] w fun e w' => e = .returned (.bool true) ∧ Ext w w' := by
  have HAW := Lib.hid (fun W (hW : Ext w W) => awake_any W (hM.ext hW))
  have HIN := Lib.hid h
  have hM' := Lib.hid hM
  have hP' := Lib.hid hP
  obtain ⟨A, cap, rfl, hcap, hr⟩ := h
  have HR := Lib.hid hr
  obtain ⟨n, hxn⟩ : ∃ n, xs.length = n := ⟨_, rfl⟩
  have HN := Lib.hid hxn
  rw [hxn] at hcap HIN HR ⊢
  clear hxn hM hP hr
  by_cases hs : n ≤ 20
  · have hs' : ¬ (20 : Int) < (n : Int) := by omega
    have HOF := Lib.hid (fun W (hW : Ext w W) => of_any (HIN.out.ext hW) (by rw [HN.out]; omega))
    have HRF := Lib.hid (fun W (hW : Ext w W) => rformat_any (HIN.out.ext hW) (by rw [HN.out]; omega))
    obtain ⟨OK, hOK⟩ : ∃ b, okL xs = b := ⟨_, rfl⟩
    have HOK := Lib.hid hOK
    rw [hOK] at HRF
    clear hOK
    go_enter Tryd.func6, Tryd.ntmps6
    go_upto_region 3 with (go_at_call 12; refine (HAW.out _ (Ext.refl w)).mono ?_; rintro e w1 ⟨rfl, hx1⟩)
    cases OK with
    | false =>
      go_upto_region 4 with (first
        | (go_at_call 24; refine (HOF.out _ hx1).mono ?_; rintro e w2 ⟨v2, rfl, hx2, ho2, hn2⟩; (have HFM : Hid (Calls Tryd.prog 23 #[v2] w2 fun e w' => e = .returned (.tuple #[.string ⟨#[]⟩, errV 2]) ∧ Ext w2 w') := Lib.hid (by have h := format_any ho2.rin (by rw [HN.out]; omega) (hP'.out.ext (hx1.trans hx2)); rw [HOK.out] at h; exact h)))
        | (go_at_call 23; refine HFM.out.mono ?_; rintro e w3 ⟨rfl, hx3⟩))
      go_upto_region 5 with (go_at_call 25; refine (HRF.out _ ((hx1.trans hx2).trans hx3)).mono ?_; rintro e w4 ⟨s4, rfl, HS4, hx4⟩)
      have HX := Lib.hid (((hx1.trans hx2).trans hx3).trans hx4)
      clear hx1 hx2 hx3 hx4
      go_wp2_with (go_at_call 18; refine (is_err 2 _ (by decide)).mono ?_; rintro e w5 ⟨rfl, rfl⟩)
      go_ret
      exact ⟨rfl, HX.out⟩
    | true =>
      obtain ⟨hne, hall⟩ := okL_true HOK.out
      have HNE := Lib.hid hne
      have HALL := Lib.hid hall
      have hyz : (bs (pfxL ++ fmtL xs)).size ≤ 20000 := by
        rw [bs_size, List.length_append]
        have h1 := fmt_length xs hall
        have h3 : pfxL.length = 6 := rfl
        have h4 := HN.out
        omega
      obtain ⟨y, hy⟩ : ∃ y, bs (pfxL ++ fmtL xs) = y := ⟨_, rfl⟩
      have HY := Lib.hid hy
      rw [hy] at hyz HRF
      clear hne hall hy
      go_upto_region 4 with (first
        | (go_at_call 24; refine (HOF.out _ hx1).mono ?_; rintro e w2 ⟨v2, rfl, hx2, ho2, hn2⟩; (have HFM : Hid (Calls Tryd.prog 23 #[v2] w2 fun e w' => e = .returned (.tuple #[.string y, .nilIface]) ∧ Ext w2 w') := Lib.hid (by have h := format_any ho2.rin (by rw [HN.out]; omega) (hP'.out.ext (hx1.trans hx2)); rw [HOK.out, HY.out] at h; exact h)))
        | (go_at_call 23; refine HFM.out.mono ?_; rintro e w3 ⟨rfl, hx3⟩))
      go_upto_region 5 with (go_at_call 25; refine (HRF.out _ ((hx1.trans hx2).trans hx3)).mono ?_; rintro e w4 ⟨s4, rfl, HS4, hx4⟩; obtain rfl : s4 = y := (by have h := HS4.out; first | exact h rfl | exact h trivial))
      have HX4 := Lib.hid (((hx1.trans hx2).trans hx3).trans hx4)
      clear hx1 hx2 hx3 hx4 ho2 hn2 HFM HRF HOF
      go_wp2_with fail
      go_loopw [9, 43] (fun lv i wr => ∃ k : Nat, k ≤ n ∧ i = .int .i64 k ∧ lv = .int .i64 (mxL (xs.take k)) ∧ Ext w4 wr) (fun _ i _ => n - (intOf i).toNat)
      case atStart => exact ⟨0, by omega, rfl, rfl, Ext.refl _⟩
      case round =>
        obtain ⟨k, hk, rfl, rfl, hX⟩ := hrel
        by_cases hlt : k < n
        · obtain ⟨a, rfl, hg⟩ := HR.out (by omega)
          have hki : (k : Int) < (n : Int) := by omega
          have hk6 : (k : Int) < 301 := by omega
          have hkc : k < cap := by omega
          obtain ⟨⟨f, t⟩, hr⟩ : ∃ r, xs[k]? = some r := ⟨_, List.getElem?_eq_getElem (by rw [HN.out]; exact hlt)⟩
          have c0 := (HX4.out.trans hX).cell (hg k _ hr).1
          have c1 := (HX4.out.trans hX).cell (hg k _ hr).2
          simp only at c0 c1
          have HST := Lib.hid (mxL_step hr)
          obtain ⟨m, hmm⟩ : ∃ m, mxL (xs.take k) = m := ⟨_, rfl⟩
          rw [hmm] at HST ⊢
          clear hr hg hmm
          go_wp2_with fail
          go_roundw
          case rel => exact ⟨k + 1, by omega, by go_num, by rw [HST.out], hX.alloc _⟩
          case measure => simp [intOf]; omega
        · obtain rfl : k = n := by omega
          obtain ⟨m, hmm⟩ : ∃ m, mxL (xs.take k) = m := ⟨_, rfl⟩
          rw [hmm]
          have hmx : m = mxL xs := by rw [← hmm, ← HN.out, List.take_length]
          obtain ⟨f1, f2, f3⟩ := mxL_facts xs
          have hm15 := f3 999999999999999 (by omega) (fun p hp => (okR_parts (HALL.out p hp)).2.2)
          rw [← hmx] at f1 f2 hm15
          have HPA := Lib.hid (fun W (hW : Ext w W) => parse_any s4 (m + more) (by omega) (by omega) W (hM'.out.ext hW))
          have HPF := Lib.hid (show parseF s4 (m + more) = if 8 < xs.length then ([], 5) else (xs, 0) by
            rw [← HY.out]
            exact fmt_parse xs (m + more) HNE.out (by omega) (fun p hp => ⟨HALL.out p hp, by have := f2 p hp; omega⟩))
          rw [HPF.out, HN.out] at HPA
          have HXW := Lib.hid (HX4.out.trans hX)
          have hw1 : wrap64 (m + more) = m + more := by unfold wrap64; omega
          clear hmm hmx f2 f3 hX hlt HPF
          by_cases h8 : 8 < k
          · have h8' : (8 : Int) < (k : Int) := by omega
            rw [if_pos h8] at HPA
            go_wp2_with (first
              | (go_at_call 13; refine (HPA.out _ HXW.out).mono ?_; rintro e w6 ⟨⟨v6, ev6, rfl, hv6, rfl⟩, hx6⟩; obtain ⟨A6, c6, rfl, -⟩ := hv6.parts)
              | (go_at_call 18; refine (is_err 5 _ (by decide)).mono ?_; rintro e w7 ⟨rfl, rfl⟩))
            go_ret
            exact ⟨rfl, HXW.out.trans hx6⟩
          · have h8' : ¬ (8 : Int) < (k : Int) := by omega
            rw [if_neg h8] at HPA
            go_wp2_with (first
              | (go_at_call 13; refine (HPA.out _ HXW.out).mono ?_; rintro e w6 ⟨⟨v6, ev6, rfl, hv6, hev⟩, hx6⟩; obtain rfl : ev6 = .nilIface := hev; (have HARE : Hid (Calls Tryd.prog 16 #[v6, .slice A k cap] w6 fun e w' => e = .returned (.bool true) ∧ Ext w6 w') := Lib.hid (are_in hv6 (HIN.out.ext (HXW.out.trans hx6)) (by rw [HN.out]; omega))))
              | (go_at_call 16; refine HARE.out.mono ?_; rintro e w7 ⟨rfl, hx7⟩))
            go_ret
            exact ⟨rfl, (HXW.out.trans hx6).trans hx7⟩
  · have hs' : (20 : Int) < (n : Int) := by omega
    go_enter Tryd.func6, Tryd.ntmps6
    go_upto_region 2 with (go_at_call 12; refine (HAW.out _ (Ext.refl w)).mono ?_; rintro e w1 ⟨rfl, hx1⟩)
    go_wp2_with (go_at_call 12; refine (HAW.out _ hx1).mono ?_; rintro e w2 ⟨rfl, hx2⟩)
    go_ret
    exact ⟨rfl, hx1.trans hx2⟩
end Go.Proofs.YteamnofooicbeaaDoor
