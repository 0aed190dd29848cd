/- Chapter 09: the law RangesCovers. -/
import Derived.Test.YteamnofooicbeaaDoorGM
import Derived.Test.YteamnofooicbeaaDoorRgO
import Derived.Test.YteamnofooicbeaaDoorAnyD
namespace Go.Proofs.YteamnofooicbeaaDoor
open Go.RowKit
/-- a slice of pairs of bytes that came in -/
def P8 (w : World) (v : Value) (xs : List (Nat × Nat)) : Prop := ∃ A cap, v = .slice A xs.length cap ∧ xs.length ≤ cap ∧ (0 < xs.length → ∃ a, A = some a ∧ ∀ i p, xs[i]? = some p → w.cell? (a.add (i * 2)) = some (.int .u8 p.1) ∧ w.cell? ⟨(a.add (i * 2)).block, (a.add (i * 2)).off + 1, none⟩ = some (.int .u8 p.2))
def toI (xs : List (Nat × Nat)) : List (Int × Int) := xs.map fun p => ((p.1 : Int), (p.2 : Int))
theorem toI_take (xs : List (Nat × Nat)) (k : Nat) (p : Nat × Nat) (h : xs[k]? = some p) : toI (xs.take (k + 1)) = toI (xs.take k) ++ [((p.1 : Int), (p.2 : Int))] := by
  unfold toI
  rw [List.take_add_one, h, List.map_append]
  rfl
theorem bool_same {a b : Bool} {p : Prop} (h1 : a = true ↔ p) (h2 : b = true ↔ p) : a = b := by
  cases a with
  | true => exact (h2.2 (h1.1 rfl)).symm
  | false =>
    cases b with
    | false => rfl
    | true => exact absurd (h1.2 (h2.1 rfl)) (by simp)
theorem toI_length (xs : List (Nat × Nat)) : (toI xs).length = xs.length := by simp [toI]
set_option maxRecDepth 100000 in
set_option maxHeartbeats 4000000 in
theorem covers_law {w : World} {v : Value} {xs : List (Nat × Nat)} (h : P8 w v xs) (hP : ∀ p ∈ xs, p.1 < 256 ∧ p.2 < 256) (r0 r1 : Nat) (h0 : r0 < 256) (h1 : r1 < 256) (hM : MaxL w) :
    Calls Tryd.prog 9 #[v, .agg #[.int .u8 r0, .int .u8 r1]] w fun e w' => e = .returned (.bool true) ∧ Ext w w' := by
  have HAW := Lib.hid (fun W (hW : Ext w W) => awake_any W (hM.ext hW))
  obtain ⟨wa, hwa⟩ : ∃ wa, wa = w.alloc (.cells #[.int .u8 r0, .int .u8 r1] 73) := ⟨_, rfl⟩
  have XA : Ext w wa := by rw [hwa]; exact (Ext.refl w).alloc _
  have HT : Hid (RowB wa w.heap.size 73 [.int .u8 r0, .int .u8 r1]) := Lib.hid (by rw [hwa]; exact row_laid _ _ _)
  have HX := Lib.hid XA
  clear XA hM
  obtain ⟨A, cap, rfl, hcap, hr⟩ := h
  obtain ⟨n, hxn⟩ : ∃ n, xs.length = n := ⟨_, rfl⟩
  have HN := Lib.hid hxn
  have HP := Lib.hid hP
  rw [hxn] at hcap hr ⊢
  have HR := Lib.hid hr
  clear hr hxn hP
  by_cases hs : n ≤ 40
  · have hs' : ¬ (40 : Int) < (n : Int) := by omega
    go_enter Tryd.func9, Tryd.ntmps9
    go_upto_region 1 with fail
    rw [← hwa]
    clear hwa
    obtain ⟨g, hg⟩ : ∃ g, w.heap.size = g := ⟨_, rfl⟩
    have HG := Lib.hid hg
    rw [hg] at HT ⊢
    clear hg
    go_upto_region 3 with (go_at_call 12; refine (HAW.out _ HX.out).mono ?_; rintro e w1 ⟨rfl, hx1⟩)
    have HX1 := Lib.hid (HX.out.trans hx1)
    have HT1 := Lib.hid (HT.out.ext hx1)
    clear hx1
    go_wp2_with fail
    go_loopw [5, 25] (fun lv i wr => ∃ k : Nat, k ≤ n ∧ i = .int .i64 k ∧ ROwn 43 wr w1.heap.size lv (toI (xs.take k)) ∧ Ext w1 wr) (fun _ i _ => n - (intOf i).toNat)
    case atStart => exact ⟨0, by omega, rfl, ROwn.nil _ _ _, Ext.refl _⟩
    case round =>
      obtain ⟨k, hk, rfl, hown, hX⟩ := hrel
      by_cases hlt : k < n
      · obtain ⟨a, rfl, hg⟩ := HR.out (by omega)
        have hki : (k : Int) < (n : Int) := by omega
        have hk6 : (k : Int) < 301 := by omega
        have hkc : k < cap := by omega
        obtain ⟨⟨f, t⟩, hr⟩ : ∃ r, xs[k]? = some r := ⟨_, List.getElem?_eq_getElem (by rw [HN.out]; exact hlt)⟩
        have c0 := (HX1.out.trans hX).cell (hg k _ hr).1
        have c1 := (HX1.out.trans hX).cell (hg k _ hr).2
        simp only at c0 c1
        obtain ⟨hf, ht⟩ := HP.out _ (List.mem_of_getElem? hr)
        simp only at hf ht
        have hf' : (f : Int) < 256 := by omega
        have ht' : (t : Int) < 256 := by omega
        have HTT := Lib.hid (toI_take xs k (f, t) hr)
        have HLN := Lib.hid (show (toI (xs.take k)).length ≤ 300 by rw [toI_length, List.length_take]; omega)
        have HO := Lib.hid hown
        have hsz := hX.size
        clear hr hg hown
        have hsz2 : w1.heap.size ≤ (wr.alloc (.cells #[.int .u8 f, .int .u8 t] 73)).heap.size := Nat.le_trans hsz ((Ext.refl wr).alloc _).size
        go_wp2_with (at_builtin; refine wpList_append_r 43 28 Tryd.underlying28 rrng_info (wr.alloc (.cells #[.int .u8 f, .int .u8 t] 73)) rfl (.tmp 29) (.tmp 37) rfl w1.heap.size f t (HO.out.ext ((Ext.refl wr).alloc _)) rfl rfl (by simp) (by have := HLN.out; omega) hsz2 ?_)
        intro v' w3 hown' hb _
        rw [← HTT.out] at hown'
        go_wp2_with fail
        go_roundw
        case rel => exact ⟨k + 1, by omega, by go_num, hown', Below.trans (hX.alloc _) hb⟩
        case measure => simp [intOf]; omega
      · obtain rfl : k = n := by omega
        rw [← HN.out, List.take_length] at hown
        obtain ⟨L, hL⟩ : ∃ L, L = toI xs := ⟨_, rfl⟩
        have HLL := Lib.hid (show L.length ≤ 40 by rw [hL, toI_length, HN.out]; exact hs)
        rw [← hL] at hown
        have HO := Lib.hid hown
        have HX2 := Lib.hid (HX1.out.trans hX)
        have HT2 := Lib.hid (HT1.out.ext hX)
        clear hown hL hX HR HP hlt hcap hs
        generalize wr = wl at *
        have HOF := Lib.hid (fun W (hW : Ext wl W) => of_any (HO.out.ext hW).rin (by have := HLL.out; omega))
        go_upto_region 10 with (first
          | (go_at_call 24; refine (HOF.out _ (Ext.refl _)).mono ?_; rintro e w4 ⟨v4, rfl, hx4, ho4, hn4⟩)
          | (go_at_call 28; refine (mergeR_any ho4.at hn4 (by have := HLL.out; omega)).mono ?_; rintro e w5 ⟨v5, ys, rfl, hx5, hperm, hsort, ho5, hn5⟩))
        have HMC : Hid (∀ o, cov (mg ys) o ↔ cov L o) := Lib.hid (fun o => ((mg_facts ys hsort).2.2 o).trans (cov_perm hperm o))
        have HML : Hid ((mg ys).length ≤ 40) := Lib.hid (Nat.le_trans (mg_length ys) (by rw [hperm.length_eq]; exact HLL.out))
        obtain ⟨M, hMM⟩ : ∃ M, mg ys = M := ⟨_, rfl⟩
        rw [hMM] at ho5 hn5 HMC HML
        have HX5 := Lib.hid (hx4.trans hx5)
        have HXX := Lib.hid (HX2.out.trans HX5.out)
        have HT5 := Lib.hid (HT2.out.ext HX5.out)
        obtain ⟨A5, cap5, rfl, hc5⟩ := ho5.parts
        have HM5 := Lib.hid ho5.at
        have HN5 := Lib.hid hn5
        obtain ⟨m, hm⟩ : ∃ m, M.length = m := ⟨_, rfl⟩
        have HMM := Lib.hid hm
        rw [hm] at hc5 HM5 HML HN5 ⊢
        have hm40 : m ≤ 40 := HML.out
        clear hMM hx4 hx5 ho4 hn4 ho5 hn5 hperm hsort hm HX1 HT1 HT HX
        go_wp2_with fail
        go_loopw [9, 43] (fun av i wr => ∃ (k : Nat) (b : Bool), k ≤ 257 ∧ i = .int .i64 k ∧ av = .bool b ∧ Ext w5 wr ∧ Hid (b = true ↔ ∀ o : Int, (r0 : Int) ≤ o → o < (r1 : Int) → o < (k : Int) → cov L o)) (fun _ i _ => 257 - (intOf i).toNat)
        case atStart => exact ⟨0, true, by omega, rfl, rfl, Ext.refl _, Lib.hid ⟨fun _ o h1 _ h3 => by exfalso; omega, fun _ => rfl⟩⟩
        case round =>
          obtain ⟨k, b, hk, rfl, rfl, hX, HB⟩ := hrel
          have HY := Lib.hid hX
          clear hX
          by_cases hlt : k < 257
          · have hki : (k : Int) < 257 := by omega
            go_wp2_with fail
            generalize wr = wo at *
            go_loopw [11, 48] (fun cv j wr => ∃ (q : Nat) (c : Bool), q ≤ m ∧ j = .int .i64 q ∧ cv = .bool c ∧ Ext wo wr ∧ Hid (c = true ↔ cov (M.take q) (k : Int))) (fun _ j _ => m - (intOf j).toNat)
            case atStart => exact ⟨0, false, by omega, rfl, rfl, Ext.refl _, Lib.hid ⟨fun h => (by cases h), fun h => absurd h (cov_nil _)⟩⟩
            case round =>
              obtain ⟨q, c, hq, rfl, rfl, hX, HC⟩ := hrel
              by_cases hqm : q < m
              · have hqi : (q : Int) < (m : Int) := by omega
                have hq6 : (q : Int) < 301 := by omega
                have hqc : q < cap5 := by omega
                obtain ⟨⟨f, t⟩, hr⟩ : ∃ r, M[q]? = some r := ⟨_, List.getElem?_eq_getElem (by rw [HMM.out]; exact hqm)⟩
                obtain ⟨g5, rfl, c0, c1⟩ := (HM5.out.ext (HY.out.trans hX)).cells hr
                simp only at c0 c1
                have HTT := Lib.hid (show M.take (q + 1) = M.take q ++ [(f, t)] by rw [List.take_add_one, hr]; rfl)
                have hcov : cov (M.take (q + 1)) (k : Int) ↔ cov (M.take q) (k : Int) ∨ (f ≤ (k : Int) ∧ (k : Int) < t) := by rw [HTT.out, cov_append, cov_one]
                have HCV := Lib.hid hcov
                clear hcov hr
                cases c with
                | true =>
                  go_wp2_with fail
                  go_roundw
                  case rel => exact ⟨q + 1, true, by omega, by go_num, rfl, hX.alloc _, Lib.hid ⟨fun _ => HCV.out.2 (.inl (HC.out.1 rfl)), fun _ => rfl⟩⟩
                  case measure => simp [intOf]; omega
                | false =>
                  by_cases h1 : f ≤ (k : Int)
                  · have p1 : decide (f ≤ (k : Int)) = true := decide_eq_true h1
                    by_cases h2 : (k : Int) < t
                    · have p2 : decide ((k : Int) < t) = true := decide_eq_true h2
                      have HH : Hid (true = true ↔ cov (M.take (q + 1)) (k : Int)) := Lib.hid ⟨fun _ => HCV.out.2 (.inr ⟨h1, h2⟩), fun _ => rfl⟩
                      clear h1 h2
                      go_wp2_with fail
                      go_roundw
                      case rel => exact ⟨q + 1, true, by omega, by go_num, rfl, hX.alloc _, HH⟩
                      case measure => simp [intOf]; omega
                    · have p2 : decide ((k : Int) < t) = false := decide_eq_false h2
                      have HH : Hid (false = true ↔ cov (M.take (q + 1)) (k : Int)) := Lib.hid ⟨fun h => (by cases h), fun h => (HCV.out.1 h).elim (fun h => HC.out.2 h) (fun h => absurd h.2 h2)⟩
                      clear h1 h2
                      go_wp2_with fail
                      go_roundw
                      case rel => exact ⟨q + 1, false, by omega, by go_num, rfl, hX.alloc _, HH⟩
                      case measure => simp [intOf]; omega
                  · have p1 : decide (f ≤ (k : Int)) = false := decide_eq_false h1
                    have HH : Hid (false = true ↔ cov (M.take (q + 1)) (k : Int)) := Lib.hid ⟨fun h => (by cases h), fun h => (HCV.out.1 h).elim (fun h => HC.out.2 h) (fun h => absurd h.1 h1)⟩
                    clear h1
                    go_wp2_with fail
                    go_roundw
                    case rel => exact ⟨q + 1, false, by omega, by go_num, rfl, hX.alloc _, HH⟩
                    case measure => simp [intOf]; omega
              · obtain rfl : q = m := by omega
                have HC2 : Hid (c = true ↔ cov L (k : Int)) := Lib.hid (by
                  have := HC.out
                  rw [← HMM.out, List.take_length, HMC.out] at this
                  exact this)
                have HHAS := Lib.hid (has_any ((HO.out.ext HX5.out).ext (HY.out.trans hX)).rin (by have := HLL.out; omega) (k : Int))
                have HXI := Lib.hid hX
                clear hX hqm
                go_upto_if 70 with (go_at_call 30; refine HHAS.out.mono ?_; rintro e w7 ⟨c2, rfl, HC3, hx7⟩; obtain rfl := bool_same HC3.out HC2.out; have hcc : (c2 != c2) = false := by simp)
                clear hcc
                have HB2 : Hid (∀ b' : Bool, (b' = true ↔ (b = true ∧ ((r0 : Int) ≤ (k : Int) → (k : Int) < (r1 : Int) → c2 = true))) → (b' = true ↔ ∀ o : Int, (r0 : Int) ≤ o → o < (r1 : Int) → o < ((k + 1 : Nat) : Int) → cov L o)) := Lib.hid (fun b' h => by
                  rw [h]
                  constructor
                  · rintro ⟨h1, h2⟩ o h3 h4 h5
                    by_cases hok : o = (k : Int)
                    · subst hok
                      exact HC3.out.1 (h2 h3 h4)
                    · exact HB.out.1 h1 o h3 h4 (by omega)
                  · intro h1
                    exact ⟨HB.out.2 fun o h3 h4 h5 => h1 o h3 h4 (by omega), fun h3 h4 => HC3.out.2 (h1 _ h3 h4 (by omega))⟩)
                have HY7 := Lib.hid ((HY.out.trans HXI.out).trans hx7)
                have HT7 := Lib.hid (HT5.out.ext HY7.out)
                clear hx7
                have a0 := HT7.out.cell (j := 0) rfl
                have a1 := HT7.out.cell (j := 1) rfl
                have hr0 : (r0 : Int) < 256 := by omega
                have hr1 : (r1 : Int) < 256 := by omega
                by_cases h3 : r0 ≤ k
                · have p1 : decide (r0 ≤ k) = true := decide_eq_true h3
                  by_cases h4 : k < r1
                  · have p2 : decide (k < r1) = true := decide_eq_true h4
                    have HH := Lib.hid (HB2.out (b && c2) (by rw [Bool.and_eq_true]; exact ⟨fun h => ⟨h.1, fun _ _ => h.2⟩, fun h => ⟨h.1, h.2 (by omega) (by omega)⟩⟩))
                    clear h3 h4
                    cases b with
                    | true =>
                      go_wp2_with fail
                      go_roundw
                      case rel => exact ⟨k + 1, c2, by omega, by go_num, rfl, HY7.out, by simpa using HH⟩
                      case measure => simp [intOf]; omega
                    | false =>
                      go_wp2_with fail
                      go_roundw
                      case rel => exact ⟨k + 1, false, by omega, by go_num, rfl, HY7.out, by simpa using HH⟩
                      case measure => simp [intOf]; omega
                  · have p2 : decide (k < r1) = false := decide_eq_false h4
                    have HH := Lib.hid (HB2.out b ⟨fun h => ⟨h, fun _ h5 => by exfalso; omega⟩, fun h => h.1⟩)
                    clear h3 h4
                    go_wp2_with fail
                    go_roundw
                    case rel => exact ⟨k + 1, b, by omega, by go_num, rfl, HY7.out, HH⟩
                    case measure => simp [intOf]; omega
                · have p1 : decide (r0 ≤ k) = false := decide_eq_false h3
                  have HH := Lib.hid (HB2.out b ⟨fun h => ⟨h, fun h5 => by exfalso; omega⟩, fun h => h.1⟩)
                  clear h3
                  go_wp2_with fail
                  go_roundw
                  case rel => exact ⟨k + 1, b, by omega, by go_num, rfl, HY7.out, HH⟩
                  case measure => simp [intOf]; omega
          · obtain rfl : k = 257 := by omega
            have HBB : Hid (b = true ↔ ∀ o : Int, (r0 : Int) ≤ o → o < (r1 : Int) → cov L o) := Lib.hid (HB.out.trans ⟨fun h o h3 h4 => h o h3 h4 (by omega), fun h o h3 h4 _ => h o h3 h4⟩)
            have HTE := Lib.hid (HT5.out.ext HY.out)
            have a0 := HTE.out.cell (j := 0) rfl
            have a1 := HTE.out.cell (j := 1) rfl
            have hr0 : (r0 : Int) < 256 := by omega
            have hr1 : (r1 : Int) < 256 := by omega
            go_upto_region 26 with fail
            obtain ⟨wb, hwb⟩ : ∃ wb, wb = wr.alloc (.cells #[.int .i64 r0, .int .i64 r1] 37) := ⟨_, rfl⟩
            have XB : Ext wr wb := by rw [hwb]; exact (Ext.refl wr).alloc _
            have HTB : Hid (RowB wb wr.heap.size 37 [.int .i64 r0, .int .i64 r1]) := Lib.hid (by rw [hwb]; exact row_laid _ _ _)
            rw [← hwb]
            clear hwb a0 a1
            have HXF := Lib.hid (HY.out.trans XB)
            clear XB
            obtain ⟨qb, hqb⟩ : ∃ q, wr.heap.size = q := ⟨_, rfl⟩
            rw [hqb] at HTB ⊢
            clear hqb
            have HOF2 := Lib.hid (fun W (hW : Ext wb W) => of_any (((HO.out.ext HX5.out).ext HXF.out).ext hW).rin (by have := HLL.out; omega))
            have HCV1 := Lib.hid (fun W v (h : RAt W v L) (hv : L = [] → v = .slice none 0 0) => coverR_any h hv (by have := HLL.out; omega) r0 r1 b (fun _ => HBB.out) (fun h => HBB.out.2 (fun o h3 h4 => by exfalso; omega)))
            have HCV2 := Lib.hid (fun W v (h : RAt W v M) (hv : M = [] → v = .slice none 0 0) => coverR_any h hv (by rw [HMM.out]; omega) r0 r1 b (fun _ => HBB.out.trans ⟨fun h o h3 h4 => (HMC.out o).2 (h o h3 h4), fun h o h3 h4 => (HMC.out o).1 (h o h3 h4)⟩) (fun h => HBB.out.2 (fun o h3 h4 => by exfalso; omega)))
            have hbb : (b == b) = true := by simp
            refine wp_region_C (C := fun w' => Ext wb w') (by kernel_rfl) ?_
            have HN1 := Lib.hid (show Ext wb wb.drew from (Ext.refl _).drew)
            refine wpAnyC_take (i := 0) (v := u5) rfl (by kernel_rfl) (by kernel_rfl) (by kernel_rfl) (fun _ _ _ h => h) HN1.out (by kernel_rfl) ?_ ?_
            · intro W hW; go_simp; try (with_reducible rfl)
            try simp only [Act.put, List.setIfInBounds_toArray]
            refine wpAnyC_take (i := 2) (v := .agg #[.int .i64 r0, .int .i64 r1]) rfl (by kernel_rfl) (by kernel_rfl) (by kernel_rfl) (fun _ _ _ h => h) HN1.out (by kernel_rfl) ?_ ?_
            · intro W hW; have z0 := (HTB.out.ext hW).cell (j := 0) rfl; have z1 := (HTB.out.ext hW).cell (j := 1) rfl; go_simp; try (with_reducible rfl)
            try simp only [Act.put]
            refine wpAnyC_take (i := 4) (v := .bool b) rfl (by kernel_rfl) (by kernel_rfl) (by kernel_rfl) (fun _ _ _ h => h) HN1.out (by kernel_rfl) ?_ ?_
            · intro W hW; go_simp; try (with_reducible rfl)
            try simp only [Act.put]
            refine wpAnyC_one 1 (by kernel_rfl) rfl (by kernel_rfl) (fun KK hKK => ?_)
            go_simp
            refine (HOF2.out _ HN1.out).mono ?_
            rintro e w6 ⟨v6, rfl, hx, ho6, hn6⟩
            have X6 : Ext wb _ := Ext.trans HN1.out hx
            refine hKK _ _ X6 ?_
            clear hKK KK
            try simp only [Act.put, List.setIfInBounds_toArray, List.set_cons_succ, List.set_cons_zero]
            refine wpAnyC_one 3 (by kernel_rfl) rfl (by kernel_rfl) (fun KK hKK => ?_)
            go_simp
            refine (HCV1.out _ _ ho6.at hn6).mono ?_
            rintro e w7 ⟨rfl, hx⟩
            have X7 : Ext wb _ := Ext.trans X6 hx
            refine hKK _ _ X7 ?_
            clear hKK KK
            try simp only [Act.put, List.setIfInBounds_toArray, List.set_cons_succ, List.set_cons_zero]
            refine wpAnyC_take (i := 5) (v := .bool true) rfl (by kernel_rfl) (by kernel_rfl) (by kernel_rfl) (fun _ _ _ h => h) X7 (by kernel_rfl) ?_ ?_
            · intro W hW; go_simp; try (with_reducible rfl)
            try simp only [Act.put, List.setIfInBounds_toArray]
            refine wpAnyC_take (i := 6) (v := .bool true) rfl (by kernel_rfl) (by kernel_rfl) (by kernel_rfl) (fun _ _ _ h => h) X7 (by kernel_rfl) ?_ ?_
            · intro W hW; go_simp; try (with_reducible rfl)
            try simp only [Act.put]
            refine wpAnyC_take (i := 7) (v := .slice A5 m cap5) rfl (by kernel_rfl) (by kernel_rfl) (by kernel_rfl) (fun _ _ _ h => h) X7 (by kernel_rfl) ?_ ?_
            · intro W hW; go_simp; try (with_reducible rfl)
            try simp only [Act.put]
            refine wpAnyC_take (i := 8) (v := .agg #[.int .i64 r0, .int .i64 r1]) rfl (by kernel_rfl) (by kernel_rfl) (by kernel_rfl) (fun _ _ _ h => h) X7 (by kernel_rfl) ?_ ?_
            · intro W hW; have z0 := (HTB.out.ext hW).cell (j := 0) rfl; have z1 := (HTB.out.ext hW).cell (j := 1) rfl; go_simp; try (with_reducible rfl)
            try simp only [Act.put]
            refine wpAnyC_take (i := 10) (v := .bool b) rfl (by kernel_rfl) (by kernel_rfl) (by kernel_rfl) (fun _ _ _ h => h) X7 (by kernel_rfl) ?_ ?_
            · intro W hW; go_simp; try (with_reducible rfl)
            try simp only [Act.put]
            refine wpAnyC_one 9 (by kernel_rfl) rfl (by kernel_rfl) (fun KK hKK => ?_)
            go_simp
            refine (HCV2.out _ _ (HM5.out.ext (HXF.out.trans X7)) HN5.out).mono ?_
            rintro e w8 ⟨rfl, hx⟩
            have X8 : Ext wb _ := Ext.trans X7 hx
            refine hKK _ _ X8 ?_
            clear hKK KK
            try simp only [Act.put, List.setIfInBounds_toArray, List.set_cons_succ, List.set_cons_zero]
            refine wpAnyC_take (i := 11) (v := .bool true) rfl (by kernel_rfl) (by kernel_rfl) (by kernel_rfl) (fun _ _ _ h => h) X8 (by kernel_rfl) ?_ ?_
            · intro W hW; go_simp; try (with_reducible rfl)
            change wpAnyC _ _ _ _ _ _ _ (Act.put _ (some 106) (.bool true)) _
            try simp only [Act.put, List.setIfInBounds_toArray, List.set_cons_succ, List.set_cons_zero]
            refine wpAnyC_take (i := 12) (v := .bool true) rfl (by kernel_rfl) (by kernel_rfl) (by kernel_rfl) (fun _ _ _ h => h) X8 (by kernel_rfl) ?_ ?_
            · intro W hW; go_simp; try (with_reducible rfl)
            change wpAnyC _ _ _ _ _ _ _ (Act.put _ (some 107) (.bool true)) _
            try simp only [Act.put, List.setIfInBounds_toArray, List.set_cons_succ, List.set_cons_zero]
            refine wpAnyC_take (i := 13) (v := .bool true) rfl (by kernel_rfl) (by kernel_rfl) (by kernel_rfl) (fun _ _ _ h => h) X8 (by kernel_rfl) ?_ ?_
            · intro W hW; go_simp; try (with_reducible rfl)
            change wpAnyC _ _ _ _ _ _ _ (Act.put _ (some 4) (.bool true)) _
            try simp only [Act.put, List.setIfInBounds_toArray, List.set_cons_succ, List.set_cons_zero]
            refine ⟨by kernel_rfl, ?_⟩
            have XF := HXX.out.trans (HXF.out.trans X8)
            go_wp2_with fail
            go_ret
            exact ⟨rfl, XF⟩
  · have hs' : (40 : Int) < (n : Int) := by omega
    go_enter Tryd.func9, Tryd.ntmps9
    go_upto_region 1 with fail
    rw [← hwa]
    clear hwa
    go_upto_region 2 with (go_at_call 12; refine (HAW.out _ HX.out).mono ?_; rintro e w1 ⟨rfl, hx1⟩)
    have HX1 := Lib.hid (HX.out.trans hx1)
    clear hx1
    go_wp2_with (go_at_call 12; refine (HAW.out _ HX1.out).mono ?_; rintro e w2 ⟨rfl, hx2⟩)
    go_ret
    exact ⟨rfl, HX1.out.trans hx2⟩
end Go.Proofs.YteamnofooicbeaaDoor
