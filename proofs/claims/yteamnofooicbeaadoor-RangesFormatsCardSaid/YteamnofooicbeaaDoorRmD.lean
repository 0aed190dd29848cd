/- Chapter 09: ranges.Cover of a list of ranges (the program). -/
import Derived.Test.YteamnofooicbeaaDoorRmC
namespace Go.Proofs.YteamnofooicbeaaDoor
open Go.RowKit
set_option maxRecDepth 100000 in
set_option maxHeartbeats 2000000 in
theorem coverR_any {w : World} {v : Value} {xs : List (Int × Int)} (h : RAt w v xs) (hv : xs = [] → v = .slice none 0 0) (hn : xs.length ≤ 300) (f t : Int) (c : Bool) (hft : f < t → (c = true ↔ ∀ o, f ≤ o → o < t → cov xs o)) (hc : ¬ f < t → c = true) :
    Calls Tryd.prog 31 #[v, .agg #[.int .i64 f, .int .i64 t]] w fun e w' => e = .returned (.bool c) ∧ Ext w w' := by
  by_cases hlt : f < t
  · have q1 : ¬ (t ≤ f) := by omega
    have HFT := Lib.hid (hft hlt)
    have HLT := Lib.hid hlt
    have hX0 : Ext w (w.alloc (.cells #[.int .i64 f, .int .i64 t] 37)) := (Ext.refl w).alloc _
    have HM := Lib.hid (mergeR_any (h.ext hX0) hv hn)
    have HBX : Hid (RowB (w.alloc (.cells #[.int .i64 f, .int .i64 t] 37)) w.heap.size 37 [.int .i64 f, .int .i64 t]) := Lib.hid (row_laid _ _ _)
    have HXN := Lib.hid hn
    clear hft hc hlt h hv hn
    go_enter Tryd.func31, Tryd.ntmps31
    go_upto_region 4 with (go_at_call 28; refine HM.out.mono ?_; rintro e w1 ⟨v1, ys, rfl, hx1, hperm, hsort, ho1, -⟩; obtain ⟨A1, cap1, rfl, hc1⟩ := ho1.parts)
    have HC : Hid (c = true ↔ ∃ x ∈ mg ys, x.1 ≤ f ∧ t ≤ x.2) := Lib.hid (by
      obtain ⟨m1, m2, m3⟩ := mg_facts ys hsort
      rw [HFT.out, sep_cover m1 HLT.out]
      constructor
      · intro h o h1 h2
        exact (m3 o).2 ((cov_perm hperm o).2 (h o h1 h2))
      · intro h o h1 h2
        exact (cov_perm hperm o).1 ((m3 o).1 (h o h1 h2)))
    have hn3 : (mg ys).length ≤ 300 := Nat.le_trans (mg_length ys) (by rw [hperm.length_eq]; exact HXN.out)
    have hra := ho1.at
    obtain ⟨n, hxn⟩ : ∃ n, (mg ys).length = n := ⟨_, rfl⟩
    have HN := Lib.hid hxn
    rw [hxn] at hc1 hra hn3 ⊢
    have HR := Lib.hid hra
    have X1 := hX0.trans hx1
    have HB1 := Lib.hid (HBX.out.ext hx1)
    clear ho1 hxn hra hperm hsort hX0 hx1 HBX
    go_wp2_with fail
    go_loopw [15] (fun i wr => ∃ k : Nat, k ≤ n ∧ i = .int .i64 k ∧ Ext w1 wr ∧ ∀ j, j < k → ∀ x, (mg ys)[j]? = some x → ¬ (x.1 ≤ f ∧ t ≤ x.2)) (fun i _ => n - (intOf i).toNat)
    case atStart => exact ⟨0, by omega, rfl, Ext.refl _, fun j hj => by omega⟩
    case round =>
      obtain ⟨k, hk, rfl, hX, hall⟩ := hrel
      by_cases hkn : k < n
      · have hki : (k : Int) < (n : Int) := by omega
        have hk6 : (k : Int) < 301 := by omega
        obtain ⟨⟨a, z⟩, hx⟩ : ∃ x, (mg ys)[k]? = some x := ⟨_, List.getElem?_eq_getElem (by rw [HN.out]; exact hkn)⟩
        obtain ⟨g, rfl, c0, c1⟩ := (HR.out.ext hX).cells hx
        simp only at c0 c1
        have b0 := fun o => (HB1.out.ext (hX.alloc o)).cell (j := 0) rfl
        have b1 := fun o => (HB1.out.ext (hX.alloc o)).cell (j := 1) rfl
        have HXX := Lib.hid hx
        have HALL := Lib.hid hall
        have hkc : k < cap1 := by omega
        have hno : ¬ (a ≤ f ∧ t ≤ z) → ∀ j, j < k + 1 → ∀ x, (mg ys)[j]? = some x → ¬ (x.1 ≤ f ∧ t ≤ x.2) := by
          intro hn j hj y hy
          by_cases e : j = k
          · subst e
            rw [HXX.out] at hy
            obtain rfl := Option.some.inj hy
            exact hn
          · exact HALL.out j (by omega) y hy
        have HNO := Lib.hid hno
        clear hx hall hno
        by_cases h1 : a ≤ f
        · have p1 : decide (a ≤ f) = true := decide_eq_true h1
          by_cases h2 : t ≤ z
          · have p2 : decide (t ≤ z) = true := decide_eq_true h2
            have hcc : c = true := (HC.out).2 ⟨(a, z), List.mem_of_getElem? HXX.out, h1, h2⟩
            subst hcc
            go_wp2_with fail
            go_ret
            exact ⟨rfl, X1.trans (hX.alloc _)⟩
          · have p2 : decide (t ≤ z) = false := decide_eq_false h2
            have HH := Lib.hid (HNO.out (fun h => h2 h.2))
            clear h1 h2
            go_wp2_with fail
            go_roundw
            case rel => exact ⟨k + 1, by omega, by go_num, hX.alloc _, HH.out⟩
            case measure => simp [intOf]; omega
        · have p1 : decide (a ≤ f) = false := decide_eq_false h1
          have HH := Lib.hid (HNO.out (fun h => h1 h.1))
          clear h1
          go_wp2_with fail
          go_roundw
          case rel => exact ⟨k + 1, by omega, by go_num, hX.alloc _, HH.out⟩
          case measure => simp [intOf]; omega
      · obtain rfl : k = n := by omega
        have hcc : c = false := by
          cases hc0 : c with
          | false => rfl
          | true =>
            exfalso
            obtain ⟨x, hx, h1, h2⟩ := (HC.out).1 hc0
            obtain ⟨j, hj⟩ := List.getElem?_of_mem hx
            have hjl := (List.getElem?_eq_some_iff.1 hj).1
            rw [HN.out] at hjl
            exact hall j hjl x hj ⟨h1, h2⟩
        subst hcc
        clear hall
        go_wp2_with fail
        go_ret
        exact ⟨rfl, X1.trans hX⟩
  · have q1 : t ≤ f := by omega
    obtain rfl := hc hlt
    clear hft hc hlt h
    go_enter Tryd.func31, Tryd.ntmps31
    go_wp2_with fail
    go_ret
    exact ⟨rfl, (Ext.refl w).alloc _⟩
end Go.Proofs.YteamnofooicbeaaDoor
