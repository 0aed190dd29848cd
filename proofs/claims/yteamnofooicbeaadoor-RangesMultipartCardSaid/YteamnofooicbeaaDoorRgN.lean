/- Chapter 09: ranges compared; the example; the law Parses. -/
import Derived.Test.YteamnofooicbeaaDoorRgM
namespace Go.Proofs.YteamnofooicbeaaDoor
open Go.RowKit Go.Maps
/-- the scan with fuel: to reckon with -/
def scnN (s : ByteArray) : Nat → Nat → Nat → Bool → Option (List ByteArray)
  | 0, _, fr, q => if q = true then none else some [trimF (s.extract fr s.size)]
  | n + 1, i, fr, q => if i < s.size then
      (if q = true ∧ byt s i = 92 then scnN s n (i + 2) fr q
      else if byt s i = 34 then scnN s n (i + 1) fr (!q)
      else if q = false ∧ byt s i = 44 then (scnN s n (i + 1) (i + 1) false).map (trimF (s.extract fr i) :: ·)
      else scnN s n (i + 1) fr q)
    else if q = true then none else some [trimF (s.extract fr s.size)]
theorem scnN_eq (s : ByteArray) : ∀ (n i fr : Nat) (q : Bool), s.size ≤ i + n → scnN s n i fr q = scn s i fr q
  | 0, i, fr, q, h => by
    rw [scn_end (by omega)]
    rfl
  | n + 1, i, fr, q, h => by
    rw [scnN, scn]
    split
    · split
      · exact scnN_eq s n _ _ _ (by omega)
      · split
        · exact scnN_eq s n _ _ _ (by omega)
        · split
          · rw [scnN_eq s n _ _ _ (by omega)]
          · exact scnN_eq s n _ _ _ (by omega)
    · rfl
def exS : ByteArray := ⟨#[98, 121, 116, 101, 115, 61, 48, 45, 52, 44, 32, 45, 51, 44, 50, 48, 45]⟩
theorem ex_scn : scnN (exS.extract 6 exS.size) 13 0 0 false = some [⟨#[48, 45, 52]⟩, ⟨#[45, 51]⟩, ⟨#[50, 48, 45]⟩] := by kernel_rfl
theorem ex_list : listF (exS.extract 6 exS.size) = some [⟨#[48, 45, 52]⟩, ⟨#[45, 51]⟩, ⟨#[50, 48, 45]⟩] := by
  unfold listF partsF
  rw [show cleanF (exS.extract 6 exS.size) = true by kernel_rfl, if_pos rfl, ← scnN_eq _ 13 0 0 false (of_decide_eq_true (by kernel_rfl)), ex_scn]
  kernel_rfl
theorem ex_parse : parseF exS 10 = ([(0, 5), (7, 10)], 0) := by
  unfold parseF
  rw [show pfx exS = true by kernel_rfl, if_pos rfl, ex_list]
  kernel_rfl
theorem list_ext_uptoR {α : Type} {es fs : List α} {n : Nat} (h1 : es.length = n) (h2 : fs.length = n) (h : ∀ i, i < n → es[i]? = fs[i]?) : es = fs := by
  apply List.ext_getElem?
  intro i
  by_cases hi : i < n
  · exact h i hi
  · rw [List.getElem?_eq_none (by omega), List.getElem?_eq_none (by omega)]
set_option maxRecDepth 100000 in
set_option maxHeartbeats 1000000 in
theorem are_any {w : World} {v u : Value} {es fs : List (Int × Int)} (h : RAt w v es) (k : RAt w u fs) (hn : es.length ≤ 1000) :
    Calls Tryd.prog 16 #[v, u] w fun e w' => e = .returned (.bool (decide (es = fs))) ∧ Ext w w' := by
  obtain ⟨A, cap, rfl, hr⟩ := h.parts
  obtain ⟨A', cap', rfl, hr'⟩ := k.parts
  clear h k
  obtain ⟨n, hxn⟩ : ∃ n, es.length = n := ⟨_, rfl⟩
  obtain ⟨m, hxm⟩ : ∃ m, fs.length = m := ⟨_, rfl⟩
  have HN := Lib.hid hxn
  have HM := Lib.hid hxm
  by_cases hnm : n = m
  · subst hnm
    rw [hxn] at hn hr ⊢
    rw [hxm] at hr' ⊢
    clear hxn hxm
    have hne : ((n : Int) == (n : Int)) = true := by simp
    go_enter Tryd.func16, Tryd.ntmps16
    go_wp2_with fail
    go_loopw [13] (fun i wr => ∃ k : Nat, k ≤ n ∧ i = .int .i64 k ∧ Ext w wr ∧ Hid (∀ i, i < k → es[i]? = fs[i]?)) (fun i _ => n - (intOf i).toNat)
    case atStart => exact ⟨0, by omega, rfl, Ext.refl w, Lib.hid (fun i hi => by omega)⟩
    case round =>
      obtain ⟨k, hk, rfl, hX, HI⟩ := hrel
      by_cases hlt : k < n
      · obtain ⟨g, rfl, hg⟩ := hr (by omega)
        obtain ⟨g', rfl, hg'⟩ := hr' (by omega)
        obtain ⟨x, hx⟩ : ∃ x, es[k]? = some x := ⟨es[k]'(by rw [HN.out]; exact hlt), by simp⟩
        obtain ⟨y, hy⟩ : ∃ y, fs[k]? = some y := ⟨fs[k]'(by rw [HM.out]; exact hlt), by simp⟩
        have hki : (k : Int) < (n : Int) := by omega
        have hk6 : (k : Int) < 1001 := by omega
        obtain ⟨x1, x2⟩ := x
        obtain ⟨y1, y2⟩ := y
        have a0 := fun q => (hX.drewN q).cell (hg k _ hx).1
        have a1 := fun q => (hX.drewN q).cell (hg k _ hx).2
        have b0 := fun q => (hX.drewN q).cell (hg' k _ hy).1
        have b1 := fun q => (hX.drewN q).cell (hg' k _ hy).2
        have HXY := Lib.hid (And.intro hx hy)
        have HNE : Hid ((x1, x2) ≠ (y1, y2) → decide (es = fs) = false) := Lib.hid (fun hne => decide_eq_false (fun e => by
          rw [e] at hx
          exact hne (Option.some.inj (hx.symm.trans hy))))
        have HGO : Hid ((x1, x2) = (y1, y2) → ∀ i, i < k + 1 → es[i]? = fs[i]?) := Lib.hid (fun he i hi => by
          by_cases e : i = k
          · subst e; rw [hx, hy, he]
          · exact HI.out i (by omega))
        clear hr hr' hg hg' hx hy
        by_cases h1 : x1 = y1
        · have h1' : (x1 != y1) = false := by simp [h1]
          by_cases h2 : x2 = y2
          · have h2' : (x2 != y2) = false := by simp [h2]
            have HEQ := Lib.hid (HGO.out (by rw [h1, h2]))
            clear h1 h2
            go_upto_region 6 with fail
            refine wp_region_quiet_lit (by kernel_rfl) (by kernel_rfl) ?_
            repeat (go_big_quiet_step (fail))
            refine wpQuiet_nil ?_
            rintro _ ⟨nq, rfl⟩
            go_wp2_with fail
            go_roundw
            case rel => exact ⟨k + 1, by omega, by go_num, hX.drewN _, HEQ⟩
            case measure => simp [intOf]; omega
          · have h2' : (x2 != y2) = true := by simp [h2]
            have HNE2 := Lib.hid (HNE.out (fun e => h2 (Prod.mk.inj e).2))
            clear h1 h2
            go_upto_region 6 with fail
            refine wp_region_quiet_lit (by kernel_rfl) (by kernel_rfl) ?_
            repeat (go_big_quiet_step (fail))
            refine wpQuiet_nil ?_
            rintro _ ⟨nq, rfl⟩
            go_wp2_with fail
            go_ret
            exact ⟨by rw [HNE2.out]; rfl, hX.drewN _⟩
        · have h1' : (x1 != y1) = true := by simp [h1]
          have HNE2 := Lib.hid (HNE.out (fun e => h1 (Prod.mk.inj e).1))
          clear h1
          go_upto_region 6 with fail
          refine wp_region_quiet_lit (by kernel_rfl) (by kernel_rfl) ?_
          repeat (go_big_quiet_step (fail))
          refine wpQuiet_nil ?_
          rintro _ ⟨nq, rfl⟩
          go_wp2_with fail
          go_ret
          exact ⟨by rw [HNE2.out]; rfl, hX.drewN _⟩
      · obtain rfl : k = n := by omega
        go_wp2_with fail
        go_ret
        exact ⟨ret_bool (by simp [list_ext_uptoR HN.out HM.out HI.out]), hX⟩
  · rw [hxn, hxm]
    have h2 : es ≠ fs := fun e => hnm (by rw [← hxn, ← hxm, e])
    have hne : ((n : Int) == (m : Int)) = false := by simp; omega
    rw [hxn] at hn
    clear hr hr' hxn hxm
    go_enter Tryd.func16, Tryd.ntmps16
    go_wp2_with fail
    go_ret
    exact ⟨ret_bool (by simp [h2]), Ext.refl w⟩
end Go.Proofs.YteamnofooicbeaaDoor
