/- Chapter 09: the example; the law Parses. -/
import Derived.Test.YteamnofooicbeaaDoorRgN
namespace Go.Proofs.YteamnofooicbeaaDoor
open Go.RowKit Go.Maps
set_option maxRecDepth 100000 in
set_option maxHeartbeats 1000000 in
theorem awake_any (w : World) (hM : MaxL w) : Calls Tryd.prog 12 #[] w fun e w' => e = .returned (.bool true) ∧ Ext w w' := by
  have HP : Hid (Calls Tryd.prog 13 #[.string ⟨#[98, 121, 116, 101, 115, 61, 48, 45, 52, 44, 32, 45, 51, 44, 50, 48, 45]⟩, .int .i64 10] w fun e w' => (∃ v, e = .returned (.tuple #[v, .nilIface]) ∧ RAt w' v [(0, 5), (7, 10)]) ∧ Ext w w') := Lib.hid ((parse_any exS 10 (by decide) (by decide) w hM).mono (by
    rintro e w' ⟨⟨v, ev, rfl, h1, h2⟩, hx⟩
    rw [ex_parse] at h1 h2
    exact ⟨⟨v, by rw [h2]; rfl, h1⟩, hx⟩))
  go_enter Tryd.func12, Tryd.ntmps12
  go_upto_region 2 with (go_at_call 13; refine HP.out.mono ?_; rintro e w1 ⟨⟨v, rfl, hv⟩, hx1⟩)
  obtain ⟨wa, hwa⟩ : ∃ wa, wa = w1.alloc (.cells #[.int .i64 0, .int .i64 5, .int .i64 7, .int .i64 10] 43) := ⟨_, rfl⟩
  have XA : Ext w1 wa := by rw [hwa]; exact (Ext.refl w1).alloc _
  have HR : Hid (RAt wa (.slice (some ⟨w1.heap.size, 0, none⟩) 2 2) [(0, 5), (7, 10)]) := Lib.hid (by
    have hrow : RowB wa w1.heap.size 43 [.int .i64 0, .int .i64 5, .int .i64 7, .int .i64 10] := by rw [hwa]; exact row_laid _ _ _
    refine .inr ⟨_, _, rfl, fun i e he j u hj => ?_⟩
    match i, he with
    | 0, he =>
      cases he
      match j, hj with
      | 0, hj => cases hj; exact hrow.cell (j := 0) rfl
      | 1, hj => cases hj; exact hrow.cell (j := 1) rfl
      | j + 2, hj => simp [rcs2] at hj
    | 1, he =>
      cases he
      match j, hj with
      | 0, hj => cases hj; exact hrow.cell (j := 2) rfl
      | 1, hj => cases hj; exact hrow.cell (j := 3) rfl
      | j + 2, hj => simp [rcs2] at hj
    | i + 2, he => simp at he)
  have HA : Hid (Calls Tryd.prog 16 #[v, .slice (some ⟨w1.heap.size, 0, none⟩) 2 2] wa fun e w' => e = .returned (.bool true) ∧ Ext wa w') := Lib.hid (by
    have h := are_any (hv.ext XA) HR.out (by decide)
    rwa [decide_eq_true rfl] at h)
  have HX := Lib.hid (hx1.trans XA)
  clear hx1 XA hv HR
  go_wp2_with fail
  rw [← hwa]
  clear hwa
  refine HA.out.mono ?_
  rintro e w3 ⟨rfl, hx3⟩
  go_wp2_with fail
  go_ret
  exact ⟨rfl, HX.out.trans hx3⟩
theorem numC_any (c : Int) (w : World) : Calls Tryd.prog 15 #[errC c] w fun e w' => e = .returned (.int .i64 c) ∧ w = w' := by
  unfold errC
  split
  · rename_i h
    rw [h]
    exact num_nil w
  · exact num_err c w
theorem parse_len (s : ByteArray) (len : Int) : (parseF s len).1.length ≤ 8 := by
  have hels : ∀ (L : Int) (l : List ByteArray) (out : List (Int × Int)), elsF L l = some out → out.length ≤ l.length := by
    intro L l
    induction l with
    | nil => intro out h; cases h; simp
    | cons x r ih =>
      intro out h
      unfold elsF at h
      split at h
      · cases h
      · cases h2 : elsF L r with
        | none => rw [h2] at h; cases h
        | some q =>
          rw [h2] at h
          simp only [Option.map_some, Option.some.injEq] at h
          have := ih q h2
          rw [← h]
          split <;> simp <;> omega
  unfold parseF
  split
  · split
    · simp
    · split
      · simp
      · split
        · simp
        · rename_i out ho
          split
          · simp
          · split
            · simp
            · have := hels _ _ _ ho
              simp only
              omega
  · simp
set_option maxRecDepth 100000 in
set_option maxHeartbeats 1000000 in
theorem parses_law (s : ByteArray) (len : Int) (hl : -9223372036854775808 ≤ len ∧ len ≤ 9223372036854775807) (w : World) (hM : MaxL w) :
    Calls Tryd.prog 3 #[.string s, .int .i64 len] w fun e w' => e = .returned (.bool true) ∧ Ext w w' := by
  have HAW := Lib.hid (fun W (hW : Ext w W) => awake_any W (hM.ext hW))
  by_cases hs : s.size ≤ 500
  · have hs' : ¬ (500 : Int) < (s.size : Int) := by omega
    have HP := Lib.hid (fun W (hW : Ext w W) => parse_any s len hl (by omega) W (hM.ext hW))
    have HQ := Lib.hid (fun W => rparse_any s len hl (by omega) W)
    have hpl := parse_len s len
    obtain ⟨R, hR⟩ : ∃ R, (parseF s len).1 = R := ⟨_, rfl⟩
    obtain ⟨C, hC⟩ : ∃ C, (parseF s len).2 = C := ⟨_, rfl⟩
    rw [hR, hC] at HP HQ
    rw [hR] at hpl
    clear hR hC hs hM
    go_enter Tryd.func3, Tryd.ntmps3
    go_upto_region 3 with (go_at_call 12; refine (HAW.out _ (Ext.refl w)).mono ?_; rintro e w1 ⟨rfl, hx1⟩)
    go_upto_region 4 with (go_at_call 13; refine (HP.out _ hx1).mono ?_; rintro e w2 ⟨⟨v, ev, rfl, hv, rfl⟩, hx2⟩)
    go_upto_region 5 with (go_at_call 14; refine (HQ.out _).mono ?_; rintro e w3 ⟨⟨u, c, rfl, hu, rfl⟩, hx3⟩)
    have HA : Hid (Calls Tryd.prog 16 #[v, u] w3 fun e w' => e = .returned (.bool true) ∧ Ext w3 w') := Lib.hid (by
      have h := are_any (hv.ext hx3) hu (by omega)
      rwa [decide_eq_true rfl] at h)
    have HX := Lib.hid ((hx1.trans hx2).trans hx3)
    clear hv hu hx1 hx2 hx3
    have hcc : (c == c) = true := by simp
    have HNU := Lib.hid (fun W => numC_any c W)
    go_wp2_with (first
      | (go_at_call 15; refine (HNU.out _).mono ?_; rintro e w4 ⟨rfl, rfl⟩)
      | (go_at_call 16; refine HA.out.mono ?_; rintro e w4 ⟨rfl, hx4⟩))
    go_ret
    exact ⟨rfl, HX.out.trans hx4⟩
  · have hs' : (500 : Int) < (s.size : Int) := by omega
    clear hM
    go_enter Tryd.func3, Tryd.ntmps3
    go_upto_region 2 with (go_at_call 12; refine (HAW.out _ (Ext.refl w)).mono ?_; rintro e w1 ⟨rfl, hx1⟩)
    go_wp2_with (go_at_call 12; refine (HAW.out _ hx1).mono ?_; rintro e w2 ⟨rfl, hx2⟩)
    go_ret
    exact ⟨rfl, hx1.trans hx2⟩
end Go.Proofs.YteamnofooicbeaaDoor
