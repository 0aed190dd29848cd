/- Chapter 20: PiecesJoin. -/
import Derived.Test.YtfjpaacanoocmaaPg1
import Derived.Test.YtfjpaacanoocmaaPg6
import Derived.Test.YtfjpaacanoocmaaPcT
import Derived.Test.YtfjpaacanoocmaaPf3
import Derived.Test.YtfjpaacanoocmaaAnyD
import Derived.Test.YtfjpaacanoocmaaPcP
namespace Go.Proofs.Ytfjpaacanoocmaa
open Go.RowKit Go.Deep Go.Sort
abbrev twoL (T0 T1 : ByteArray) (L0 L1 S0 S1 B0 B1 : Nat) : List Value := [.string T0, .string T1, .int .u16 L0, .int .u16 L1, .int .u8 S0, .int .u8 S1, .int .u8 B0, .int .u8 B1]
theorem row_ne {w : World} {d g n : Nat} {e1 e2 : TypeId} {f : Nat → Value} {xs : List Value} (h : w.rowIs d e1 n f) (k : RowB w g e2 xs) (hne : e1 ≠ e2) : d ≠ g := by
  rintro rfl
  obtain ⟨cur, hb, _⟩ := h
  obtain ⟨C, fr, rest, hg, _⟩ := k
  rw [hb] at hg
  injection hg with hg
  injection hg with _ he _
  exact hne he
theorem rr_ne {w : World} {d g n m : Nat} {e1 e2 : TypeId} {f h : Nat → Value} (a : w.rowIs d e1 n f) (k : w.rowIs g e2 m h) (hne : e1 ≠ e2) : d ≠ g := by
  rintro rfl
  obtain ⟨cur, hb, _⟩ := a
  obtain ⟨cur', hb', _⟩ := k
  rw [hb] at hb'
  injection hb' with hg
  injection hg with _ he _
  exact hne he
set_option maxRecDepth 100000 in
set_option maxHeartbeats 8000000 in
theorem join_law (T0 T1 : ByteArray) (L0 L1 S0 S1 B0 B1 : Nat) (hL0 : L0 < 65536) (hL1 : L1 < 65536) (hB0 : B0 < 256) (hB1 : B1 < 256) (w : World) :
    Calls Try.prog 7 #[.agg (twoL T0 T1 L0 L1 S0 S1 B0 B1).toArray] w fun e w' => e = .returned (.bool true) ∧ Ext w w' := by
  obtain ⟨w0, hw0⟩ : ∃ w0, w0 = w.alloc (.cells (twoL T0 T1 L0 L1 S0 S1 B0 B1).toArray 76) := ⟨_, rfl⟩
  have X0 : Ext w w0 := by rw [hw0]; exact (Ext.refl _).alloc _
  have HT := Lib.hid (show RowB w0 w.heap.size 76 (twoL T0 T1 L0 L1 S0 S1 B0 B1) by rw [hw0]; exact RowB.laid _ _ _)
  obtain ⟨x, hx⟩ : ∃ x, x = txS (L0 % 1300) S0 := ⟨_, rfl⟩
  obtain ⟨y, hy⟩ : ∃ y, y = txS (L1 % 1300) S1 := ⟨_, rfl⟩
  have HXS := Lib.hid (show x.size < 1300 by rw [hx, txS_size]; omega)
  have HYS := Lib.hid (show y.size < 1300 by rw [hy, txS_size]; omega)
  have HA := Lib.hid (fun W => text_any L0 S0 hL0 W)
  have HB := Lib.hid (fun W => text_any L1 S1 hL1 W)
  rw [← hx] at HA
  rw [← hy] at HB
  have GA := Lib.hid (fun W => held_ok T0 x B0 (by have := HXS.out; omega) hB0 W)
  have GB := Lib.hid (fun W => held_ok T1 y B1 (by have := HYS.out; omega) hB1 W)
  clear hx hy
  go_enter Try.func7, Try.ntmps7
  go_upto_region 1 with fail
  rw [← hw0]
  clear hw0
  have t0 := fun W (hW : Ext w0 W) => (HT.out.ext hW).cell (j := 0) rfl
  have t1 := fun W (hW : Ext w0 W) => (HT.out.ext hW).cell (j := 1) rfl
  have HT0 := Lib.hid t0
  have HT1 := Lib.hid t1
  clear t0 t1
  go_upto_if 25 with (go_at_call 9; refine (awake_any _).mono ?_; rintro e w1 ⟨rfl, hx1⟩; have t0 := HT0.out _ hx1; have t1 := HT1.out _ hx1)
  clear t0 t1
  obtain ⟨cc, hcc⟩ : ∃ cc : Bool, cc = decide (500 < wrap64 ((T0.size : Int) + (T1.size : Int))) := ⟨_, rfl⟩
  rw [← hcc]
  clear hcc
  cases cc
  case true =>
    go_wp2_with (go_at_call 9; refine (awake_any _).mono ?_; rintro e w2 ⟨rfl, hx2⟩)
    go_ret
    exact ⟨rfl, X0.trans (hx1.trans hx2)⟩
  have HT1' := Lib.hid (HT.out.ext hx1)
  go_upto_region 3 with fail
  go_cut [3, 4, 5] (fun pv mv kv wx => ∃ b l mb d s, pv = .pointer (some ⟨b, 0, none⟩) ∧ mv = .pointer (some ⟨mb, 0, none⟩) ∧ kv = .bool true ∧ Ext w1 wx ∧ BodyAt wx w1.heap.size (fun _ => False) b l T0 x.size (hD x B0) ∧ RefAt wx d s x.size (hD x B0) ∧ RowB wx mb 29 (refL T0 x.size d s) ∧ (d ≠ l ∧ s ≠ l ∧ mb ≠ l ∧ d ≠ mb ∧ s ≠ mb))
  case first =>
    refine wp_region_C (C := fun w' => Ext w1 w') (by kernel_rfl) ?_
    have HN1 := Lib.hid (show Ext w1 w1.drew from (Ext.refl _).drew)
    refine wpAnyC_take (i := 0) (v := .pointer (some ⟨w.heap.size, 0, none⟩)) rfl (by kernel_rfl) (by kernel_rfl) (by kernel_rfl) (fun _ _ _ h => h) HN1.out (by kernel_rfl) ?_ ?_
    · intro W hW; go_simp; try (with_reducible rfl)
    try simp only [Act.put, List.setIfInBounds_toArray]
    refine wpAnyC_take (i := 1) (v := .pointer (some ⟨w.heap.size, 0, none⟩)) rfl (by kernel_rfl) (by kernel_rfl) (by kernel_rfl) (fun _ _ _ h => h) HN1.out (by kernel_rfl) ?_ ?_
    · intro W hW; go_simp; try (with_reducible rfl)
    try simp only [Act.put]
    refine wpAnyC_take (i := 2) (v := .string T0) rfl (by kernel_rfl) (by kernel_rfl) (by kernel_rfl) (fun _ _ _ h => h) HN1.out (by kernel_rfl) ?_ ?_
    · intro W hW; have zz := (HT1'.out.ext hW).cell (j := 0) rfl; go_simp; try (with_reducible rfl)
    try simp only [Act.put]
    refine wpAnyC_take (i := 3) (v := .pointer (some ⟨w.heap.size, 2, none⟩)) rfl (by kernel_rfl) (by kernel_rfl) (by kernel_rfl) (fun _ _ _ h => h) HN1.out (by kernel_rfl) ?_ ?_
    · intro W hW; go_simp; try (with_reducible rfl)
    try simp only [Act.put]
    refine wpAnyC_take (i := 4) (v := .pointer (some ⟨w.heap.size, 2, none⟩)) rfl (by kernel_rfl) (by kernel_rfl) (by kernel_rfl) (fun _ _ _ h => h) HN1.out (by kernel_rfl) ?_ ?_
    · intro W hW; go_simp; try (with_reducible rfl)
    try simp only [Act.put]
    refine wpAnyC_take (i := 5) (v := .int .u16 L0) rfl (by kernel_rfl) (by kernel_rfl) (by kernel_rfl) (fun _ _ _ h => h) HN1.out (by kernel_rfl) ?_ ?_
    · intro W hW; have zz := (HT1'.out.ext hW).cell (j := 2) rfl; go_simp; try (with_reducible rfl)
    try simp only [Act.put]
    refine wpAnyC_take (i := 6) (v := .pointer (some ⟨w.heap.size, 4, none⟩)) rfl (by kernel_rfl) (by kernel_rfl) (by kernel_rfl) (fun _ _ _ h => h) HN1.out (by kernel_rfl) ?_ ?_
    · intro W hW; go_simp; try (with_reducible rfl)
    try simp only [Act.put]
    refine wpAnyC_take (i := 7) (v := .pointer (some ⟨w.heap.size, 4, none⟩)) rfl (by kernel_rfl) (by kernel_rfl) (by kernel_rfl) (fun _ _ _ h => h) HN1.out (by kernel_rfl) ?_ ?_
    · intro W hW; go_simp; try (with_reducible rfl)
    try simp only [Act.put]
    refine wpAnyC_take (i := 8) (v := .int .u8 S0) rfl (by kernel_rfl) (by kernel_rfl) (by kernel_rfl) (fun _ _ _ h => h) HN1.out (by kernel_rfl) ?_ ?_
    · intro W hW; have zz := (HT1'.out.ext hW).cell (j := 4) rfl; go_simp; try (with_reducible rfl)
    try simp only [Act.put]
    refine wpAnyC_take (i := 10) (v := .pointer (some ⟨w.heap.size, 6, none⟩)) rfl (by kernel_rfl) (by kernel_rfl) (by kernel_rfl) (fun _ _ _ h => h) HN1.out (by kernel_rfl) ?_ ?_
    · intro W hW; go_simp; try (with_reducible rfl)
    try simp only [Act.put]
    refine wpAnyC_take (i := 11) (v := .pointer (some ⟨w.heap.size, 6, none⟩)) rfl (by kernel_rfl) (by kernel_rfl) (by kernel_rfl) (fun _ _ _ h => h) HN1.out (by kernel_rfl) ?_ ?_
    · intro W hW; go_simp; try (with_reducible rfl)
    try simp only [Act.put]
    refine wpAnyC_take (i := 12) (v := .int .u8 B0) rfl (by kernel_rfl) (by kernel_rfl) (by kernel_rfl) (fun _ _ _ h => h) HN1.out (by kernel_rfl) ?_ ?_
    · intro W hW; have zz := (HT1'.out.ext hW).cell (j := 6) rfl; go_simp; try (with_reducible rfl)
    try simp only [Act.put]
    refine wpAnyC_two 9 18 (by kernel_rfl) ?_ ?_
    · refine wpOpC_of rfl (by kernel_rfl) (fun KK hKK => ?_)
      go_simp
      refine (HA.out _).mono ?_
      rintro e wt ⟨rfl, hxt⟩
      refine hKK _ _ (Ext.trans HN1.out hxt) ?_
      clear hKK KK
      try simp only [Act.put, List.setIfInBounds_toArray, List.set_cons_succ, List.set_cons_zero]
      refine wpAnyC_two 13 18 (by kernel_rfl) ?_ ?_
      · refine wpOpC_of rfl (by kernel_rfl) (fun KK hKK => ?_)
        go_simp
        refine (GA.out _).mono ?_
        rintro e wh ⟨b, l, d, s, rfl, hxh, hB, hR, hne⟩
        refine hKK _ _ (Ext.trans (Ext.trans HN1.out hxt) hxh) ?_
        clear hKK KK
        try simp only [Act.put, List.setIfInBounds_toArray, List.set_cons_succ, List.set_cons_zero]
        have XH := Ext.trans (Ext.trans HN1.out hxt) hxh
        have hlB : l < wh.heap.size := by obtain ⟨f, hf, _⟩ := hB.row; exact hf.lt
        refine wpAnyC_take (i := 14) (v := .tuple #[.pointer (some ⟨b, 0, none⟩), refV T0 x.size d s, .bool true]) rfl (by kernel_rfl) (by kernel_rfl) (by kernel_rfl) (fun _ _ _ h => h) XH (by kernel_rfl) ?_ ?_
        · intro W hW; go_simp; try (with_reducible rfl)
        change wpAnyC _ _ _ _ _ _ _ (Act.put _ (some 27) (.tuple #[.pointer (some ⟨b, 0, none⟩), refV T0 x.size d s, .bool true])) _
        try simp only [Act.put, List.setIfInBounds_toArray, List.set_cons_succ, List.set_cons_zero]
        refine wpAnyC_take (i := 15) (v := .pointer (some ⟨b, 0, none⟩)) rfl (by kernel_rfl) (by kernel_rfl) (by kernel_rfl) (fun _ _ _ h => h) XH (by kernel_rfl) ?_ ?_
        · intro W hW; go_simp; try (with_reducible rfl)
        change wpAnyC _ _ _ _ _ _ _ (Act.put _ (some 42) (.pointer (some ⟨b, 0, none⟩))) _
        try simp only [Act.put, List.setIfInBounds_toArray, List.set_cons_succ, List.set_cons_zero]
        refine wpAnyC_take (i := 16) (v := refV T0 x.size d s) rfl (by kernel_rfl) (by kernel_rfl) (by kernel_rfl) (fun _ _ _ h => h) XH (by kernel_rfl) ?_ ?_
        · intro W hW; go_simp; try (with_reducible rfl)
        change wpAnyC _ _ _ _ _ _ _ (Act.put _ (some 43) (refV T0 x.size d s)) _
        try simp only [Act.put, List.setIfInBounds_toArray, List.set_cons_succ, List.set_cons_zero]
        refine wpAnyC_take (i := 17) (v := .bool true) rfl (by kernel_rfl) (by kernel_rfl) (by kernel_rfl) (fun _ _ _ h => h) XH (by kernel_rfl) ?_ ?_
        · intro W hW; go_simp; try (with_reducible rfl)
        change wpAnyC _ _ _ _ _ _ _ (Act.put _ (some 44) (.bool true)) _
        try simp only [Act.put, List.setIfInBounds_toArray, List.set_cons_succ, List.set_cons_zero]
        refine wpAnyC_one 18 (by kernel_rfl) rfl (by kernel_rfl) (fun KK hKK => ?_)
        go_simp
        refine hKK _ _ (Ext.alloc XH _) ?_
        clear hKK KK
        try try simp only [Act.put, List.setIfInBounds_toArray, List.set_cons_succ, List.set_cons_zero]
        refine wpAnyC_one 19 (by kernel_rfl) rfl (by kernel_rfl) (fun KK hKK => ?_)
        go_simp
        refine hKK _ _ (Ext.alloc XH _) ?_
        clear hKK KK
        try simp only [Act.put, List.setIfInBounds_toArray, List.set_cons_succ, List.set_cons_zero]
        refine wpAnyC_one 20 (by kernel_rfl) rfl (by kernel_rfl) (fun KK hKK => ?_)
        go_simp
        refine hKK _ _ (Ext.alloc XH _) ?_
        clear hKK KK
        try simp only [Act.put, List.setIfInBounds_toArray, List.set_cons_succ, List.set_cons_zero]
        refine wpAnyC_one 21 (by kernel_rfl) rfl (by kernel_rfl) (fun KK hKK => ?_)
        go_simp
        refine hKK _ _ (Ext.alloc XH _) ?_
        clear hKK KK
        try simp only [Act.put, List.setIfInBounds_toArray, List.set_cons_succ, List.set_cons_zero]
        refine ⟨by kernel_rfl, ?_⟩
        go_wp2_with fail
        go_meet
        obtain ⟨q1, q2, q3⟩ := slot_new (tag := T0) (len := x.size) XH hR
        exact ⟨b, l, wh.heap.size, d, s, rfl, rfl, rfl, q1, (hB.more (Ext.size (Ext.trans HN1.out hxt))).ext ((Ext.refl wh).alloc _), q3, q2, hne.1, hne.2, by omega, by have := hR.data.lt; omega, by have := hR.there.lt; omega⟩
      · refine wpOpC_of rfl (by kernel_rfl) (fun KK hKK => ?_)
        go_simp
        refine hKK _ _ (Ext.alloc (Ext.trans HN1.out hxt) _) ?_
        clear hKK KK
        try try simp only [Act.put, List.setIfInBounds_toArray, List.set_cons_succ, List.set_cons_zero]
        refine wpAnyC_one 13 (by kernel_rfl) rfl (by kernel_rfl) (fun KK hKK => ?_)
        go_simp
        refine (GA.out _).mono ?_
        rintro e wh ⟨b, l, d, s, rfl, hxh, hB, hR, hne⟩
        refine hKK _ _ (Ext.trans (Ext.alloc (Ext.trans HN1.out hxt) _) hxh) ?_
        clear hKK KK
        try simp only [Act.put, List.setIfInBounds_toArray, List.set_cons_succ, List.set_cons_zero]
        have XH := Ext.trans (Ext.alloc (Ext.trans HN1.out hxt) _) hxh
        have hlB : l < wh.heap.size := by obtain ⟨f, hf, _⟩ := hB.row; exact hf.lt
        refine wpAnyC_take (i := 14) (v := .tuple #[.pointer (some ⟨b, 0, none⟩), refV T0 x.size d s, .bool true]) rfl (by kernel_rfl) (by kernel_rfl) (by kernel_rfl) (fun _ _ _ h => h) XH (by kernel_rfl) ?_ ?_
        · intro W hW; go_simp; try (with_reducible rfl)
        change wpAnyC _ _ _ _ _ _ _ (Act.put _ (some 27) (.tuple #[.pointer (some ⟨b, 0, none⟩), refV T0 x.size d s, .bool true])) _
        try simp only [Act.put, List.setIfInBounds_toArray, List.set_cons_succ, List.set_cons_zero]
        refine wpAnyC_take (i := 15) (v := .pointer (some ⟨b, 0, none⟩)) rfl (by kernel_rfl) (by kernel_rfl) (by kernel_rfl) (fun _ _ _ h => h) XH (by kernel_rfl) ?_ ?_
        · intro W hW; go_simp; try (with_reducible rfl)
        change wpAnyC _ _ _ _ _ _ _ (Act.put _ (some 42) (.pointer (some ⟨b, 0, none⟩))) _
        try simp only [Act.put, List.setIfInBounds_toArray, List.set_cons_succ, List.set_cons_zero]
        refine wpAnyC_take (i := 16) (v := refV T0 x.size d s) rfl (by kernel_rfl) (by kernel_rfl) (by kernel_rfl) (fun _ _ _ h => h) XH (by kernel_rfl) ?_ ?_
        · intro W hW; go_simp; try (with_reducible rfl)
        change wpAnyC _ _ _ _ _ _ _ (Act.put _ (some 43) (refV T0 x.size d s)) _
        try simp only [Act.put, List.setIfInBounds_toArray, List.set_cons_succ, List.set_cons_zero]
        refine wpAnyC_take (i := 17) (v := .bool true) rfl (by kernel_rfl) (by kernel_rfl) (by kernel_rfl) (fun _ _ _ h => h) XH (by kernel_rfl) ?_ ?_
        · intro W hW; go_simp; try (with_reducible rfl)
        change wpAnyC _ _ _ _ _ _ _ (Act.put _ (some 44) (.bool true)) _
        try simp only [Act.put, List.setIfInBounds_toArray, List.set_cons_succ, List.set_cons_zero]
        have hzr : RowB wh wt.heap.size 29 [.string ⟨#[]⟩, .int .i64 0, .slice none 0 0, .slice none 0 0] := RowB.ext (RowB.laid wt _ _) hxh
        have z0 := hzr.cell (j := 0) rfl
        have y0 := hzr.frozen (j := 0) (by simp)
        have z1 := hzr.cell (j := 1) rfl
        have y1 := hzr.frozen (j := 1) (by simp)
        have z2 := hzr.cell (j := 2) rfl
        have y2 := hzr.frozen (j := 2) (by simp)
        have z3 := hzr.cell (j := 3) rfl
        have y3 := hzr.frozen (j := 3) (by simp)
        have hnb : w1.heap.size ≤ wt.heap.size := Nat.le_trans HN1.out.size hxt.size
        have hlt : wt.heap.size < l := by have h := hB.hl; simp at h; omega
        have hbb : wt.heap.size < wh.heap.size := hzr.lt
        have n1 : d ≠ wt.heap.size := row_ne hR.data hzr (by decide)
        have n2 : s ≠ wt.heap.size := row_ne hR.there hzr (by decide)
        obtain ⟨q1, q2, q3⟩ := slot_set (tag := T0) (len := x.size) XH hnb hzr hR n1 n2
        have HQ := Lib.hid (And.intro q1 (And.intro q2 q3))
        have hBh : BodyAt (sSt wh wt.heap.size T0 x.size d s) w1.heap.size (fun _ => False) b l T0 x.size (hD x B0) := (((hB.avoid (fun q => q = wt.heap.size) (fun k hk => .inr (.inl (by subst hk; exact (by show wt.heap.size < _; simp))))).kept (sSt_kept wh wt.heap.size T0 x.size d s) rfl).avoid _ (fun k hk => hk.elim)).more (Nat.le_trans hnb (by simp))
        have HBH := Lib.hid hBh
        clear q1 q2 q3 hBh
        refine wpAnyC_one 19 (by kernel_rfl) rfl (by kernel_rfl) (fun KK hKK => ?_)
        go_simp
        refine hKK _ _ XH ?_
        clear hKK KK
        try simp only [Act.put, List.setIfInBounds_toArray, List.set_cons_succ, List.set_cons_zero]
        refine wpAnyC_one 20 (by kernel_rfl) rfl (by kernel_rfl) (fun KK hKK => ?_)
        go_simp
        refine hKK _ _ ((((XH.setCell hnb _).setCell hnb _).setCell hnb _).setCell hnb _) ?_
        clear hKK KK
        try simp only [Act.put, List.setIfInBounds_toArray, List.set_cons_succ, List.set_cons_zero]
        refine wpAnyC_one 21 (by kernel_rfl) rfl (by kernel_rfl) (fun KK hKK => ?_)
        go_simp
        refine hKK _ _ ((((XH.setCell hnb _).setCell hnb _).setCell hnb _).setCell hnb _) ?_
        clear hKK KK
        try simp only [Act.put, List.setIfInBounds_toArray, List.set_cons_succ, List.set_cons_zero]
        refine ⟨by kernel_rfl, ?_⟩
        go_wp2_with fail
        go_meet
        exact ⟨b, l, wt.heap.size, d, s, rfl, rfl, rfl, HQ.out.1, HBH.out, HQ.out.2.2, HQ.out.2.1, hne.1, hne.2, by omega, n1, n2⟩
    · refine wpOpC_of rfl (by kernel_rfl) (fun KK hKK => ?_)
      go_simp
      refine hKK _ _ (Ext.alloc HN1.out _) ?_
      clear hKK KK
      try try simp only [Act.put, List.setIfInBounds_toArray, List.set_cons_succ, List.set_cons_zero]
      refine wpAnyC_one 9 (by kernel_rfl) rfl (by kernel_rfl) (fun KK hKK => ?_)
      go_simp
      refine (HA.out _).mono ?_
      rintro e wt ⟨rfl, hxt⟩
      refine hKK _ _ (Ext.trans (Ext.alloc HN1.out _) hxt) ?_
      clear hKK KK
      try simp only [Act.put, List.setIfInBounds_toArray, List.set_cons_succ, List.set_cons_zero]
      refine wpAnyC_one 13 (by kernel_rfl) rfl (by kernel_rfl) (fun KK hKK => ?_)
      go_simp
      refine (GA.out _).mono ?_
      rintro e wh ⟨b, l, d, s, rfl, hxh, hB, hR, hne⟩
      refine hKK _ _ (Ext.trans (Ext.trans (Ext.alloc HN1.out _) hxt) hxh) ?_
      clear hKK KK
      try simp only [Act.put, List.setIfInBounds_toArray, List.set_cons_succ, List.set_cons_zero]
      have XH := Ext.trans (Ext.trans (Ext.alloc HN1.out _) hxt) hxh
      have hlB : l < wh.heap.size := by obtain ⟨f, hf, _⟩ := hB.row; exact hf.lt
      refine wpAnyC_take (i := 14) (v := .tuple #[.pointer (some ⟨b, 0, none⟩), refV T0 x.size d s, .bool true]) rfl (by kernel_rfl) (by kernel_rfl) (by kernel_rfl) (fun _ _ _ h => h) XH (by kernel_rfl) ?_ ?_
      · intro W hW; go_simp; try (with_reducible rfl)
      change wpAnyC _ _ _ _ _ _ _ (Act.put _ (some 27) (.tuple #[.pointer (some ⟨b, 0, none⟩), refV T0 x.size d s, .bool true])) _
      try simp only [Act.put, List.setIfInBounds_toArray, List.set_cons_succ, List.set_cons_zero]
      refine wpAnyC_take (i := 15) (v := .pointer (some ⟨b, 0, none⟩)) rfl (by kernel_rfl) (by kernel_rfl) (by kernel_rfl) (fun _ _ _ h => h) XH (by kernel_rfl) ?_ ?_
      · intro W hW; go_simp; try (with_reducible rfl)
      change wpAnyC _ _ _ _ _ _ _ (Act.put _ (some 42) (.pointer (some ⟨b, 0, none⟩))) _
      try simp only [Act.put, List.setIfInBounds_toArray, List.set_cons_succ, List.set_cons_zero]
      refine wpAnyC_take (i := 16) (v := refV T0 x.size d s) rfl (by kernel_rfl) (by kernel_rfl) (by kernel_rfl) (fun _ _ _ h => h) XH (by kernel_rfl) ?_ ?_
      · intro W hW; go_simp; try (with_reducible rfl)
      change wpAnyC _ _ _ _ _ _ _ (Act.put _ (some 43) (refV T0 x.size d s)) _
      try simp only [Act.put, List.setIfInBounds_toArray, List.set_cons_succ, List.set_cons_zero]
      refine wpAnyC_take (i := 17) (v := .bool true) rfl (by kernel_rfl) (by kernel_rfl) (by kernel_rfl) (fun _ _ _ h => h) XH (by kernel_rfl) ?_ ?_
      · intro W hW; go_simp; try (with_reducible rfl)
      change wpAnyC _ _ _ _ _ _ _ (Act.put _ (some 44) (.bool true)) _
      try simp only [Act.put, List.setIfInBounds_toArray, List.set_cons_succ, List.set_cons_zero]
      have hzr : RowB wh w1.heap.size 29 [.string ⟨#[]⟩, .int .i64 0, .slice none 0 0, .slice none 0 0] := RowB.ext (RowB.ext (RowB.laid w1.drew _ _) hxt) hxh
      have z0 := hzr.cell (j := 0) rfl
      have y0 := hzr.frozen (j := 0) (by simp)
      have z1 := hzr.cell (j := 1) rfl
      have y1 := hzr.frozen (j := 1) (by simp)
      have z2 := hzr.cell (j := 2) rfl
      have y2 := hzr.frozen (j := 2) (by simp)
      have z3 := hzr.cell (j := 3) rfl
      have y3 := hzr.frozen (j := 3) (by simp)
      have hnb : w1.heap.size ≤ w1.heap.size := Nat.le_refl _
      have hlt : w1.heap.size < l := by have h := hB.hl; have h2 := hxt.size; simp at h2; omega
      have hbb : w1.heap.size < wh.heap.size := hzr.lt
      have n1 : d ≠ w1.heap.size := row_ne hR.data hzr (by decide)
      have n2 : s ≠ w1.heap.size := row_ne hR.there hzr (by decide)
      obtain ⟨q1, q2, q3⟩ := slot_set (tag := T0) (len := x.size) XH hnb hzr hR n1 n2
      have HQ := Lib.hid (And.intro q1 (And.intro q2 q3))
      have hBh : BodyAt (sSt wh w1.heap.size T0 x.size d s) w1.heap.size (fun _ => False) b l T0 x.size (hD x B0) := (((hB.avoid (fun q => q = w1.heap.size) (fun k hk => .inr (.inl (by subst hk; exact (by have h2 := hxt.size; simp at h2; show w1.heap.size < _; omega))))).kept (sSt_kept wh w1.heap.size T0 x.size d s) rfl).avoid _ (fun k hk => hk.elim)).more (by have h2 := hxt.size; simp at h2; show w1.heap.size ≤ _; omega)
      have HBH := Lib.hid hBh
      clear q1 q2 q3 hBh
      refine wpAnyC_one 19 (by kernel_rfl) rfl (by kernel_rfl) (fun KK hKK => ?_)
      go_simp
      refine hKK _ _ XH ?_
      clear hKK KK
      try simp only [Act.put, List.setIfInBounds_toArray, List.set_cons_succ, List.set_cons_zero]
      refine wpAnyC_one 20 (by kernel_rfl) rfl (by kernel_rfl) (fun KK hKK => ?_)
      go_simp
      refine hKK _ _ ((((XH.setCell hnb _).setCell hnb _).setCell hnb _).setCell hnb _) ?_
      clear hKK KK
      try simp only [Act.put, List.setIfInBounds_toArray, List.set_cons_succ, List.set_cons_zero]
      refine wpAnyC_one 21 (by kernel_rfl) rfl (by kernel_rfl) (fun KK hKK => ?_)
      go_simp
      refine hKK _ _ ((((XH.setCell hnb _).setCell hnb _).setCell hnb _).setCell hnb _) ?_
      clear hKK KK
      try simp only [Act.put, List.setIfInBounds_toArray, List.set_cons_succ, List.set_cons_zero]
      refine ⟨by kernel_rfl, ?_⟩
      go_wp2_with fail
      go_meet
      exact ⟨b, l, w1.heap.size, d, s, rfl, rfl, rfl, HQ.out.1, HBH.out, HQ.out.2.2, HQ.out.2.1, hne.1, hne.2, by omega, n1, n2⟩
  case rest =>
    obtain ⟨b1, l1, m1, d1, s1, rfl, rfl, rfl, hxc, hB1, hR1, hM1, hE1⟩ := hcut
    have HT2' := Lib.hid (HT1'.out.ext hxc)
    have HBA := Lib.hid hB1
    have HRA := Lib.hid hR1
    have HMA := Lib.hid hM1
    have HEA := Lib.hid hE1
    have HXA := Lib.hid hxc
    clear hB1 hR1 hM1 hE1 hxc
    generalize wc = wa at *
    go_upto_region 4 with fail
    go_cut [6, 7, 8] (fun pv mv kv wx => ∃ b l mb d s, pv = .pointer (some ⟨b, 0, none⟩) ∧ mv = .pointer (some ⟨mb, 0, none⟩) ∧ kv = .bool true ∧ Ext wa wx ∧ BodyAt wx wa.heap.size (fun _ => False) b l T1 y.size (hD y B1) ∧ RefAt wx d s y.size (hD y B1) ∧ RowB wx mb 29 (refL T1 y.size d s) ∧ (d ≠ l ∧ s ≠ l ∧ mb ≠ l ∧ d ≠ mb ∧ s ≠ mb))
    case first =>
      refine wp_region_C (C := fun w' => Ext wa w') (by kernel_rfl) ?_
      have HN1 := Lib.hid (show Ext wa wa.drew from (Ext.refl _).drew)
      refine wpAnyC_take (i := 0) (v := .pointer (some ⟨w.heap.size, 0, none⟩)) rfl (by kernel_rfl) (by kernel_rfl) (by kernel_rfl) (fun _ _ _ h => h) HN1.out (by kernel_rfl) ?_ ?_
      · intro W hW; go_simp; try (with_reducible rfl)
      try simp only [Act.put, List.setIfInBounds_toArray]
      refine wpAnyC_take (i := 1) (v := .pointer (some ⟨w.heap.size, 1, none⟩)) rfl (by kernel_rfl) (by kernel_rfl) (by kernel_rfl) (fun _ _ _ h => h) HN1.out (by kernel_rfl) ?_ ?_
      · intro W hW; go_simp; try (with_reducible rfl)
      try simp only [Act.put]
      refine wpAnyC_take (i := 2) (v := .string T1) rfl (by kernel_rfl) (by kernel_rfl) (by kernel_rfl) (fun _ _ _ h => h) HN1.out (by kernel_rfl) ?_ ?_
      · intro W hW; have zz := (HT2'.out.ext hW).cell (j := 1) rfl; go_simp; try (with_reducible rfl)
      try simp only [Act.put]
      refine wpAnyC_take (i := 3) (v := .pointer (some ⟨w.heap.size, 2, none⟩)) rfl (by kernel_rfl) (by kernel_rfl) (by kernel_rfl) (fun _ _ _ h => h) HN1.out (by kernel_rfl) ?_ ?_
      · intro W hW; go_simp; try (with_reducible rfl)
      try simp only [Act.put]
      refine wpAnyC_take (i := 4) (v := .pointer (some ⟨w.heap.size, 3, none⟩)) rfl (by kernel_rfl) (by kernel_rfl) (by kernel_rfl) (fun _ _ _ h => h) HN1.out (by kernel_rfl) ?_ ?_
      · intro W hW; go_simp; try (with_reducible rfl)
      try simp only [Act.put]
      refine wpAnyC_take (i := 5) (v := .int .u16 L1) rfl (by kernel_rfl) (by kernel_rfl) (by kernel_rfl) (fun _ _ _ h => h) HN1.out (by kernel_rfl) ?_ ?_
      · intro W hW; have zz := (HT2'.out.ext hW).cell (j := 3) rfl; go_simp; try (with_reducible rfl)
      try simp only [Act.put]
      refine wpAnyC_take (i := 6) (v := .pointer (some ⟨w.heap.size, 4, none⟩)) rfl (by kernel_rfl) (by kernel_rfl) (by kernel_rfl) (fun _ _ _ h => h) HN1.out (by kernel_rfl) ?_ ?_
      · intro W hW; go_simp; try (with_reducible rfl)
      try simp only [Act.put]
      refine wpAnyC_take (i := 7) (v := .pointer (some ⟨w.heap.size, 5, none⟩)) rfl (by kernel_rfl) (by kernel_rfl) (by kernel_rfl) (fun _ _ _ h => h) HN1.out (by kernel_rfl) ?_ ?_
      · intro W hW; go_simp; try (with_reducible rfl)
      try simp only [Act.put]
      refine wpAnyC_take (i := 8) (v := .int .u8 S1) rfl (by kernel_rfl) (by kernel_rfl) (by kernel_rfl) (fun _ _ _ h => h) HN1.out (by kernel_rfl) ?_ ?_
      · intro W hW; have zz := (HT2'.out.ext hW).cell (j := 5) rfl; go_simp; try (with_reducible rfl)
      try simp only [Act.put]
      refine wpAnyC_take (i := 10) (v := .pointer (some ⟨w.heap.size, 6, none⟩)) rfl (by kernel_rfl) (by kernel_rfl) (by kernel_rfl) (fun _ _ _ h => h) HN1.out (by kernel_rfl) ?_ ?_
      · intro W hW; go_simp; try (with_reducible rfl)
      try simp only [Act.put]
      refine wpAnyC_take (i := 11) (v := .pointer (some ⟨w.heap.size, 7, none⟩)) rfl (by kernel_rfl) (by kernel_rfl) (by kernel_rfl) (fun _ _ _ h => h) HN1.out (by kernel_rfl) ?_ ?_
      · intro W hW; go_simp; try (with_reducible rfl)
      try simp only [Act.put]
      refine wpAnyC_take (i := 12) (v := .int .u8 B1) rfl (by kernel_rfl) (by kernel_rfl) (by kernel_rfl) (fun _ _ _ h => h) HN1.out (by kernel_rfl) ?_ ?_
      · intro W hW; have zz := (HT2'.out.ext hW).cell (j := 7) rfl; go_simp; try (with_reducible rfl)
      try simp only [Act.put]
      refine wpAnyC_two 9 18 (by kernel_rfl) ?_ ?_
      · refine wpOpC_of rfl (by kernel_rfl) (fun KK hKK => ?_)
        go_simp
        refine (HB.out _).mono ?_
        rintro e wt ⟨rfl, hxt⟩
        refine hKK _ _ (Ext.trans HN1.out hxt) ?_
        clear hKK KK
        try simp only [Act.put, List.setIfInBounds_toArray, List.set_cons_succ, List.set_cons_zero]
        refine wpAnyC_two 13 18 (by kernel_rfl) ?_ ?_
        · refine wpOpC_of rfl (by kernel_rfl) (fun KK hKK => ?_)
          go_simp
          refine (GB.out _).mono ?_
          rintro e wh ⟨b, l, d, s, rfl, hxh, hB, hR, hne⟩
          refine hKK _ _ (Ext.trans (Ext.trans HN1.out hxt) hxh) ?_
          clear hKK KK
          try simp only [Act.put, List.setIfInBounds_toArray, List.set_cons_succ, List.set_cons_zero]
          have XH := Ext.trans (Ext.trans HN1.out hxt) hxh
          have hlB : l < wh.heap.size := by obtain ⟨f, hf, _⟩ := hB.row; exact hf.lt
          refine wpAnyC_take (i := 14) (v := .tuple #[.pointer (some ⟨b, 0, none⟩), refV T1 y.size d s, .bool true]) rfl (by kernel_rfl) (by kernel_rfl) (by kernel_rfl) (fun _ _ _ h => h) XH (by kernel_rfl) ?_ ?_
          · intro W hW; go_simp; try (with_reducible rfl)
          change wpAnyC _ _ _ _ _ _ _ (Act.put _ (some 45) (.tuple #[.pointer (some ⟨b, 0, none⟩), refV T1 y.size d s, .bool true])) _
          try simp only [Act.put, List.setIfInBounds_toArray, List.set_cons_succ, List.set_cons_zero]
          refine wpAnyC_take (i := 15) (v := .pointer (some ⟨b, 0, none⟩)) rfl (by kernel_rfl) (by kernel_rfl) (by kernel_rfl) (fun _ _ _ h => h) XH (by kernel_rfl) ?_ ?_
          · intro W hW; go_simp; try (with_reducible rfl)
          change wpAnyC _ _ _ _ _ _ _ (Act.put _ (some 60) (.pointer (some ⟨b, 0, none⟩))) _
          try simp only [Act.put, List.setIfInBounds_toArray, List.set_cons_succ, List.set_cons_zero]
          refine wpAnyC_take (i := 16) (v := refV T1 y.size d s) rfl (by kernel_rfl) (by kernel_rfl) (by kernel_rfl) (fun _ _ _ h => h) XH (by kernel_rfl) ?_ ?_
          · intro W hW; go_simp; try (with_reducible rfl)
          change wpAnyC _ _ _ _ _ _ _ (Act.put _ (some 61) (refV T1 y.size d s)) _
          try simp only [Act.put, List.setIfInBounds_toArray, List.set_cons_succ, List.set_cons_zero]
          refine wpAnyC_take (i := 17) (v := .bool true) rfl (by kernel_rfl) (by kernel_rfl) (by kernel_rfl) (fun _ _ _ h => h) XH (by kernel_rfl) ?_ ?_
          · intro W hW; go_simp; try (with_reducible rfl)
          change wpAnyC _ _ _ _ _ _ _ (Act.put _ (some 62) (.bool true)) _
          try simp only [Act.put, List.setIfInBounds_toArray, List.set_cons_succ, List.set_cons_zero]
          refine wpAnyC_one 18 (by kernel_rfl) rfl (by kernel_rfl) (fun KK hKK => ?_)
          go_simp
          refine hKK _ _ (Ext.alloc XH _) ?_
          clear hKK KK
          try try simp only [Act.put, List.setIfInBounds_toArray, List.set_cons_succ, List.set_cons_zero]
          refine wpAnyC_one 19 (by kernel_rfl) rfl (by kernel_rfl) (fun KK hKK => ?_)
          go_simp
          refine hKK _ _ (Ext.alloc XH _) ?_
          clear hKK KK
          try simp only [Act.put, List.setIfInBounds_toArray, List.set_cons_succ, List.set_cons_zero]
          refine wpAnyC_one 20 (by kernel_rfl) rfl (by kernel_rfl) (fun KK hKK => ?_)
          go_simp
          refine hKK _ _ (Ext.alloc XH _) ?_
          clear hKK KK
          try simp only [Act.put, List.setIfInBounds_toArray, List.set_cons_succ, List.set_cons_zero]
          refine wpAnyC_one 21 (by kernel_rfl) rfl (by kernel_rfl) (fun KK hKK => ?_)
          go_simp
          refine hKK _ _ (Ext.alloc XH _) ?_
          clear hKK KK
          try simp only [Act.put, List.setIfInBounds_toArray, List.set_cons_succ, List.set_cons_zero]
          refine ⟨by kernel_rfl, ?_⟩
          go_wp2_with fail
          go_meet
          obtain ⟨q1, q2, q3⟩ := slot_new (tag := T1) (len := y.size) XH hR
          exact ⟨b, l, wh.heap.size, d, s, rfl, rfl, rfl, q1, (hB.more (Ext.size (Ext.trans HN1.out hxt))).ext ((Ext.refl wh).alloc _), q3, q2, hne.1, hne.2, by omega, by have := hR.data.lt; omega, by have := hR.there.lt; omega⟩
        · refine wpOpC_of rfl (by kernel_rfl) (fun KK hKK => ?_)
          go_simp
          refine hKK _ _ (Ext.alloc (Ext.trans HN1.out hxt) _) ?_
          clear hKK KK
          try try simp only [Act.put, List.setIfInBounds_toArray, List.set_cons_succ, List.set_cons_zero]
          refine wpAnyC_one 13 (by kernel_rfl) rfl (by kernel_rfl) (fun KK hKK => ?_)
          go_simp
          refine (GB.out _).mono ?_
          rintro e wh ⟨b, l, d, s, rfl, hxh, hB, hR, hne⟩
          refine hKK _ _ (Ext.trans (Ext.alloc (Ext.trans HN1.out hxt) _) hxh) ?_
          clear hKK KK
          try simp only [Act.put, List.setIfInBounds_toArray, List.set_cons_succ, List.set_cons_zero]
          have XH := Ext.trans (Ext.alloc (Ext.trans HN1.out hxt) _) hxh
          have hlB : l < wh.heap.size := by obtain ⟨f, hf, _⟩ := hB.row; exact hf.lt
          refine wpAnyC_take (i := 14) (v := .tuple #[.pointer (some ⟨b, 0, none⟩), refV T1 y.size d s, .bool true]) rfl (by kernel_rfl) (by kernel_rfl) (by kernel_rfl) (fun _ _ _ h => h) XH (by kernel_rfl) ?_ ?_
          · intro W hW; go_simp; try (with_reducible rfl)
          change wpAnyC _ _ _ _ _ _ _ (Act.put _ (some 45) (.tuple #[.pointer (some ⟨b, 0, none⟩), refV T1 y.size d s, .bool true])) _
          try simp only [Act.put, List.setIfInBounds_toArray, List.set_cons_succ, List.set_cons_zero]
          refine wpAnyC_take (i := 15) (v := .pointer (some ⟨b, 0, none⟩)) rfl (by kernel_rfl) (by kernel_rfl) (by kernel_rfl) (fun _ _ _ h => h) XH (by kernel_rfl) ?_ ?_
          · intro W hW; go_simp; try (with_reducible rfl)
          change wpAnyC _ _ _ _ _ _ _ (Act.put _ (some 60) (.pointer (some ⟨b, 0, none⟩))) _
          try simp only [Act.put, List.setIfInBounds_toArray, List.set_cons_succ, List.set_cons_zero]
          refine wpAnyC_take (i := 16) (v := refV T1 y.size d s) rfl (by kernel_rfl) (by kernel_rfl) (by kernel_rfl) (fun _ _ _ h => h) XH (by kernel_rfl) ?_ ?_
          · intro W hW; go_simp; try (with_reducible rfl)
          change wpAnyC _ _ _ _ _ _ _ (Act.put _ (some 61) (refV T1 y.size d s)) _
          try simp only [Act.put, List.setIfInBounds_toArray, List.set_cons_succ, List.set_cons_zero]
          refine wpAnyC_take (i := 17) (v := .bool true) rfl (by kernel_rfl) (by kernel_rfl) (by kernel_rfl) (fun _ _ _ h => h) XH (by kernel_rfl) ?_ ?_
          · intro W hW; go_simp; try (with_reducible rfl)
          change wpAnyC _ _ _ _ _ _ _ (Act.put _ (some 62) (.bool true)) _
          try simp only [Act.put, List.setIfInBounds_toArray, List.set_cons_succ, List.set_cons_zero]
          have hzr : RowB wh wt.heap.size 29 [.string ⟨#[]⟩, .int .i64 0, .slice none 0 0, .slice none 0 0] := RowB.ext (RowB.laid wt _ _) hxh
          have z0 := hzr.cell (j := 0) rfl
          have y0 := hzr.frozen (j := 0) (by simp)
          have z1 := hzr.cell (j := 1) rfl
          have y1 := hzr.frozen (j := 1) (by simp)
          have z2 := hzr.cell (j := 2) rfl
          have y2 := hzr.frozen (j := 2) (by simp)
          have z3 := hzr.cell (j := 3) rfl
          have y3 := hzr.frozen (j := 3) (by simp)
          have hnb : wa.heap.size ≤ wt.heap.size := Nat.le_trans HN1.out.size hxt.size
          have hlt : wt.heap.size < l := by have h := hB.hl; simp at h; omega
          have hbb : wt.heap.size < wh.heap.size := hzr.lt
          have n1 : d ≠ wt.heap.size := row_ne hR.data hzr (by decide)
          have n2 : s ≠ wt.heap.size := row_ne hR.there hzr (by decide)
          obtain ⟨q1, q2, q3⟩ := slot_set (tag := T1) (len := y.size) XH hnb hzr hR n1 n2
          have HQ := Lib.hid (And.intro q1 (And.intro q2 q3))
          have hBh : BodyAt (sSt wh wt.heap.size T1 y.size d s) wa.heap.size (fun _ => False) b l T1 y.size (hD y B1) := (((hB.avoid (fun q => q = wt.heap.size) (fun k hk => .inr (.inl (by subst hk; exact (by show wt.heap.size < _; simp))))).kept (sSt_kept wh wt.heap.size T1 y.size d s) rfl).avoid _ (fun k hk => hk.elim)).more (Nat.le_trans hnb (by simp))
          have HBH := Lib.hid hBh
          clear q1 q2 q3 hBh
          refine wpAnyC_one 19 (by kernel_rfl) rfl (by kernel_rfl) (fun KK hKK => ?_)
          go_simp
          refine hKK _ _ XH ?_
          clear hKK KK
          try simp only [Act.put, List.setIfInBounds_toArray, List.set_cons_succ, List.set_cons_zero]
          refine wpAnyC_one 20 (by kernel_rfl) rfl (by kernel_rfl) (fun KK hKK => ?_)
          go_simp
          refine hKK _ _ ((((XH.setCell hnb _).setCell hnb _).setCell hnb _).setCell hnb _) ?_
          clear hKK KK
          try simp only [Act.put, List.setIfInBounds_toArray, List.set_cons_succ, List.set_cons_zero]
          refine wpAnyC_one 21 (by kernel_rfl) rfl (by kernel_rfl) (fun KK hKK => ?_)
          go_simp
          refine hKK _ _ ((((XH.setCell hnb _).setCell hnb _).setCell hnb _).setCell hnb _) ?_
          clear hKK KK
          try simp only [Act.put, List.setIfInBounds_toArray, List.set_cons_succ, List.set_cons_zero]
          refine ⟨by kernel_rfl, ?_⟩
          go_wp2_with fail
          go_meet
          exact ⟨b, l, wt.heap.size, d, s, rfl, rfl, rfl, HQ.out.1, HBH.out, HQ.out.2.2, HQ.out.2.1, hne.1, hne.2, by omega, n1, n2⟩
      · refine wpOpC_of rfl (by kernel_rfl) (fun KK hKK => ?_)
        go_simp
        refine hKK _ _ (Ext.alloc HN1.out _) ?_
        clear hKK KK
        try try simp only [Act.put, List.setIfInBounds_toArray, List.set_cons_succ, List.set_cons_zero]
        refine wpAnyC_one 9 (by kernel_rfl) rfl (by kernel_rfl) (fun KK hKK => ?_)
        go_simp
        refine (HB.out _).mono ?_
        rintro e wt ⟨rfl, hxt⟩
        refine hKK _ _ (Ext.trans (Ext.alloc HN1.out _) hxt) ?_
        clear hKK KK
        try simp only [Act.put, List.setIfInBounds_toArray, List.set_cons_succ, List.set_cons_zero]
        refine wpAnyC_one 13 (by kernel_rfl) rfl (by kernel_rfl) (fun KK hKK => ?_)
        go_simp
        refine (GB.out _).mono ?_
        rintro e wh ⟨b, l, d, s, rfl, hxh, hB, hR, hne⟩
        refine hKK _ _ (Ext.trans (Ext.trans (Ext.alloc HN1.out _) hxt) hxh) ?_
        clear hKK KK
        try simp only [Act.put, List.setIfInBounds_toArray, List.set_cons_succ, List.set_cons_zero]
        have XH := Ext.trans (Ext.trans (Ext.alloc HN1.out _) hxt) hxh
        have hlB : l < wh.heap.size := by obtain ⟨f, hf, _⟩ := hB.row; exact hf.lt
        refine wpAnyC_take (i := 14) (v := .tuple #[.pointer (some ⟨b, 0, none⟩), refV T1 y.size d s, .bool true]) rfl (by kernel_rfl) (by kernel_rfl) (by kernel_rfl) (fun _ _ _ h => h) XH (by kernel_rfl) ?_ ?_
        · intro W hW; go_simp; try (with_reducible rfl)
        change wpAnyC _ _ _ _ _ _ _ (Act.put _ (some 45) (.tuple #[.pointer (some ⟨b, 0, none⟩), refV T1 y.size d s, .bool true])) _
        try simp only [Act.put, List.setIfInBounds_toArray, List.set_cons_succ, List.set_cons_zero]
        refine wpAnyC_take (i := 15) (v := .pointer (some ⟨b, 0, none⟩)) rfl (by kernel_rfl) (by kernel_rfl) (by kernel_rfl) (fun _ _ _ h => h) XH (by kernel_rfl) ?_ ?_
        · intro W hW; go_simp; try (with_reducible rfl)
        change wpAnyC _ _ _ _ _ _ _ (Act.put _ (some 60) (.pointer (some ⟨b, 0, none⟩))) _
        try simp only [Act.put, List.setIfInBounds_toArray, List.set_cons_succ, List.set_cons_zero]
        refine wpAnyC_take (i := 16) (v := refV T1 y.size d s) rfl (by kernel_rfl) (by kernel_rfl) (by kernel_rfl) (fun _ _ _ h => h) XH (by kernel_rfl) ?_ ?_
        · intro W hW; go_simp; try (with_reducible rfl)
        change wpAnyC _ _ _ _ _ _ _ (Act.put _ (some 61) (refV T1 y.size d s)) _
        try simp only [Act.put, List.setIfInBounds_toArray, List.set_cons_succ, List.set_cons_zero]
        refine wpAnyC_take (i := 17) (v := .bool true) rfl (by kernel_rfl) (by kernel_rfl) (by kernel_rfl) (fun _ _ _ h => h) XH (by kernel_rfl) ?_ ?_
        · intro W hW; go_simp; try (with_reducible rfl)
        change wpAnyC _ _ _ _ _ _ _ (Act.put _ (some 62) (.bool true)) _
        try simp only [Act.put, List.setIfInBounds_toArray, List.set_cons_succ, List.set_cons_zero]
        have hzr : RowB wh wa.heap.size 29 [.string ⟨#[]⟩, .int .i64 0, .slice none 0 0, .slice none 0 0] := RowB.ext (RowB.ext (RowB.laid wa.drew _ _) hxt) hxh
        have z0 := hzr.cell (j := 0) rfl
        have y0 := hzr.frozen (j := 0) (by simp)
        have z1 := hzr.cell (j := 1) rfl
        have y1 := hzr.frozen (j := 1) (by simp)
        have z2 := hzr.cell (j := 2) rfl
        have y2 := hzr.frozen (j := 2) (by simp)
        have z3 := hzr.cell (j := 3) rfl
        have y3 := hzr.frozen (j := 3) (by simp)
        have hnb : wa.heap.size ≤ wa.heap.size := Nat.le_refl _
        have hlt : wa.heap.size < l := by have h := hB.hl; have h2 := hxt.size; simp at h2; omega
        have hbb : wa.heap.size < wh.heap.size := hzr.lt
        have n1 : d ≠ wa.heap.size := row_ne hR.data hzr (by decide)
        have n2 : s ≠ wa.heap.size := row_ne hR.there hzr (by decide)
        obtain ⟨q1, q2, q3⟩ := slot_set (tag := T1) (len := y.size) XH hnb hzr hR n1 n2
        have HQ := Lib.hid (And.intro q1 (And.intro q2 q3))
        have hBh : BodyAt (sSt wh wa.heap.size T1 y.size d s) wa.heap.size (fun _ => False) b l T1 y.size (hD y B1) := (((hB.avoid (fun q => q = wa.heap.size) (fun k hk => .inr (.inl (by subst hk; exact (by have h2 := hxt.size; simp at h2; show wa.heap.size < _; omega))))).kept (sSt_kept wh wa.heap.size T1 y.size d s) rfl).avoid _ (fun k hk => hk.elim)).more (by have h2 := hxt.size; simp at h2; show wa.heap.size ≤ _; omega)
        have HBH := Lib.hid hBh
        clear q1 q2 q3 hBh
        refine wpAnyC_one 19 (by kernel_rfl) rfl (by kernel_rfl) (fun KK hKK => ?_)
        go_simp
        refine hKK _ _ XH ?_
        clear hKK KK
        try simp only [Act.put, List.setIfInBounds_toArray, List.set_cons_succ, List.set_cons_zero]
        refine wpAnyC_one 20 (by kernel_rfl) rfl (by kernel_rfl) (fun KK hKK => ?_)
        go_simp
        refine hKK _ _ ((((XH.setCell hnb _).setCell hnb _).setCell hnb _).setCell hnb _) ?_
        clear hKK KK
        try simp only [Act.put, List.setIfInBounds_toArray, List.set_cons_succ, List.set_cons_zero]
        refine wpAnyC_one 21 (by kernel_rfl) rfl (by kernel_rfl) (fun KK hKK => ?_)
        go_simp
        refine hKK _ _ ((((XH.setCell hnb _).setCell hnb _).setCell hnb _).setCell hnb _) ?_
        clear hKK KK
        try simp only [Act.put, List.setIfInBounds_toArray, List.set_cons_succ, List.set_cons_zero]
        refine ⟨by kernel_rfl, ?_⟩
        go_wp2_with fail
        go_meet
        exact ⟨b, l, wa.heap.size, d, s, rfl, rfl, rfl, HQ.out.1, HBH.out, HQ.out.2.2, HQ.out.2.1, hne.1, hne.2, by omega, n1, n2⟩
    case rest =>
      obtain ⟨b2, l2, m2, d2, s2, rfl, rfl, rfl, hxc2, hB2, hR2, hM2, -⟩ := hcut
      have hA2 := HBA.out.ext hxc2
      obtain ⟨f1, hf1, -⟩ := hA2.row
      have hl1 : l1 < wa.heap.size := by
        obtain ⟨f, hf, -⟩ := HBA.out.row
        exact hf.lt
      have hM12 := HMA.out.ext hxc2
      obtain ⟨q, DA, hokA, HJ, HRJ⟩ := joins_both hA2 (hB2.avoid (fun q => q = l1) (fun k hk => .inr (.inl (by subst hk; exact hl1)))) (hD_ok rfl) (hD_ok rfl) (by have := HXS.out; omega) (HRA.out.ext hxc2) hR2 hM12 hM2 ⟨HEA.out.1, HEA.out.2.1, HEA.out.2.2.1, rr_ne hR2.data hf1 (by decide), rr_ne hR2.there hf1 (by decide), fun e => row_ne hf1 hM2 (by decide) e.symm⟩
      have HJ' := Lib.hid HJ
      have HRJ' := Lib.hid HRJ
      have HOKA := Lib.hid hokA
      have XC := Lib.hid (X0.trans (hx1.trans (HXA.out.trans hxc2)))
      clear HJ HRJ hokA hA2 hf1 hl1 hM12 hB2 hR2 hM2 hxc2
      go_upto_region 8 with (go_at_call 19; refine HJ'.out.mono ?_; rintro e w7 ⟨ev, rfl, hnum, hbl, hA7, hB7, r17, r27, k17, k27⟩)
      have c0 := k17.cell (j := 0) rfl
      have c1 := k17.cell (j := 1) rfl
      have c2 := k17.cell (j := 2) rfl
      have c3 := k17.cell (j := 3) rfl
      have c4 := k27.cell (j := 0) rfl
      have c5 := k27.cell (j := 1) rfl
      have c6 := k27.cell (j := 2) rfl
      have c7 := k27.cell (j := 3) rfl
      have X7 : Ext w w7 := Below.trans XC.out (Below.mono hbl (X0.trans hx1).size)
      have HNUM := Lib.hid hnum
      have HA7 := Lib.hid hA7
      have HB7 := Lib.hid hB7
      have HR17 := Lib.hid r17
      have HR27 := Lib.hid r27
      have HK27 := Lib.hid k27
      clear hnum hbl hA7 hB7 r17 r27 k17 k27
      go_upto_region 9 with (go_at_call 34; refine (HRJ'.out _ HR17.out HR27.out).mono ?_; rintro e w8 ⟨d3, s3, rfl, hx8, hr3⟩)
      clear c0 c1 c2 c3 c4 c5 c6 c7
      obtain ⟨w9, hw9⟩ : ∃ w9, w9 = w8.alloc (.cells #[.string T0, .int .i64 x.size, .slice (some ⟨d3, 0, none⟩) (npc x.size) (npc x.size), .slice (some ⟨s3, 0, none⟩) (npc x.size) (npc x.size)] 29) := ⟨_, rfl⟩
      have X89 : Ext w8 w9 := by rw [hw9]; exact (Ext.refl _).alloc _
      have h10 : RowB w9 w8.heap.size 29 (refL T0 x.size d3 s3) := by rw [hw9]; exact RowB.laid _ _ _
      rw [← hw9]
      clear hw9
      have c0 := h10.cell (j := 0) rfl
      have c1 := h10.cell (j := 1) rfl
      have c2 := h10.cell (j := 2) rfl
      have c3 := h10.cell (j := 3) rfl
      have X79 := hx8.trans X89
      have HR9 := Lib.hid (hr3.ext X89)
      clear h10 hr3
      go_wp2_with (first
        | (go_at_call_of 33 (Value.pointer (some ⟨b2, 0, none⟩)); refine (is_true (HB7.out.ext (X79.trans hx10)) (HR27.out.ext (X79.trans hx10)) (hD_ok rfl) (by have := HYS.out; omega)).mono ?_; rintro e w11 ⟨rfl, hx11⟩)
        | (go_at_call_of 33 (Value.pointer (some ⟨b1, 0, none⟩)); refine (is_true (HA7.out.ext X79) HR9.out HOKA.out (by have := HXS.out; omega)).mono ?_; rintro e w10 ⟨rfl, hx10⟩; have k0 := (HK27.out.ext (X79.trans hx10)).cell (j := 0) rfl; have k1 := (HK27.out.ext (X79.trans hx10)).cell (j := 1) rfl; have k2 := (HK27.out.ext (X79.trans hx10)).cell (j := 2) rfl; have k3 := (HK27.out.ext (X79.trans hx10)).cell (j := 3) rfl)
        | (go_at_call 20; refine (HNUM.out _).mono ?_; rintro e w' ⟨rfl, rfl⟩)
        | (go_at_call 19; refine (join_none b1).mono ?_; rintro e w' ⟨rfl, rfl⟩)
        | (go_at_call 15; refine (is_err 3 _ (by decide)).mono ?_; rintro e w' ⟨rfl, rfl⟩))
      go_ret
      exact ⟨rfl, X7.trans (X79.trans (hx10.trans hx11))⟩
end Go.Proofs.Ytfjpaacanoocmaa
