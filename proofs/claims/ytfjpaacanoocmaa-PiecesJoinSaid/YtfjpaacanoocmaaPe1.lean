/- Chapter 20: the reference's Put refused: no such piece, or a wrong size. -/
import Derived.Test.YtfjpaacanoocmaaPcL
namespace Go.Proofs.Ytfjpaacanoocmaa
open Go.RowKit Go.Deep Go.Sort
set_option maxRecDepth 100000 in
theorem piece9_bad (i : Int) (len : Nat) (hl : len ≤ 65536) (hi : i < 0 ∨ (len : Int) ≤ i * 256) (h1 : i ≤ 9223372036854775807) (w : World) :
    Calls Try.prog 37 #[.int .i64 i, .int .i64 len] w fun e w' => e = .returned (.tuple #[rngV 0 0, .bool false]) ∧ Ext w w' := by
  rcases Int.lt_or_le i 0 with h | h
  · have a1 : ¬ ((65536 : Int) < len) := by omega
    have a5 : ¬ ((len : Int) < 0) := by omega
    clear hi
    go_enter Try.func37, Try.ntmps37
    go_wp2_with fail
    all_goals go_returns
    all_goals exact ⟨rfl, (Ext.refl w).alloc _⟩
  · obtain ⟨n, rfl⟩ : ∃ n : Nat, i = (n : Int) := ⟨i.toNat, by omega⟩
    exact piece9_out n len hl (by omega) (by omega) w
set_option maxRecDepth 100000 in
set_option maxHeartbeats 4000000 in
theorem rput_range {w : World} {d t len : Nat} {tag : ByteArray} (hl : len ≤ 65536) (i : Int) (hi : i < 0 ∨ (len : Int) ≤ i * 256) (h1 : i ≤ 9223372036854775807) (s : ByteArray) :
    Calls Try.prog 32 #[refV tag len d t, .int .i64 i, .string s] w fun e w' => e = .returned (.tuple #[refV tag len d t, .int .i64 1]) ∧ Ext w w' := by
  have HP := Lib.hid (fun W => piece9_bad i len hl hi h1 W)
  clear hi
  obtain ⟨ws, hws⟩ : ∃ ws, ws = (w.alloc (.cells #[.string tag, .int .i64 len, .slice (some ⟨d, 0, none⟩) (npc len) (npc len), .slice (some ⟨t, 0, none⟩) (npc len) (npc len)] 29)).alloc (.cells #[.string ⟨#[]⟩, .int .i64 0, .slice none 0 0, .slice none 0 0] 29) := ⟨_, rfl⟩
  have hX0 : Ext w ws := by rw [hws]; exact ((Ext.refl w).alloc _).alloc _
  have HR0 := Lib.hid (show RowB ws w.heap.size 29 [.string tag, .int .i64 len, .slice (some ⟨d, 0, none⟩) (npc len) (npc len), .slice (some ⟨t, 0, none⟩) (npc len) (npc len)] by rw [hws]; exact (RowB.laid w _ _).ext ((Ext.refl _).alloc _))
  have HR1 := Lib.hid (show RowB ws (w.heap.size + 1) 29 [.string ⟨#[]⟩, .int .i64 0, .slice none 0 0, .slice none 0 0] by rw [hws]; simpa using RowB.laid (w.alloc _) 29 [.string ⟨#[]⟩, .int .i64 0, .slice none 0 0, .slice none 0 0])
  go_enter Try.func32, Try.ntmps32
  go_upto_region 1 with fail
  rw [← hws]
  clear hws
  have b1 := HR0.out.cell (j := 1) rfl
  go_upto_region 2 with (first | (go_at_call 37; refine (HP.out _).mono ?_; rintro e w1 ⟨rfl, hx⟩))
  clear b1
  have X1 : Ext w w1 := hX0.trans hx
  have HM := Lib.hid (fun o => (HR1.out.ext hx).ext ((Ext.refl w1).alloc o))
  have b0 := fun o => ((HR0.out.ext hx).ext ((Ext.refl _).alloc o)).cell (j := 0) rfl
  have b1 := fun o => ((HR0.out.ext hx).ext ((Ext.refl _).alloc o)).cell (j := 1) rfl
  have b2 := fun o => ((HR0.out.ext hx).ext ((Ext.refl _).alloc o)).cell (j := 2) rfl
  have b3 := fun o => ((HR0.out.ext hx).ext ((Ext.refl _).alloc o)).cell (j := 3) rfl
  have z0 := fun o => (HM.out o).cell (j := 0) rfl
  have z1 := fun o => (HM.out o).cell (j := 1) rfl
  have z2 := fun o => (HM.out o).cell (j := 2) rfl
  have z3 := fun o => (HM.out o).cell (j := 3) rfl
  have f0 := fun o => (HM.out o).frozen (j := 0) (by simp)
  have f1 := fun o => (HM.out o).frozen (j := 1) (by simp)
  have f2 := fun o => (HM.out o).frozen (j := 2) (by simp)
  have f3 := fun o => (HM.out o).frozen (j := 3) (by simp)
  go_wp2_with fail
  have hz := ((((HM.out (.cells #[.int .i64 0, .int .i64 0] 67)).set 0 (.string tag) (by simp)).set 1 (.int .i64 len) (by simp)).set 2 (.slice (some ⟨d, 0, none⟩) (npc len) (npc len)) (by simp)).set 3 (.slice (some ⟨t, 0, none⟩) (npc len) (npc len)) (by simp)
  have y0 := hz.cell (j := 0) rfl
  have y1 := hz.cell (j := 1) rfl
  have y2 := hz.cell (j := 2) rfl
  have y3 := hz.cell (j := 3) rfl
  refine bodyPost_ret (by simp [results, Try.results32, go_sem, y0, y1, y2, y3]; try rfl) rfl ?_
  exact ⟨rfl, ((((X1.alloc _).setCell (Nat.le_succ _) _).setCell (Nat.le_succ _) _).setCell (Nat.le_succ _) _).setCell (Nat.le_succ _) _⟩
set_option maxRecDepth 100000 in
set_option maxHeartbeats 4000000 in
theorem rput_form {w : World} {d t len : Nat} {tag : ByteArray} (hl : len ≤ 65536) (i : Nat) (hi2 : i * 256 < len) (s : ByteArray) (hz : s.size ≠ pto i len - i * 256) (_hs : s.size ≤ 1000000) :
    Calls Try.prog 32 #[refV tag len d t, .int .i64 i, .string s] w fun e w' => e = .returned (.tuple #[refV tag len d t, .int .i64 2]) ∧ Ext w w' := by
  obtain ⟨z, hzz⟩ : ∃ z : Nat, ((pto i len : Nat) : Int) - (i : Int) * 256 = (z : Int) ∧ z ≠ s.size := ⟨pto i len - i * 256, by unfold pto; omega, fun e => hz e.symm⟩
  obtain ⟨e1, e2⟩ := hzz
  have q1 : ((s.size : Int) != (z : Int)) = true := by rw [bne_iff_ne]; omega
  have hz6 : (z : Int) ≤ 65536 := by unfold pto at e1; omega
  have hil : i ≤ 256 := by omega
  clear hz e2
  obtain ⟨ws, hws⟩ : ∃ ws, ws = (w.alloc (.cells #[.string tag, .int .i64 len, .slice (some ⟨d, 0, none⟩) (npc len) (npc len), .slice (some ⟨t, 0, none⟩) (npc len) (npc len)] 29)).alloc (.cells #[.string ⟨#[]⟩, .int .i64 0, .slice none 0 0, .slice none 0 0] 29) := ⟨_, rfl⟩
  have hX0 : Ext w ws := by rw [hws]; exact ((Ext.refl w).alloc _).alloc _
  have HR0 := Lib.hid (show RowB ws w.heap.size 29 [.string tag, .int .i64 len, .slice (some ⟨d, 0, none⟩) (npc len) (npc len), .slice (some ⟨t, 0, none⟩) (npc len) (npc len)] by rw [hws]; exact (RowB.laid w _ _).ext ((Ext.refl _).alloc _))
  have HR1 := Lib.hid (show RowB ws (w.heap.size + 1) 29 [.string ⟨#[]⟩, .int .i64 0, .slice none 0 0, .slice none 0 0] by rw [hws]; simpa using RowB.laid (w.alloc _) 29 [.string ⟨#[]⟩, .int .i64 0, .slice none 0 0, .slice none 0 0])
  go_enter Try.func32, Try.ntmps32
  go_upto_region 1 with fail
  rw [← hws]
  clear hws
  have b1 := HR0.out.cell (j := 1) rfl
  go_upto_region 2 with (first | (go_at_call 37; refine (piece9_in i len hl hi2 _).mono ?_; rintro e w1 ⟨rfl, hx⟩))
  clear b1
  have X1 : Ext w w1 := hX0.trans hx
  have HM := Lib.hid (fun o => (HR1.out.ext hx).ext ((Ext.refl w1).alloc o))
  have b0 := fun o => ((HR0.out.ext hx).ext ((Ext.refl _).alloc o)).cell (j := 0) rfl
  have b1 := fun o => ((HR0.out.ext hx).ext ((Ext.refl _).alloc o)).cell (j := 1) rfl
  have b2 := fun o => ((HR0.out.ext hx).ext ((Ext.refl _).alloc o)).cell (j := 2) rfl
  have b3 := fun o => ((HR0.out.ext hx).ext ((Ext.refl _).alloc o)).cell (j := 3) rfl
  have z0 := fun o => (HM.out o).cell (j := 0) rfl
  have z1 := fun o => (HM.out o).cell (j := 1) rfl
  have z2 := fun o => (HM.out o).cell (j := 2) rfl
  have z3 := fun o => (HM.out o).cell (j := 3) rfl
  have f0 := fun o => (HM.out o).frozen (j := 0) (by simp)
  have f1 := fun o => (HM.out o).frozen (j := 1) (by simp)
  have f2 := fun o => (HM.out o).frozen (j := 2) (by simp)
  have f3 := fun o => (HM.out o).frozen (j := 3) (by simp)
  go_wp2_with fail
  have hz := ((((HM.out (.cells #[.int .i64 ((i : Int) * 256), .int .i64 (pto i len : Nat)] 67)).set 0 (.string tag) (by simp)).set 1 (.int .i64 len) (by simp)).set 2 (.slice (some ⟨d, 0, none⟩) (npc len) (npc len)) (by simp)).set 3 (.slice (some ⟨t, 0, none⟩) (npc len) (npc len)) (by simp)
  have y0 := hz.cell (j := 0) rfl
  have y1 := hz.cell (j := 1) rfl
  have y2 := hz.cell (j := 2) rfl
  have y3 := hz.cell (j := 3) rfl
  refine bodyPost_ret (by simp [results, Try.results32, go_sem, y0, y1, y2, y3]; try rfl) rfl ?_
  exact ⟨rfl, ((((X1.alloc _).setCell (Nat.le_succ _) _).setCell (Nat.le_succ _) _).setCell (Nat.le_succ _) _).setCell (Nat.le_succ _) _⟩
end Go.Proofs.Ytfjpaacanoocmaa
