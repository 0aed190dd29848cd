/- Chapter 20: the reference's Put where the piece is there with other bytes. -/
import Derived.Test.YtfjpaacanoocmaaPcL
namespace Go.Proofs.Ytfjpaacanoocmaa
open Go.RowKit Go.Deep Go.Sort
set_option maxRecDepth 100000 in
set_option maxHeartbeats 4000000 in
theorem rput_mixed {w : World} {d t len : Nat} {tag : ByteArray} {D : Nat → Option ByteArray} (h : RefAt w d t len D) (hl : len ≤ 65536) (i : Nat) (hi : i < npc len) (s s' : ByteArray)
    (hz : s.size = pto i len - i * 256) (hD : D i = some s') (hne : (s'.toList == s.toList) = false) :
    Calls Try.prog 32 #[refV tag len d t, .int .i64 i, .string s] w fun e w' => e = .returned (.tuple #[refV tag len d t, .int .i64 20]) ∧ Ext w w' := by
  have hn : npc len ≤ 256 := by unfold npc; omega
  have hi2 : i * 256 < len := by unfold npc at hi; omega
  have hc := h.there.cell hi
  have hd := h.data.cell hi
  rw [hD] at hc hd
  have hil : i ≤ 256 := by omega
  have e1 : ((pto i len : Nat) : Int) - (i : Int) * 256 = (s.size : Int) := by unfold pto at hz ⊢; omega
  have hpl : s.size ≤ 65536 := by unfold pto at hz; omega
  clear hz h hD
  obtain ⟨ws, hws⟩ : ∃ ws, ws = (w.alloc (.cells #[.string tag, .int .i64 len, .slice (some ⟨d, 0, none⟩) (npc len) (npc len), .slice (some ⟨t, 0, none⟩) (npc len) (npc len)] 29)).alloc (.cells #[.string ⟨#[]⟩, .int .i64 0, .slice none 0 0, .slice none 0 0] 29) := ⟨_, rfl⟩
  have hX0 : Ext w ws := by rw [hws]; exact ((Ext.refl w).alloc _).alloc _
  have HR0 := Lib.hid (show RowB ws w.heap.size 29 [.string tag, .int .i64 len, .slice (some ⟨d, 0, none⟩) (npc len) (npc len), .slice (some ⟨t, 0, none⟩) (npc len) (npc len)] by rw [hws]; exact (RowB.laid w _ _).ext ((Ext.refl _).alloc _))
  have HR1 := Lib.hid (show RowB ws (w.heap.size + 1) 29 [.string ⟨#[]⟩, .int .i64 0, .slice none 0 0, .slice none 0 0] by rw [hws]; simpa using RowB.laid (w.alloc _) 29 [.string ⟨#[]⟩, .int .i64 0, .slice none 0 0, .slice none 0 0])
  go_enter Try.func32, Try.ntmps32
  go_upto_region 1 with fail
  rw [← hws]
  clear hws
  have b1 := HR0.out.cell (j := 1) rfl
  go_upto_region 2 with (first | (go_at_call 37; refine (piece9_in i len hl hi2 _).mono ?_; rintro e w1 ⟨rfl, hx⟩))
  clear b1
  have X1 : Ext w w1 := hX0.trans hx
  have HM := Lib.hid (fun o => (HR1.out.ext hx).ext ((Ext.refl w1).alloc o))
  have b0 := fun o => ((HR0.out.ext hx).ext ((Ext.refl _).alloc o)).cell (j := 0) rfl
  have b1 := fun o => ((HR0.out.ext hx).ext ((Ext.refl _).alloc o)).cell (j := 1) rfl
  have b2 := fun o => ((HR0.out.ext hx).ext ((Ext.refl _).alloc o)).cell (j := 2) rfl
  have b3 := fun o => ((HR0.out.ext hx).ext ((Ext.refl _).alloc o)).cell (j := 3) rfl
  have z0 := fun o => (HM.out o).cell (j := 0) rfl
  have z1 := fun o => (HM.out o).cell (j := 1) rfl
  have z2 := fun o => (HM.out o).cell (j := 2) rfl
  have z3 := fun o => (HM.out o).cell (j := 3) rfl
  have f0 := fun o => (HM.out o).frozen (j := 0) (by simp)
  have f1 := fun o => (HM.out o).frozen (j := 1) (by simp)
  have f2 := fun o => (HM.out o).frozen (j := 2) (by simp)
  have f3 := fun o => (HM.out o).frozen (j := 3) (by simp)
  have hc1 : ∀ o, (w1.alloc o).cell? ⟨t, i, none⟩ = some (.bool true) := fun o => (X1.alloc o).cell hc
  have hd1 : ∀ o, (w1.alloc o).cell? ⟨d, i, none⟩ = some (.string s') := fun o => (X1.alloc o).cell hd
  clear hc hd
  go_wp2_with fail
  have hz := ((((HM.out (.cells #[.int .i64 ((i : Int) * 256), .int .i64 (pto i len : Nat)] 67)).set 0 (.string tag) (by simp)).set 1 (.int .i64 len) (by simp)).set 2 (.slice (some ⟨d, 0, none⟩) (npc len) (npc len)) (by simp)).set 3 (.slice (some ⟨t, 0, none⟩) (npc len) (npc len)) (by simp)
  have y0 := hz.cell (j := 0) rfl
  have y1 := hz.cell (j := 1) rfl
  have y2 := hz.cell (j := 2) rfl
  have y3 := hz.cell (j := 3) rfl
  refine bodyPost_ret (by simp [results, Try.results32, go_sem, y0, y1, y2, y3]; try rfl) rfl ?_
  exact ⟨rfl, ((((X1.alloc _).setCell (Nat.le_succ _) _).setCell (Nat.le_succ _) _).setCell (Nat.le_succ _) _).setCell (Nat.le_succ _) _⟩
end Go.Proofs.Ytfjpaacanoocmaa
