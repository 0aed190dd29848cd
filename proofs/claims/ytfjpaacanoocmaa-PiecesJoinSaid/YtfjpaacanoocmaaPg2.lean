/- Chapter 20: the reference's Join. -/
import Derived.Test.YtfjpaacanoocmaaPcS
import Derived.Test.YtfjpaacanoocmaaPf4
import Derived.Test.YtfjpaacanoocmaaPd9
import Derived.Test.YtfjpaacanoocmaaPe7
namespace Go.Proofs.Ytfjpaacanoocmaa
open Go.RowKit Go.Deep Go.Sort
theorem rput_fit {w : World} {d t len : Nat} {tag : ByteArray} {F : Nat → Option ByteArray} (h : RefAt w d t len F) (hl : len ≤ 65536) (i : Nat) (hi : i < npc len) (s : ByteArray) (hz : s.size = pto i len - i * 256) (hf : F i = none ∨ F i = some s) :
    Calls Try.prog 32 #[refV tag len d t, .int .i64 i, .string s] w fun e w' => ∃ d' t', e = .returned (.tuple #[refV tag len d' t', .int .i64 0]) ∧ Ext w w' ∧ (w.heap.size ≤ d' ∧ w.heap.size ≤ t') ∧ RefAt w' d' t' len (upd F i (some s)) := by
  rcases hf with hf | hf
  · refine (rput_ok h hl i hi s hz hf).mono ?_
    rintro e w' ⟨d', t', rfl, hx, hd, hr⟩
    exact ⟨d', t', rfl, hx, hd, hr⟩
  · refine (rput_same h hl i hi s hz hf).mono ?_
    rintro e w' ⟨d', t', rfl, hx, hd, hr⟩
    exact ⟨d', t', rfl, hx, hd, hr⟩
abbrev refL (tag : ByteArray) (len d t : Nat) : List Value := [.string tag, .int .i64 len, .slice (some ⟨d, 0, none⟩) (npc len) (npc len), .slice (some ⟨t, 0, none⟩) (npc len) (npc len)]
set_option maxRecDepth 100000 in
set_option maxHeartbeats 4000000 in
theorem rjoin_head {w : World} {d t len d' t' len' : Nat} {tag tag' : ByteArray} (hq : (tag.toList == tag'.toList) = false ∨ tag = ⟨#[]⟩ ∨ len ≠ len') :
    Calls Try.prog 34 #[refV tag len d t, refV tag' len' d' t'] w fun e w' => e = .returned (.tuple #[refV tag len d t, .int .i64 20]) ∧ Ext w w' := by
  obtain ⟨ws, hws⟩ : ∃ ws, ws = ((w.alloc (.cells (refL tag len d t).toArray 29)).alloc (.cells (refL tag' len' d' t').toArray 29)).alloc (.cells #[.string ⟨#[]⟩, .int .i64 0, .slice none 0 0, .slice none 0 0] 29) := ⟨_, rfl⟩
  have hX0 : Ext w ws := by rw [hws]; exact (((Ext.refl w).alloc _).alloc _).alloc _
  have R0 : RowB ws w.heap.size 29 (refL tag len d t) := by rw [hws]; exact ((RowB.laid w _ _).ext ((Ext.refl _).alloc _)).ext ((Ext.refl _).alloc _)
  have R1 : RowB ws (w.heap.size + 1) 29 (refL tag' len' d' t') := by rw [hws]; exact (by simpa using RowB.laid (w.alloc (.cells (refL tag len d t).toArray 29)) 29 (refL tag' len' d' t') : RowB _ (w.heap.size + 1) _ _).ext ((Ext.refl _).alloc _)
  have R2 : RowB ws (w.heap.size + 1 + 1) 29 [.string ⟨#[]⟩, .int .i64 0, .slice none 0 0, .slice none 0 0] := by rw [hws]; simpa using RowB.laid ((w.alloc (.cells (refL tag len d t).toArray 29)).alloc (.cells (refL tag' len' d' t').toArray 29)) 29 [.string ⟨#[]⟩, .int .i64 0, .slice none 0 0, .slice none 0 0]
  have HR2 := Lib.hid R2
  have a0 := R0.cell (j := 0) rfl
  have a1 := R0.cell (j := 1) rfl
  have a2 := R0.cell (j := 2) rfl
  have a3 := R0.cell (j := 3) rfl
  have b0 := R1.cell (j := 0) rfl
  have b1 := R1.cell (j := 1) rfl
  have z0 := R2.cell (j := 0) rfl
  have z1 := R2.cell (j := 1) rfl
  have z2 := R2.cell (j := 2) rfl
  have z3 := R2.cell (j := 3) rfl
  have f0 := R2.frozen (j := 0) (by simp)
  have f1 := R2.frozen (j := 1) (by simp)
  have f2 := R2.frozen (j := 2) (by simp)
  have f3 := R2.frozen (j := 3) (by simp)
  have hz := (((R2.set 0 (.string tag) (by simp)).set 1 (.int .i64 len) (by simp)).set 2 (.slice (some ⟨d, 0, none⟩) (npc len) (npc len)) (by simp)).set 3 (.slice (some ⟨t, 0, none⟩) (npc len) (npc len)) (by simp)
  have y0 := hz.cell (j := 0) rfl
  have y1 := hz.cell (j := 1) rfl
  have y2 := hz.cell (j := 2) rfl
  have y3 := hz.cell (j := 3) rfl
  have XE := (((hX0.setCell (p := ⟨w.heap.size + 1 + 1, 0, none⟩) (by show w.heap.size ≤ w.heap.size + 1 + 1; omega) (.string tag)).setCell (p := ⟨w.heap.size + 1 + 1, 1, none⟩) (by show w.heap.size ≤ w.heap.size + 1 + 1; omega) (.int .i64 len)).setCell (p := ⟨w.heap.size + 1 + 1, 2, none⟩) (by show w.heap.size ≤ w.heap.size + 1 + 1; omega) (.slice (some ⟨d, 0, none⟩) (npc len) (npc len))).setCell (p := ⟨w.heap.size + 1 + 1, 3, none⟩) (by show w.heap.size ≤ w.heap.size + 1 + 1; omega) (.slice (some ⟨t, 0, none⟩) (npc len) (npc len))
  have HY := Lib.hid (And.intro y0 (And.intro y1 (And.intro y2 y3)))
  have HXE := Lib.hid XE
  clear R0 R1 R2 hz y0 y1 y2 y3 XE
  by_cases h3 : len = len'
  · subst h3
    cases h1 : (tag.toList == tag'.toList) with
    | false =>
      clear hq
      go_enter Try.func34, Try.ntmps34
      go_upto_region 1 with fail
      rw [← hws]
      clear hws
      go_wp2_with fail
      obtain ⟨y0, y1, y2, y3⟩ := HY.out
      refine bodyPost_ret (by simp [results, Try.results34, go_sem, y0, y1, y2, y3]; try rfl) rfl ?_
      exact ⟨rfl, HXE.out⟩
    | true =>
      obtain rfl := ba_eq h1
      have h2 : tag = ⟨#[]⟩ := by rcases hq with h | h | h <;> simp_all
      subst h2
      clear hq h1
      go_enter Try.func34, Try.ntmps34
      go_upto_region 1 with fail
      rw [← hws]
      clear hws
      go_wp2_with fail
      obtain ⟨y0, y1, y2, y3⟩ := HY.out
      refine bodyPost_ret (by simp [results, Try.results34, go_sem, y0, y1, y2, y3]; try rfl) rfl ?_
      exact ⟨rfl, HXE.out⟩
  · have q2 : ((len : Int) != (len' : Int)) = true := by rw [bne_iff_ne]; omega
    clear hq h3
    go_enter Try.func34, Try.ntmps34
    go_upto_region 1 with fail
    rw [← hws]
    clear hws
    go_wp2_with fail
    obtain ⟨y0, y1, y2, y3⟩ := HY.out
    refine bodyPost_ret (by simp [results, Try.results34, go_sem, y0, y1, y2, y3]; try rfl) rfl ?_
    exact ⟨rfl, HXE.out⟩
end Go.Proofs.Ytfjpaacanoocmaa
