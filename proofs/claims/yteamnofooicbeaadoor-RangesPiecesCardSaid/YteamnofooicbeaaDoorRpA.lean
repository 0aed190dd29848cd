/- Chapter 09: lists of integers; the limits of a length; a piece. -/
import Derived.Test.YteamnofooicbeaaDoorRmE
import Derived.Test.YteamnofooicbeaaDoorQuiet
import Derived.Test.YteamnofooicbeaaDoorTail
import Derived.Handy
namespace Go.Proofs.YteamnofooicbeaaDoor
open Go.RowKit
/-- the number of pieces of a body of len bytes; where a piece ends -/
def npc (len : Nat) : Nat := (len + 255) / 256
def pto (i len : Nat) : Nat := min ((i + 1) * 256) len
abbrev rngV (a b : Int) : Value := .agg #[.int .i64 a, .int .i64 b]
theorem ret_rng {a b c d : Int} {v : Value} (h : a = c) (k : b = d) : Ending.returned (.tuple #[rngV a b, v]) = .returned (.tuple #[rngV c d, v]) := by rw [h, k]
def IntsOwn (w : World) (B : Nat) (v : Value) (xs : List Nat) : Prop := w.ownsRow B 3 1 v xs.length (xs.map fun n : Nat => .int .i64 (n : Int))
theorem int_info : (Tryd.prog.info? 3).map (fun i => (i.zero, i.size, i.bytes)) = some (some (.int .i64 0), 1, 8) := by kernel_rfl
/-- the pieces of a range -/
def pcs (f t : Nat) : List Nat := if f < t then List.range' (f / 256) ((t + 255) / 256 - f / 256) else []
theorem own_base {w : World} {base : Nat} {e : TypeId} {size : Nat} {v : Value} {n : Nat} {xs : List Value} (h : w.ownsRow base e size v n xs) : ∀ g, v.ownBlock = some g → base ≤ g := by
  intro g hg
  rcases h.2 with ⟨rfl, _⟩ | ⟨g', cap, cur, rfl, hb, _⟩
  · simp [Value.ownBlock] at hg
  · have e : g' = g := by simpa [Value.ownBlock] using hg
    omega
/-- 'append(out, m)' of one int onto a slice of the call's own -/
theorem wpList_append_int (w : World) {ops : Array Oper} {rest : List Oper} {o : Oper} {a : Act} {Q : Exit → Act → World → Prop} (hg : o.guard = none) (s x : Operand)
    (ho : o.op = .call { callee := .builtin .append, args := #[s, x], argTypes := #[77, 77] }) (B : Nat) {v : Value} {xs : List Nat} (m : Nat) (u : Int) (hown : IntsOwn w B v xs) (hu : u = (m : Int)) (hs : a.eval s = v)
    (hx : a.eval x = .slice (some ⟨w.heap.size, 0, none⟩) 1 1) (hlen : xs.length ≤ 1000000000) (hB : B ≤ w.heap.size)
    (h : ∀ v' w', IntsOwn w' B v' (xs ++ [m]) → Below B w w' → wpList Tryd.prog ops Q rest (a.put o.dst v') w') : wpList Tryd.prog ops Q (o :: rest) a (w.alloc (.cells #[.int .i64 u] 3)) := by
  subst hu
  obtain ⟨i0, hi0, hz0, hz1, hz2⟩ := info_parts int_info
  refine wpList_append_own _ hg s x 77 ho B 3 i0 (.int .i64 0) 1 8 Tryd.underlying77 hi0 hz0 hz1 hz2 rfl (by decide) v xs.length _ hs (hown.alloc _) ⟨w.heap.size, 0, none⟩ 1 1 [.int .i64 (m : Int)] hx rfl ?_ ?_ ?_ ?_ ?_ ?_
  · intro j y hj
    match j, hj with
    | 0, hj => simp at hj; subst hj; simp [Addr.add]
  · intro y hy; simp at hy; subst hy; rfl
  · simp only [maxLen]; omega
  · omega
  · simp; omega
  · intro v' w1 hown' hgrow _
    refine h v' w1 ?_ ?_
    · unfold IntsOwn
      rw [List.length_append, List.map_append]
      exact hown'
    · exact Below.grown (Below.alloc (Below.refl _ _) hB _) hgrow (by simp; omega) (own_base hown)
theorem clip_all (len : Int) (c : Nat) (hc : (c : Int) = max 0 (min len 65536)) (w : World) : Calls Tryd.prog 69 #[.int .i64 len] w fun e w' => e = .returned (.int .i64 c) ∧ w = w' := by
  have HC := Lib.hid hc
  clear hc
  go_enter Tryd.func69, Tryd.ntmps69
  go_wp2_with fail
  all_goals go_ret
  all_goals exact ⟨ret_int (by have := HC.out; omega), rfl⟩
set_option maxRecDepth 100000 in
theorem piece9_yes (i : Nat) (len : Int) (c : Nat) (hc : (c : Int) = max 0 (min len 65536)) (hi : i * 256 < c) (w : World) :
    Calls Tryd.prog 34 #[.int .i64 i, .int .i64 len] w fun e w' => e = .returned (.tuple #[rngV (i * 256 : Nat) (pto i c : Nat), .bool true]) ∧ Ext w w' := by
  have HC := Lib.hid hc
  have hc65 : (c : Int) ≤ 65536 := by omega
  have a2 : ¬ ((i : Int) < 0) := by omega
  have a3 : ¬ ((c : Int) ≤ i) := by omega
  have a4 : ¬ ((c : Int) ≤ (i : Int) * 256) := by omega
  clear hc
  go_enter Tryd.func34, Tryd.ntmps34
  go_upto_region 2 with fail
  rw [← HC.out]
  go_wp2_with fail
  all_goals go_returns
  all_goals exact ⟨ret_rng (by omega) (by unfold pto; omega), (Ext.refl w).alloc _⟩
set_option maxRecDepth 100000 in
theorem piece_yes (i : Nat) (len : Int) (c : Nat) (hc : (c : Int) = max 0 (min len 65536)) (hi : i * 256 < c) (w : World) :
    Calls Tryd.prog 33 #[.int .i64 i, .int .i64 len] w fun e w' => e = .returned (.tuple #[rngV (i * 256 : Nat) (pto i c : Nat), .nilIface]) ∧ Ext w w' := by
  have HC := Lib.hid hc
  have hc65 : (c : Int) ≤ 65536 := by omega
  have a2 : ¬ ((i : Int) < 0) := by omega
  have a3 : ¬ ((c : Int) / 256 < i) := by omega
  have a4 : ¬ ((c : Int) ≤ (i : Int) * 256) := by omega
  clear hc
  go_enter Tryd.func33, Tryd.ntmps33
  go_upto_region 2 with (go_at_call 69; refine (clip_all len c HC.out _).mono ?_; rintro e w1 ⟨rfl, rfl⟩)
  go_wp2_with fail
  all_goals go_returns
  all_goals exact ⟨ret_rng (by omega) (by unfold pto; omega), (Ext.refl w).alloc _⟩
set_option maxRecDepth 100000 in
theorem piece9_no (i : Int) (len : Int) (c : Nat) (hc : (c : Int) = max 0 (min len 65536)) (hi : i < 0 ∨ (c : Int) ≤ i * 256) (w : World) :
    Calls Tryd.prog 34 #[.int .i64 i, .int .i64 len] w fun e w' => e = .returned (.tuple #[rngV 0 0, .bool false]) ∧ Ext w w' := by
  have HC := Lib.hid hc
  have hc65 : (c : Int) ≤ 65536 := by omega
  clear hc
  by_cases h0 : i < 0
  · go_enter Tryd.func34, Tryd.ntmps34
    go_upto_region 2 with fail
    rw [← HC.out]
    go_wp2_with fail
    all_goals go_returns
    all_goals exact ⟨rfl, (Ext.refl w).alloc _⟩
  · by_cases h1 : (c : Int) ≤ i
    · clear hi
      go_enter Tryd.func34, Tryd.ntmps34
      go_upto_region 2 with fail
      rw [← HC.out]
      go_wp2_with fail
      all_goals go_returns
      all_goals exact ⟨rfl, (Ext.refl w).alloc _⟩
    · have a4 : (c : Int) ≤ i * 256 := hi.resolve_left h0
      clear hi
      go_enter Tryd.func34, Tryd.ntmps34
      go_upto_region 2 with fail
      rw [← HC.out]
      go_wp2_with fail
      all_goals go_returns
      all_goals exact ⟨rfl, (Ext.refl w).alloc _⟩
set_option maxRecDepth 100000 in
theorem piece_no (i : Int) (len : Int) (c : Nat) (hc : (c : Int) = max 0 (min len 65536)) (hi : i < 0 ∨ (c : Int) ≤ i * 256) (w : World) :
    Calls Tryd.prog 33 #[.int .i64 i, .int .i64 len] w fun e w' => e = .returned (.tuple #[rngV 0 0, errV 1]) ∧ Ext w w' := by
  have HC := Lib.hid hc
  have hc65 : (c : Int) ≤ 65536 := by omega
  clear hc
  by_cases h0 : i < 0
  · go_enter Tryd.func33, Tryd.ntmps33
    go_upto_region 2 with (go_at_call 69; refine (clip_all len c HC.out _).mono ?_; rintro e w1 ⟨rfl, rfl⟩)
    go_wp2_with fail
    all_goals go_returns
    all_goals exact ⟨rfl, by first | exact (Ext.refl w).alloc _ | exact Ext.setCell (Ext.setCell ((Ext.refl w).alloc _) (Nat.le_refl _) _) (Nat.le_refl _) _⟩
  · by_cases h1 : (c : Int) / 256 < i
    · clear hi
      go_enter Tryd.func33, Tryd.ntmps33
      go_upto_region 2 with (go_at_call 69; refine (clip_all len c HC.out _).mono ?_; rintro e w1 ⟨rfl, rfl⟩)
      go_wp2_with fail
      all_goals go_returns
      all_goals exact ⟨rfl, by first | exact (Ext.refl w).alloc _ | exact Ext.setCell (Ext.setCell ((Ext.refl w).alloc _) (Nat.le_refl _) _) (Nat.le_refl _) _⟩
    · have a4 : (c : Int) ≤ i * 256 := hi.resolve_left h0
      clear hi
      go_enter Tryd.func33, Tryd.ntmps33
      go_upto_region 2 with (go_at_call 69; refine (clip_all len c HC.out _).mono ?_; rintro e w1 ⟨rfl, rfl⟩)
      go_wp2_with fail
      all_goals go_returns
      all_goals exact ⟨rfl, by first | exact (Ext.refl w).alloc _ | exact Ext.setCell (Ext.setCell ((Ext.refl w).alloc _) (Nat.le_refl _) _) (Nat.le_refl _) _⟩
end Go.Proofs.YteamnofooicbeaaDoor
