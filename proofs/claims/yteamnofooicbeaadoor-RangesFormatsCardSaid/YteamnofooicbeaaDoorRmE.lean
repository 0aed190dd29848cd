/- Chapter 09: Of (ranges of the reference into those of the program); the reference's Has. -/
import Derived.Test.YteamnofooicbeaaDoorRmD
namespace Go.Proofs.YteamnofooicbeaaDoor
open Go.RowKit
/-- a slice that reads as a list of ranges, wherever it lies -/
def RIn (w : World) (v : Value) (xs : List (Int × Int)) : Prop := ∃ A cap, v = .slice A xs.length cap ∧ xs.length ≤ cap ∧ (0 < xs.length → ∃ a, A = some a ∧ ∀ i p, xs[i]? = some p → w.cell? (a.add (i * 2)) = some (.int .i64 p.1) ∧ w.cell? ⟨(a.add (i * 2)).block, (a.add (i * 2)).off + 1, none⟩ = some (.int .i64 p.2))
theorem RIn.ext {w w' : World} {v : Value} {xs : List (Int × Int)} (h : RIn w v xs) (hx : Ext w w') : RIn w' v xs := by
  obtain ⟨A, cap, e, hc, hr⟩ := h
  refine ⟨A, cap, e, hc, fun h0 => ?_⟩
  obtain ⟨a, e2, hg⟩ := hr h0
  exact ⟨a, e2, fun i p hp => ⟨hx.cell (hg i p hp).1, hx.cell (hg i p hp).2⟩⟩
theorem ROwn.rin {T : TypeId} {w : World} {B : Nat} {v : Value} {xs : List (Int × Int)} (h : ROwn T w B v xs) : RIn w v xs := by
  rcases h.shape with ⟨rfl, rfl⟩ | ⟨g, cap, rfl, h1, h2, h3, h4⟩
  · exact ⟨none, 0, rfl, Nat.le_refl _, fun h => by simp at h⟩
  · refine ⟨_, cap, rfl, h1, fun _ => ⟨_, rfl, fun i p hp => ?_⟩⟩
    rw [Addr.add_lit, Nat.zero_add]
    exact h4 i p hp
set_option maxRecDepth 100000 in
set_option maxHeartbeats 1000000 in
theorem of_any {w : World} {v : Value} {xs : List (Int × Int)} (h : RIn w v xs) (hn : xs.length ≤ 300) :
    Calls Tryd.prog 24 #[v] w fun e w' => ∃ v', e = .returned v' ∧ Ext w w' ∧ ROwn 37 w' w.heap.size v' xs ∧ (xs = [] → v' = .slice none 0 0) := by
  obtain ⟨A, cap, rfl, hcap, hr⟩ := h
  obtain ⟨n, hxn⟩ : ∃ n, xs.length = n := ⟨_, rfl⟩
  have HN := Lib.hid hxn
  rw [hxn] at hn hcap hr ⊢
  have HR := Lib.hid hr
  clear hr hxn
  go_enter Tryd.func24, Tryd.ntmps24
  go_wp2_with fail
  go_loopw [3, 8] (fun v i wr => ∃ k : Nat, k ≤ n ∧ i = .int .i64 k ∧ ROwn 37 wr w.heap.size v (xs.take k) ∧ Ext w wr ∧ (k = 0 → v = .slice none 0 0)) (fun _ i _ => n - (intOf i).toNat)
  case atStart => exact ⟨0, by omega, rfl, ROwn.nil _ _ _, Ext.refl _, fun _ => rfl⟩
  case round =>
    obtain ⟨k, hk, rfl, hown, hX, hni⟩ := hrel
    by_cases hlt : k < n
    · obtain ⟨a, rfl, hg⟩ := HR.out (by omega)
      have hki : (k : Int) < (n : Int) := by omega
      have hk6 : (k : Int) < 301 := by omega
      have hkc : k < cap := by omega
      obtain ⟨⟨f, t⟩, hr⟩ : ∃ r, xs[k]? = some r := ⟨_, List.getElem?_eq_getElem (by rw [HN.out]; exact hlt)⟩
      have c0 := hX.cell (hg k _ hr).1
      have c1 := hX.cell (hg k _ hr).2
      simp only at c0 c1
      have HT := Lib.hid (show xs.take (k + 1) = xs.take k ++ [(f, t)] by rw [List.take_add_one, hr]; rfl)
      have HLN := Lib.hid (show (xs.take k).length ≤ 300 by rw [List.length_take]; omega)
      have HO := Lib.hid hown
      have hsz := hX.size
      clear hr hg hown hni
      have hsz2 : w.heap.size ≤ (wr.alloc (.cells #[.int .i64 f, .int .i64 t] 43)).heap.size := Nat.le_trans hsz ((Ext.refl wr).alloc _).size
      go_wp2_with (at_builtin; refine wpList_append_r 37 23 Tryd.underlying23 rng_info (wr.alloc (.cells #[.int .i64 f, .int .i64 t] 43)) rfl (.tmp 12) (.tmp 18) rfl w.heap.size f t (HO.out.ext ((Ext.refl wr).alloc _)) rfl rfl (by simp) (by have := HLN.out; omega) hsz2 ?_)
      intro v' w3 hown' hb _
      rw [← HT.out] at hown'
      go_wp2_with fail
      go_roundw
      case rel => exact ⟨k + 1, by omega, by go_num, hown', Below.trans (hX.alloc _) hb, fun h => by omega⟩
      case measure => simp [intOf]; omega
    · obtain rfl : k = n := by omega
      rw [← HN.out, List.take_length] at hown
      have HO := Lib.hid hown
      have HNI := Lib.hid hni
      clear hown hni
      go_wp2_with fail
      go_ret
      exact ⟨_, rfl, hX, HO.out, fun h => HNI.out (by rw [← HN.out, h]; rfl)⟩
set_option maxRecDepth 100000 in
set_option maxHeartbeats 1000000 in
theorem has_any {w : World} {v : Value} {xs : List (Int × Int)} (h : RIn w v xs) (hn : xs.length ≤ 300) (o : Int) :
    Calls Tryd.prog 30 #[v, .int .i64 o] w fun e w' => ∃ c, e = .returned (.bool c) ∧ Hid (c = true ↔ cov xs o) ∧ Ext w w' := by
  obtain ⟨A, cap, rfl, hcap, hr⟩ := h
  obtain ⟨n, hxn⟩ : ∃ n, xs.length = n := ⟨_, rfl⟩
  have HN := Lib.hid hxn
  rw [hxn] at hn hcap hr ⊢
  have HR := Lib.hid hr
  clear hr hxn
  go_enter Tryd.func30, Tryd.ntmps30
  go_wp2_with fail
  go_loopw [8] (fun i wr => ∃ k : Nat, k ≤ n ∧ i = .int .i64 k ∧ Ext w wr ∧ Hid (¬ cov (xs.take k) o)) (fun i _ => n - (intOf i).toNat)
  case atStart => exact ⟨0, by omega, rfl, Ext.refl _, Lib.hid (cov_nil o)⟩
  case round =>
    obtain ⟨k, hk, rfl, hX, HC⟩ := hrel
    by_cases hlt : k < n
    · obtain ⟨a, rfl, hg⟩ := HR.out (by omega)
      have hki : (k : Int) < (n : Int) := by omega
      have hk6 : (k : Int) < 301 := by omega
      have hkc : k < cap := by omega
      obtain ⟨⟨f, t⟩, hr⟩ : ∃ r, xs[k]? = some r := ⟨_, List.getElem?_eq_getElem (by rw [HN.out]; exact hlt)⟩
      have c0 := hX.cell (hg k _ hr).1
      have c1 := hX.cell (hg k _ hr).2
      simp only at c0 c1
      have HT := Lib.hid (show xs.take (k + 1) = xs.take k ++ [(f, t)] by rw [List.take_add_one, hr]; rfl)
      have HM := Lib.hid (List.mem_of_getElem? hr)
      clear hr hg
      by_cases h1 : f ≤ o
      · have p1 : decide (f ≤ o) = true := decide_eq_true h1
        by_cases h2 : o < t
        · have p2 : decide (o < t) = true := decide_eq_true h2
          have HY : Hid (cov xs o) := Lib.hid ⟨(f, t), HM.out, h1, h2⟩
          clear h1 h2
          go_wp2_with fail
          go_ret
          exact ⟨true, rfl, Lib.hid ⟨fun _ => HY.out, fun _ => rfl⟩, hX⟩
        · have p2 : decide (o < t) = false := decide_eq_false h2
          have HH : Hid (¬ cov (xs.take (k + 1)) o) := Lib.hid (by rw [HT.out, cov_append, cov_one]; exact fun h => h.elim HC.out fun h => h2 h.2)
          clear h1 h2
          go_wp2_with fail
          go_roundw
          case rel => exact ⟨k + 1, by omega, by go_num, hX, HH⟩
          case measure => simp [intOf]; omega
      · have p1 : decide (f ≤ o) = false := decide_eq_false h1
        have HH : Hid (¬ cov (xs.take (k + 1)) o) := Lib.hid (by rw [HT.out, cov_append, cov_one]; exact fun h => h.elim HC.out fun h => h1 h.1)
        clear h1
        go_wp2_with fail
        go_roundw
        case rel => exact ⟨k + 1, by omega, by go_num, hX, HH⟩
        case measure => simp [intOf]; omega
    · obtain rfl : k = n := by omega
      have HH : Hid (¬ cov xs o) := Lib.hid (by have := HC.out; rwa [← HN.out, List.take_length] at this)
      go_wp2_with fail
      go_ret
      exact ⟨false, rfl, Lib.hid ⟨fun h => (by cases h), fun h => absurd h HH.out⟩, hX⟩
end Go.Proofs.YteamnofooicbeaaDoor
