/- Chapter 52: the order of entries. -/
import Derived.Test.YtjdbhemojopnlaaMgE
import Derived.Test.YtjdbhemojopnlaaAnyD
import Derived.Test.YtjdbhemojopnlaaQuiet
import Derived.Shelf.SlSortCmp.WholeK
namespace Go.Proofs.Ytjdbhemojopnlaa
open Go.RowKit
set_option maxRecDepth 100000 in
theorem nan_s (s : ByteArray) (w : World) : Calls Try.prog 47 #[.string s] w fun e w' => e = .returned (.bool false) ∧ w = w' := by
  go_enter Try.func47, Try.ntmps47
  go_wp2_with fail
  go_ret
  exact ⟨ret_bool (by simp), rfl⟩
set_option maxRecDepth 100000 in
theorem nan_i (s : Int) (w : World) : Calls Try.prog 48 #[.int .i64 s] w fun e w' => e = .returned (.bool false) ∧ w = w' := by
  go_enter Try.func48, Try.ntmps48
  go_wp2_with fail
  go_ret
  exact ⟨ret_bool (by simp), rfl⟩
def ltS (a b : ByteArray) : Bool := Op.bytesLess a.toList b.toList
def cmpS (a b : ByteArray) : Int := if ltS a b then -1 else if a.toList == b.toList then 0 else 1
def cmpI (a b : Int) : Int := if a < b then -1 else if a = b then 0 else 1
def orI (a b c : Int) : Int := if a ≠ 0 then a else if b ≠ 0 then b else c
def cmpE (a b : Ent) : Int := orI (cmpS a.nd b.nd) (cmpI a.bt b.bt) (cmpI a.sq b.sq)
set_option maxRecDepth 100000 in
theorem cmp_s (a b : ByteArray) (w : World) : Calls Try.prog 36 #[.string a, .string b] w fun e w' => e = .returned (.int .i64 (cmpS a b)) ∧ w' = w := by
  cases h : Op.bytesLess a.toList b.toList with
  | true =>
    go_enter Try.func36, Try.ntmps36
    go_wp2_with (go_at_call 47; refine (nan_s _ _).mono ?_; rintro e w' ⟨rfl, rfl⟩)
    go_ret
    exact ⟨by simp [cmpS, ltS, h], rfl⟩
  | false =>
    cases h2 : a.toList == b.toList with
    | true =>
      go_enter Try.func36, Try.ntmps36
      go_wp2_with (go_at_call 47; refine (nan_s _ _).mono ?_; rintro e w' ⟨rfl, rfl⟩)
      go_ret
      exact ⟨by simp [cmpS, ltS, h, h2], rfl⟩
    | false =>
      go_enter Try.func36, Try.ntmps36
      go_wp2_with (go_at_call 47; refine (nan_s _ _).mono ?_; rintro e w' ⟨rfl, rfl⟩)
      go_ret
      exact ⟨by simp [cmpS, ltS, h, h2], rfl⟩
set_option maxRecDepth 100000 in
theorem cmp_i (a b : Int) (w : World) : Calls Try.prog 37 #[.int .i64 a, .int .i64 b] w fun e w' => e = .returned (.int .i64 (cmpI a b)) ∧ w' = w := by
  rcases Int.lt_trichotomy a b with h | h | h
  · go_enter Try.func37, Try.ntmps37
    go_wp2_with (go_at_call 48; refine (nan_i _ _).mono ?_; rintro e w' ⟨rfl, rfl⟩)
    all_goals go_ret
    all_goals exact ⟨by simp [cmpI, h], rfl⟩
  · subst h
    go_enter Try.func37, Try.ntmps37
    go_wp2_with (go_at_call 48; refine (nan_i _ _).mono ?_; rintro e w' ⟨rfl, rfl⟩)
    all_goals go_ret
    all_goals exact ⟨by simp [cmpI], rfl⟩
  · have h2 : ¬ a < b := by omega
    have h3 : a ≠ b := by omega
    go_enter Try.func37, Try.ntmps37
    go_wp2_with (go_at_call 48; refine (nan_i _ _).mono ?_; rintro e w' ⟨rfl, rfl⟩)
    all_goals go_ret
    all_goals exact ⟨by simp [cmpI, h2, h3], rfl⟩
set_option maxRecDepth 100000 in
theorem cmp_or (g : Nat) (a b c : Int) (w : World) (h0 : w.cell? ⟨g, 0, none⟩ = some (.int .i64 a)) (h1 : w.cell? ⟨g, 1, none⟩ = some (.int .i64 b)) (h2 : w.cell? ⟨g, 2, none⟩ = some (.int .i64 c)) :
    Calls Try.prog 35 #[.slice (some ⟨g, 0, none⟩) 3 3] w fun e w' => e = .returned (.int .i64 (orI a b c)) ∧ w' = w := by
  by_cases ha : a = 0
  · by_cases hb : b = 0
    · by_cases hc : c = 0
      · subst ha hb hc
        go_enter Try.func35, Try.ntmps35
        go_wp2_with fail
        refine wp_loop_rounds 4 ?_
        repeat any_goals (rw [rounds_succ]; go_wp2_with fail)
        all_goals go_ret
        all_goals exact ⟨by simp [orI], rfl⟩
      · subst ha hb
        go_enter Try.func35, Try.ntmps35
        go_wp2_with fail
        refine wp_loop_rounds 4 ?_
        repeat any_goals (rw [rounds_succ]; go_wp2_with fail)
        all_goals go_ret
        all_goals exact ⟨by simp [orI], rfl⟩
    · subst ha
      go_enter Try.func35, Try.ntmps35
      go_wp2_with fail
      refine wp_loop_rounds 4 ?_
      repeat any_goals (rw [rounds_succ]; go_wp2_with fail)
      all_goals go_ret
      all_goals exact ⟨by simp [orI, hb], rfl⟩
  · go_enter Try.func35, Try.ntmps35
    go_wp2_with fail
    refine wp_loop_rounds 4 ?_
    repeat any_goals (rw [rounds_succ]; go_wp2_with fail)
    all_goals go_ret
    all_goals exact ⟨by simp [orI, ha], rfl⟩
theorem grow_three (w : World) (q : Nat) (A B C : Obj) : (((w.alloc A).alloc B).drewN q).alloc C = Go.Sort.grow (w.drewN q) #[A, B, C] := by
  have h : ((w.heap.push A).push B).push C = w.heap ++ #[A, B, C] := by
    apply Array.toList_inj.1
    simp
  unfold World.drewN Go.Sort.grow World.alloc
  rw [← h]
theorem cell_at_new (W : World) (t : TypeId) (cs : List Value) (g : Nat) (hg : g = W.heap.size) (j : Nat) (u : Value) (hj : cs[j]? = some u) : (W.alloc (.cells cs.toArray t)).cell? ⟨g, j, none⟩ = some u := by
  subst hg
  rw [World.cell?_alloc_mark]
  simpa using hj
set_option maxRecDepth 100000 in
set_option maxHeartbeats 1000000 in
theorem cmp_ent (x y : Ent) (w : World) : Calls Try.prog 34 #[x.v, y.v] w fun e w' => e = .returned (.int .i64 (cmpE x y)) ∧ ∃ q os', w' = Go.Sort.grow (w.drewN q) os' := by
  dsimp only [Ent.v]
  go_enter Try.func34, Try.ntmps34
  go_wp2_with fail
  refine wp_region_tail (C := fun w' => ∃ n, w' = ((w.alloc (.cells x.cs.toArray 41)).alloc (.cells y.cs.toArray 41)).drewN n) 15 (by kernel_rfl) (by kernel_rfl) ⟨1, rfl⟩ ?_
  simp only [List.take_succ_cons, List.take_zero, List.drop_succ_cons, List.drop_zero, Ent.cs]
  repeat (go_big_quiet_step (first
    | (go_at_call 36; exact (cmp_s _ _ _).mono fun _ _ ⟨he, hw⟩ => ⟨he, _, hw⟩)
    | (go_at_call_of 37 (Value.int .i64 x.bt); exact (cmp_i _ _ _).mono fun _ _ ⟨he, hw⟩ => ⟨he, _, hw⟩)
    | (go_at_call 37; exact (cmp_i _ _ _).mono fun _ _ ⟨he, hw⟩ => ⟨he, _, hw⟩)))
  refine wpQuiet_nil ?_
  rintro _ ⟨nq, rfl⟩
  go_wp2_with (go_at_call 35; refine (cmp_or _ (cmpS x.nd y.nd) (cmpI x.bt y.bt) (cmpI x.sq y.sq) _ (cell_at_new _ _ [_, _, _] _ (by simp) 0 _ rfl) (cell_at_new _ _ [_, _, _] _ (by simp) 1 _ rfl) (cell_at_new _ _ [_, _, _] _ (by simp) 2 _ rfl)).mono ?_; rintro e w5 ⟨rfl, rfl⟩)
  go_ret
  exact ⟨rfl, nq, #[.cells x.cs.toArray 41, .cells y.cs.toArray 41, .cells #[.int .i64 (cmpS x.nd y.nd), .int .i64 (cmpI x.bt y.bt), .int .i64 (cmpI x.sq y.sq)] 3], grow_three _ _ _ _ _⟩
end Go.Proofs.Ytjdbhemojopnlaa
