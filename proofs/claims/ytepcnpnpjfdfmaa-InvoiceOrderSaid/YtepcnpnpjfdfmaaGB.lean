/- Chapter 52: the order of entries. Chapter 52: the order of entries is one; slices.SortedFunc; List. Chapter 52: slices of entries in memory; slices.SortedFunc; List. Chapter 52: Put. Chapter 52: what Check and Code say of entries that are out of range; New. Chapter 52: entries compared; quaysidelaw51.Same; slices.Equal; List. -/
import Derived.Test.YtepcnpnpjfdfmaaGA
import Derived.Test.YtepcnpnpjfdfmaaAnyD
import Derived.Test.YtepcnpnpjfdfmaaQuiet
import Derived.Shelf.SlSortCmp.WholeK
import Derived.Test.YtepcnpnpjfdfmaaShSl
import Derived.Shelf.SlSortCmp.NoneTotal
namespace Go.Proofs.Ytepcnpnpjfdfmaa
open Go.RowKit
set_option maxRecDepth 100000 in
theorem nan_s (s : ByteArray) (w : World) : Calls Try.prog 57 #[.string s] w fun e w' => e = .returned (.bool false) ∧ w = w' := by
  go_enter Try.func57, Try.ntmps57
  go_wp2_with fail
  go_ret
  exact ⟨ret_bool (by simp), rfl⟩
set_option maxRecDepth 100000 in
theorem nan_i (s : Int) (w : World) : Calls Try.prog 58 #[.int .i64 s] w fun e w' => e = .returned (.bool false) ∧ w = w' := by
  go_enter Try.func58, Try.ntmps58
  go_wp2_with fail
  go_ret
  exact ⟨ret_bool (by simp), rfl⟩
def ltS (a b : ByteArray) : Bool := Op.bytesLess a.toList b.toList
def cmpS (a b : ByteArray) : Int := if ltS a b then -1 else if a.toList == b.toList then 0 else 1
def cmpI (a b : Int) : Int := if a < b then -1 else if a = b then 0 else 1
def orI (a b c : Int) : Int := if a ≠ 0 then a else if b ≠ 0 then b else c
def cmpE (a b : Ent) : Int := orI (cmpS a.nd b.nd) (cmpI a.bt b.bt) (cmpI a.sq b.sq)
set_option maxRecDepth 100000 in
theorem cmp_s (a b : ByteArray) (w : World) : Calls Try.prog 45 #[.string a, .string b] w fun e w' => e = .returned (.int .i64 (cmpS a b)) ∧ w' = w := by
  cases h : Op.bytesLess a.toList b.toList with
  | true =>
    go_enter Try.func45, Try.ntmps45
    go_wp2_with (go_at_call 57; refine (nan_s _ _).mono ?_; rintro e w' ⟨rfl, rfl⟩)
    go_ret
    exact ⟨by simp [cmpS, ltS, h], rfl⟩
  | false =>
    cases h2 : a.toList == b.toList with
    | true =>
      go_enter Try.func45, Try.ntmps45
      go_wp2_with (go_at_call 57; refine (nan_s _ _).mono ?_; rintro e w' ⟨rfl, rfl⟩)
      go_ret
      exact ⟨by simp [cmpS, ltS, h, h2], rfl⟩
    | false =>
      go_enter Try.func45, Try.ntmps45
      go_wp2_with (go_at_call 57; refine (nan_s _ _).mono ?_; rintro e w' ⟨rfl, rfl⟩)
      go_ret
      exact ⟨by simp [cmpS, ltS, h, h2], rfl⟩
set_option maxRecDepth 100000 in
theorem cmp_i (a b : Int) (w : World) : Calls Try.prog 46 #[.int .i64 a, .int .i64 b] w fun e w' => e = .returned (.int .i64 (cmpI a b)) ∧ w' = w := by
  rcases Int.lt_trichotomy a b with h | h | h
  · go_enter Try.func46, Try.ntmps46
    go_wp2_with (go_at_call 58; refine (nan_i _ _).mono ?_; rintro e w' ⟨rfl, rfl⟩)
    all_goals go_ret
    all_goals exact ⟨by simp [cmpI, h], rfl⟩
  · subst h
    go_enter Try.func46, Try.ntmps46
    go_wp2_with (go_at_call 58; refine (nan_i _ _).mono ?_; rintro e w' ⟨rfl, rfl⟩)
    all_goals go_ret
    all_goals exact ⟨by simp [cmpI], rfl⟩
  · have h2 : ¬ a < b := by omega
    have h3 : a ≠ b := by omega
    go_enter Try.func46, Try.ntmps46
    go_wp2_with (go_at_call 58; refine (nan_i _ _).mono ?_; rintro e w' ⟨rfl, rfl⟩)
    all_goals go_ret
    all_goals exact ⟨by simp [cmpI, h2, h3], rfl⟩
set_option maxRecDepth 100000 in
theorem cmp_or (g : Nat) (a b c : Int) (w : World) (h0 : w.cell? ⟨g, 0, none⟩ = some (.int .i64 a)) (h1 : w.cell? ⟨g, 1, none⟩ = some (.int .i64 b)) (h2 : w.cell? ⟨g, 2, none⟩ = some (.int .i64 c)) :
    Calls Try.prog 44 #[.slice (some ⟨g, 0, none⟩) 3 3] w fun e w' => e = .returned (.int .i64 (orI a b c)) ∧ w' = w := by
  by_cases ha : a = 0
  · by_cases hb : b = 0
    · by_cases hc : c = 0
      · subst ha hb hc
        go_enter Try.func44, Try.ntmps44
        go_wp2_with fail
        refine wp_loop_rounds 4 ?_
        repeat any_goals (rw [rounds_succ]; go_wp2_with fail)
        all_goals go_ret
        all_goals exact ⟨by simp [orI], rfl⟩
      · subst ha hb
        go_enter Try.func44, Try.ntmps44
        go_wp2_with fail
        refine wp_loop_rounds 4 ?_
        repeat any_goals (rw [rounds_succ]; go_wp2_with fail)
        all_goals go_ret
        all_goals exact ⟨by simp [orI], rfl⟩
    · subst ha
      go_enter Try.func44, Try.ntmps44
      go_wp2_with fail
      refine wp_loop_rounds 4 ?_
      repeat any_goals (rw [rounds_succ]; go_wp2_with fail)
      all_goals go_ret
      all_goals exact ⟨by simp [orI, hb], rfl⟩
  · go_enter Try.func44, Try.ntmps44
    go_wp2_with fail
    refine wp_loop_rounds 4 ?_
    repeat any_goals (rw [rounds_succ]; go_wp2_with fail)
    all_goals go_ret
    all_goals exact ⟨by simp [orI, ha], rfl⟩
theorem grow_three (w : World) (q : Nat) (A B C : Obj) : (((w.alloc A).alloc B).drewN q).alloc C = Go.Sort.grow (w.drewN q) #[A, B, C] := by
  have h : ((w.heap.push A).push B).push C = w.heap ++ #[A, B, C] := by
    apply Array.toList_inj.1
    simp
  unfold World.drewN Go.Sort.grow World.alloc
  rw [← h]
theorem cell_at_new (W : World) (t : TypeId) (cs : List Value) (g : Nat) (hg : g = W.heap.size) (j : Nat) (u : Value) (hj : cs[j]? = some u) : (W.alloc (.cells cs.toArray t)).cell? ⟨g, j, none⟩ = some u := by
  subst hg
  rw [World.cell?_alloc_mark]
  simpa using hj
set_option maxRecDepth 100000 in
set_option maxHeartbeats 1000000 in
theorem cmp_ent (x y : Ent) (w : World) : Calls Try.prog 43 #[x.v, y.v] w fun e w' => e = .returned (.int .i64 (cmpE x y)) ∧ ∃ q os', w' = Go.Sort.grow (w.drewN q) os' := by
  dsimp only [Ent.v]
  go_enter Try.func43, Try.ntmps43
  go_wp2_with fail
  refine wp_region_tail (C := fun w' => ∃ n, w' = ((w.alloc (.cells x.cs.toArray 86)).alloc (.cells y.cs.toArray 86)).drewN n) 15 (by kernel_rfl) (by kernel_rfl) ⟨1, rfl⟩ ?_
  simp only [List.take_succ_cons, List.take_zero, List.drop_succ_cons, List.drop_zero, Ent.cs]
  repeat (go_big_quiet_step (first
    | (go_at_call 45; exact (cmp_s _ _ _).mono fun _ _ ⟨he, hw⟩ => ⟨he, _, hw⟩)
    | (go_at_call_of 46 (Value.int .i64 x.bt); exact (cmp_i _ _ _).mono fun _ _ ⟨he, hw⟩ => ⟨he, _, hw⟩)
    | (go_at_call 46; exact (cmp_i _ _ _).mono fun _ _ ⟨he, hw⟩ => ⟨he, _, hw⟩)))
  refine wpQuiet_nil ?_
  rintro _ ⟨nq, rfl⟩
  go_wp2_with (go_at_call 44; refine (cmp_or _ (cmpS x.nd y.nd) (cmpI x.bt y.bt) (cmpI x.sq y.sq) _ (cell_at_new _ _ [_, _, _] _ (by simp) 0 _ rfl) (cell_at_new _ _ [_, _, _] _ (by simp) 1 _ rfl) (cell_at_new _ _ [_, _, _] _ (by simp) 2 _ rfl)).mono ?_; rintro e w5 ⟨rfl, rfl⟩)
  go_ret
  exact ⟨rfl, nq, #[.cells x.cs.toArray 86, .cells y.cs.toArray 86, .cells #[.int .i64 (cmpS x.nd y.nd), .int .i64 (cmpI x.bt y.bt), .int .i64 (cmpI x.sq y.sq)] 3], grow_three _ _ _ _ _⟩
end Go.Proofs.Ytepcnpnpjfdfmaa
namespace Go.Proofs.Ytepcnpnpjfdfmaa
open Go.RowKit Go.Lib Go.Sort
theorem bl_irrefl : ∀ x : List UInt8, Op.bytesLess x x = false
  | [] => rfl
  | a :: x => by simp [Op.bytesLess, bl_irrefl x]
theorem bl_trans : ∀ x y z : List UInt8, Op.bytesLess x y = true → Op.bytesLess y z = true → Op.bytesLess x z = true
  | _, [], _, h, _ => by cases ‹List UInt8› <;> simp [Op.bytesLess] at h
  | _, _ :: _, [], _, h => by simp [Op.bytesLess] at h
  | [], _ :: _, _ :: _, _, _ => by simp [Op.bytesLess]
  | a :: x, b :: y, c :: z, h1, h2 => by
    simp only [Op.bytesLess, Bool.or_eq_true, decide_eq_true_eq, Bool.and_eq_true, beq_iff_eq] at h1 h2 ⊢
    rcases h1 with h1 | ⟨rfl, h1⟩
    · rcases h2 with h2 | ⟨rfl, _⟩
      · exact .inl (UInt8.lt_trans h1 h2)
      · exact .inl h1
    · rcases h2 with h2 | ⟨rfl, h2⟩
      · exact .inl h2
      · exact .inr ⟨rfl, bl_trans x y z h1 h2⟩
theorem bl_tri : ∀ x y : List UInt8, Op.bytesLess x y = true ∨ x = y ∨ Op.bytesLess y x = true
  | [], [] => .inr (.inl rfl)
  | [], _ :: _ => .inl (by simp [Op.bytesLess])
  | _ :: _, [] => .inr (.inr (by simp [Op.bytesLess]))
  | a :: x, b :: y => by
    simp only [Op.bytesLess, Bool.or_eq_true, decide_eq_true_eq, Bool.and_eq_true, beq_iff_eq, List.cons.injEq]
    rcases Nat.lt_trichotomy a.toNat b.toNat with h | h | h
    · exact .inl (.inl (UInt8.lt_iff_toNat_lt.2 h))
    · have e : a = b := UInt8.toNat_inj.1 h
      rcases bl_tri x y with h1 | h1 | h1
      · exact .inl (.inr ⟨e, h1⟩)
      · exact .inr (.inl ⟨e, h1⟩)
      · exact .inr (.inr (.inr ⟨e.symm, h1⟩))
    · exact .inr (.inr (.inl (UInt8.lt_iff_toNat_lt.2 h)))
theorem tl_inj {a b : ByteArray} (h : a.toList = b.toList) : a = b := ba_eq (by simp [h])
theorem ltS_irrefl (a : ByteArray) : ltS a a = false := bl_irrefl _
theorem ltS_trans {a b c : ByteArray} (h : ltS a b = true) (h' : ltS b c = true) : ltS a c = true := bl_trans _ _ _ h h'
theorem ltS_tri (a b : ByteArray) : ltS a b = true ∨ a = b ∨ ltS b a = true := by
  rcases bl_tri a.toList b.toList with h | h | h
  · exact .inl h
  · exact .inr (.inl (tl_inj h))
  · exact .inr (.inr h)
theorem ltS_asymm {a b : ByteArray} (h : ltS a b = true) : ltS b a = false := by
  cases hb : ltS b a with
  | false => rfl
  | true => have := ltS_trans h hb; rw [ltS_irrefl] at this; cases this
/-- one entry stands before another -/
def ltE (a b : Ent) : Prop := ltS a.nd b.nd = true ∨ a.nd = b.nd ∧ (a.bt < b.bt ∨ a.bt = b.bt ∧ a.sq < b.sq)
theorem ltE_irrefl (a : Ent) : ¬ ltE a a := by
  rintro (h | ⟨_, h | ⟨_, h⟩⟩)
  · rw [ltS_irrefl] at h; cases h
  · omega
  · omega
theorem ltE_trans {a b c : Ent} (h : ltE a b) (k : ltE b c) : ltE a c := by
  rcases h with h | ⟨e, h⟩
  · rcases k with k | ⟨e', k⟩
    · exact .inl (ltS_trans h k)
    · exact .inl (e' ▸ h)
  · rcases k with k | ⟨e', k⟩
    · exact .inl (e ▸ k)
    · refine .inr ⟨e.trans e', ?_⟩
      omega
theorem ltE_tri (a b : Ent) : ltE a b ∨ a.key = b.key ∨ ltE b a := by
  rcases ltS_tri a.nd b.nd with h | h | h
  · exact .inl (.inl h)
  · rcases Int.lt_trichotomy a.bt b.bt with h1 | h1 | h1
    · exact .inl (.inr ⟨h, .inl h1⟩)
    · rcases Int.lt_trichotomy a.sq b.sq with h2 | h2 | h2
      · exact .inl (.inr ⟨h, .inr ⟨h1, h2⟩⟩)
      · exact .inr (.inl (by simp [Ent.key, h, h1, h2]))
      · exact .inr (.inr (.inr ⟨h.symm, .inr ⟨h1.symm, h2⟩⟩))
    · exact .inr (.inr (.inr ⟨h.symm, .inl h1⟩))
  · exact .inr (.inr (.inl h))
theorem ltE_key {a b : Ent} (h : ltE a b) : a.key ≠ b.key := by
  intro e
  simp only [Ent.key, Prod.mk.injEq] at e
  rcases h with h | ⟨_, h⟩
  · rw [e.1, ltS_irrefl] at h; cases h
  · omega
theorem ltE_left {a b c : Ent} (e : a.key = b.key) (h : ltE b c) : ltE a c := by
  simp only [Ent.key, Prod.mk.injEq] at e
  unfold ltE at h ⊢
  rw [e.1, e.2.1, e.2.2]
  exact h
theorem ltE_right {a b c : Ent} (e : b.key = c.key) (h : ltE a b) : ltE a c := by
  simp only [Ent.key, Prod.mk.injEq] at e
  unfold ltE at h ⊢
  rw [← e.1, ← e.2.1, ← e.2.2]
  exact h
theorem cmpE_neg (a b : Ent) : ltOf cmpE a b = true ↔ ltE a b := by
  unfold ltOf cmpE orI cmpS cmpI ltE
  simp only [decide_eq_true_eq, beq_iff_eq]
  cases h : ltS a.nd b.nd with
  | true => simp
  | false =>
    by_cases h1 : a.nd.toList = b.nd.toList
    · have e := tl_inj h1
      simp only [e, true_and, if_true]
      split <;> split <;> simp_all <;> (try omega) <;> split <;> (try omega) <;> simp_all <;> (try omega) <;> split <;> (try omega)
    · have e : a.nd ≠ b.nd := fun e => h1 (by rw [e])
      simp [h1, e]
theorem ltOf_eq (a b : Ent) : ltOf cmpE a b = false ↔ ¬ ltE a b := by
  rw [← cmpE_neg]
  simp
theorem swo_ent : SWO (ltOf cmpE) where
  irrefl x := (ltOf_eq _ _).2 (ltE_irrefl x)
  trans x y z h1 h2 := (cmpE_neg _ _).2 (ltE_trans ((cmpE_neg _ _).1 h1) ((cmpE_neg _ _).1 h2))
  ntrans x y z h1 h2 := (ltOf_eq _ _).2 (fun h => by
    have h1 := (ltOf_eq _ _).1 h1
    have h2 := (ltOf_eq _ _).1 h2
    rcases ltE_tri y x with k | k | k
    · exact h2 (ltE_trans k h)
    · exact h2 (ltE_left k h)
    · exact h1 k)
theorem cmp_lays (blk off size : Nat) (w : World) : CmpLays Try.prog 43 #[] Ent.cs 7 cmpE blk off size w := fun _ _ _ _ x y => cmp_ent x y _
end Go.Proofs.Ytepcnpnpjfdfmaa
namespace Go.Proofs.Ytepcnpnpjfdfmaa
open Go.RowKit Go.Lib Go.Sort Go.Maps
/-- a slice of entries, in whatever block -/
def EnsAt (w : World) (v : Value) (es : List Ent) : Prop :=
  (v = .slice none 0 0 ∧ es = []) ∨ ∃ g off cap, v = .slice (some ⟨g, off, none⟩) es.length cap ∧ ∀ i e, es[i]? = some e → ∀ j u, e.cs[j]? = some u → w.cell? ⟨g, off + i * 7 + j, none⟩ = some u
theorem EnsAt.ext {w w' : World} {v : Value} {es : List Ent} (h : EnsAt w v es) (hx : Ext w w') : EnsAt w' v es := by
  rcases h with h | ⟨g, off, cap, hv, hc⟩
  · exact .inl h
  · exact .inr ⟨g, off, cap, hv, fun i e he j u hj => hx.cell (hc i e he j u hj)⟩
theorem EnsAt.nil (w : World) : EnsAt w (.slice none 0 0) [] := .inl ⟨rfl, rfl⟩
/-- the slice lies in a block that is new -/
def FreshV (B : Nat) (v : Value) : Prop := ∀ a n c, v = .slice (some a) n c → B ≤ a.block ∧ n ≤ c ∧ c ≤ maxLen
theorem fresh_row {w : World} {B n sz : Nat} {t : TypeId} {v : Value} {xs : List Value} (h : w.ownsRow B t sz v n xs) : FreshV B v := by
  rintro a m c rfl
  rcases h.2 with ⟨hv, _⟩ | ⟨g, cap, cur, hv, hb, _, h1, h2, _⟩
  · cases hv
  · cases hv; exact ⟨hb, h1, h2⟩
theorem cs_len (e : Ent) : e.cs.length = 7 := rfl
theorem flat_len (xs : List Ent) : (xs.flatMap Ent.cs).length = xs.length * 7 := by
  induction xs with
  | nil => rfl
  | cons x r ih => simp [ih, cs_len]; omega
theorem flat_get : ∀ (xs : List Ent) (i : Nat) (e : Ent), xs[i]? = some e → ∀ j, j < 7 → (xs.flatMap Ent.cs)[i * 7 + j]? = e.cs[j]?
  | [], i, e, h, _, _ => by simp at h
  | x :: r, 0, e, h, j, hj => by
    simp at h
    subst h
    simp only [List.flatMap_cons, Nat.zero_mul, Nat.zero_add]
    rw [List.getElem?_append_left (by rw [cs_len]; exact hj)]
  | x :: r, i + 1, e, h, j, hj => by
    simp only [List.getElem?_cons_succ] at h
    simp only [List.flatMap_cons]
    rw [List.getElem?_append_right (by rw [cs_len]; omega), cs_len, show (i + 1) * 7 + j - 7 = i * 7 + j by omega]
    exact flat_get r i e h j hj
theorem ens_of_row {w : World} {b : Nat} {v : Value} {es : List Ent} (h : w.ownsRow b 86 7 v es.length (es.flatMap Ent.cs)) : EnsAt w v es := by
  rcases h.2 with ⟨hv, h0⟩ | ⟨g, cap, cur, hv, hb, hg, h1, h2, h3, h4⟩
  · exact .inl ⟨hv, List.length_eq_zero_iff.1 h0⟩
  · refine .inr ⟨g, 0, cap, hv, fun i e he j u hj => ?_⟩
    have hj7 : j < 7 := by have := (List.getElem?_eq_some_iff.1 hj).1; rwa [cs_len] at this
    have hi := (List.getElem?_eq_some_iff.1 he).1
    rw [cell_of_row w g _ cur _ _ hg]
    have e1 := flat_get es i e he j hj7
    rw [← h4, List.getElem?_take_of_lt (by omega), hj] at e1
    rw [show 0 + i * 7 + j = i * 7 + j by omega]
    simpa using e1
theorem holds_of_row {w : World} {b g cap : Nat} {es : List Ent} (h : w.ownsRow b 86 7 (.slice (some ⟨g, 0, none⟩) es.length cap) es.length (es.flatMap Ent.cs)) :
    HoldsK Ent.cs 7 w g 0 es.toArray ∧ b ≤ g ∧ g < w.heap.size := by
  rcases h.2 with ⟨hv, _⟩ | ⟨g', cap', cur, hv, hb, hg, h1, h2, h3, h4⟩
  · cases hv
  · cases hv
    refine ⟨fun t ht => ?_, hb, (Array.getElem?_eq_some_iff.1 hg).1⟩
    have ht' : t < es.length * 7 := by simpa using ht
    have hi : t / 7 < es.length := by omega
    rw [cell_of_row w g _ cur _ _ hg, get_flatK _ _ _ _ (by simpa using ht')]
    have e1 := flat_get es (t / 7) es[t / 7] (by simp) (t % 7) (by omega)
    rw [← h4, show t / 7 * 7 + t % 7 = t by omega, List.getElem?_take_of_lt (by omega)] at e1
    refine ⟨?_, ?_⟩
    · have e2 : es.toArray[t / 7]! = es[t / 7] := by simp [hi]
      rw [e2]
      have e3 : (es[t / 7]).cs[t % 7]! = ((es[t / 7]).cs[t % 7]?).getD default := by simp
      have : t % 7 < (es[t / 7]).cs.length := by rw [cs_len]; omega
      rw [e3, ← e1]
      rw [List.getElem?_eq_getElem this] at e1
      rw [e1]
      simpa using e1
    · simp [World.frozen?, hg]
theorem ens_of_holds {w : World} {g cap : Nat} {es : List Ent} (h : HoldsK Ent.cs 7 w g 0 es.toArray) : EnsAt w (.slice (some ⟨g, 0, none⟩) es.length cap) es := by
  refine .inr ⟨g, 0, cap, rfl, fun i e he j u hj => ?_⟩
  have hj7 : j < 7 := by have := (List.getElem?_eq_some_iff.1 hj).1; rwa [cs_len] at this
  have hi := (List.getElem?_eq_some_iff.1 he).1
  have := (HoldsK.cell h (i := i) (c := j) (by simpa using hi) hj7).1
  rw [this]
  have e2 : es.toArray[i]! = e := by
    have := (List.getElem?_eq_some_iff.1 he).2
    simp [hi, this]
  rw [e2]
  simp [hj]
theorem ext_sortWorld (w w1 : World) (g : Nat) (n : Nat) (d' : Array Ent) (os : Array Obj) (hx : Ext w w1) (hg : w.heap.size ≤ g) : Ext w (sortWorldK Ent.cs 7 w1 g 0 n d' os) := by
  have h1 : Below w.heap.size w1 (sortWorldK Ent.cs 7 w1 g 0 n d' os) := by
    refine ⟨rfl, rfl, rfl, ?_, fun k hk => ?_⟩
    · exact size_sortWorldK_c Ent.cs 7 w1 g 0 n d' os
    · have hk1 : k < w1.heap.size := Nat.lt_of_lt_of_le hk hx.size
      show (w1.heap.modify g _ ++ os)[k]? = w1.heap[k]?
      rw [Array.getElem?_append_left (by simpa using hk1), Array.getElem?_modify, if_neg (by omega)]
  exact hx.below.trans h1
theorem sorted_list {L r : List Ent} (hr : r.Pairwise ltE) (hp : r.Perm L) (d d' : Array Ent) (hd : d.toList.Perm L) (h1 : PermIn 0 d.size d d') (h2 : SortedIn (ltOf cmpE) 0 d.size d') : d'.toList = r := by
  have hsz := h1.1
  have hpp : d'.toList.Perm r := by
    have := h1.2.2
    rw [show d'.extract 0 d.size = d' by rw [← hsz]; simp, show d.extract 0 d.size = d by simp] at this
    exact (this.trans hd).trans hp.symm
  have hpk : d'.toList.Pairwise fun a b => a.key ≠ b.key := ((hpp.pairwise_iff (fun {a b} (h : a.key ≠ b.key) => h.symm))).2 (hr.imp fun h => ltE_key h)
  have hps : d'.toList.Pairwise ltE := by
    rw [List.pairwise_iff_getElem] at hpk ⊢
    intro i j hi hj hij
    have hk := hpk i j hi hj hij
    have hs := h2 i j (Nat.zero_le _) hij (by simpa [hsz] using hj)
    have hi' : i < d'.size := by simpa using hi
    have hj' : j < d'.size := by simpa using hj
    rw [getElem!_pos d' j hj', getElem!_pos d' i hi', ltOf_eq] at hs
    simp only [Array.getElem_toList] at hk ⊢
    rcases ltE_tri d'[i] d'[j] with h | h | h
    · exact h
    · exact absurd h hk
    · exact absurd h hs
  exact hpp.eq_of_pairwise (fun a b _ _ h h' => absurd (ltE_trans h h') (ltE_irrefl a)) hps hr
set_option maxRecDepth 100000 in
set_option maxHeartbeats 1000000 in
theorem sortedfunc_any (Bm b : Nat) (L r : List Ent) (hr : r.Pairwise ltE) (hp : r.Perm L) (hN : L.length ≤ 1000) (w : World) (hBm : Bm < w.heap.size) (hm : w.cell? ⟨Bm, 0, none⟩ = some (.map (some b))) (hb : w.heap[b]? = some (mpO L)) :
    Calls Try.prog 41 #[.func (.func 56) #[] #[.pointer (some ⟨Bm, 0, none⟩)], .func (.func 43) #[] #[]] w fun e W' =>
      ∃ v, e = .returned v ∧ EnsAt W' v r ∧ Ext w W' ∧ FreshV w.heap.size v := by
  have HC := collect_any Bm b L hN w hBm hm hb
  have eg : ∀ args w, (callFunc 43 args).run Try.prog w = .ok (.enter 43 args) w := enters_of Try.func43 (by kernel_rfl) rfl
  have HS : ∀ (w1 : World) (v : Value) (xs : List Ent), xs.Perm L → w1.ownsRow w.heap.size 86 7 v xs.length (xs.flatMap Ent.cs) → Ext w w1 →
      Calls Try.prog 55 #[v, .func (.func 43) #[] #[]] w1 fun e W' => e = .returned (.tuple #[]) ∧ EnsAt W' v r ∧ Ext w W' := by
    intro w1 v xs hx hrow hX
    by_cases h0 : xs.length = 0
    · obtain rfl : xs = [] := List.length_eq_zero_iff.1 h0
      obtain rfl : L = [] := (List.nil_perm.1 hx)
      obtain rfl : r = [] := List.perm_nil.1 hp
      obtain ⟨p, cap, rfl⟩ : ∃ p cap, v = .slice p 0 cap := by
        rcases hrow.2 with ⟨rfl, _⟩ | ⟨g, cap, cur, rfl, _⟩
        · exact ⟨_, _, rfl⟩
        · exact ⟨_, _, rfl⟩
      have hc := AnyF.slices_SortFunc_none Try.laysSl p cap (.func (.func 43) #[] #[]) w1
      refine hc.mono ?_
      rintro e w' ⟨rfl, rfl⟩
      exact ⟨rfl, ens_of_row hrow, hX⟩
    · obtain ⟨g, cap, rfl⟩ : ∃ g cap, v = .slice (some ⟨g, 0, none⟩) xs.length cap := by
        rcases hrow.2 with ⟨_, h⟩ | ⟨g, cap, cur, rfl, _⟩
        · exact absurd h h0
        · exact ⟨_, _, rfl⟩
      obtain ⟨hH, hbg, hlt⟩ := holds_of_row hrow
      have hlen : xs.length = L.length := hx.length_eq
      have hc := AnyQ.slices_SortFunc Try.laysSl 7 Try.isAgg86 Try.sizeOf86 Ent.cs cs_len (fun x v hv => by simp [Ent.cs] at hv; rcases hv with rfl | rfl | rfl | rfl | rfl | rfl | rfl <;> rfl) cmpE swo_ent 43 #[] g 0 cap xs.toArray w1 eg (cmp_lays g 0 _ w1) hH hlt (by simp; omega)
      refine Calls.mono hc ?_
      rintro e w' ⟨rfl, d', n, os, h1, h2, rfl⟩
      have hd := sorted_list hr hp xs.toArray d' (by simpa using hx) h1 h2
      refine ⟨rfl, ?_, ext_sortWorld w w1 g n d' os hX hbg⟩
      obtain ⟨dl⟩ := d'
      simp only at hd
      subst hd
      have hl2 : dl.length = xs.length := by have := h1.1; simpa using this
      rw [← hl2]
      exact ens_of_holds (holdsK_sortWorldK_c Ent.cs 7 w1 g 0 xs.toArray dl.toArray n os hH hlt (by simpa using hl2))
  go_enter Try.func41, Try.ntmps41
  go_wp2_with (first
    | (go_at_call 54; refine HC.mono ?_; rintro e w' ⟨v, xs, rfl, hx, ho, hB⟩)
    | (go_at_call 55; refine (HS _ _ _ hx ho hB).mono ?_; rintro e w'' ⟨rfl, hE, hX⟩))
  go_ret
  exact ⟨_, rfl, hE, hX, fresh_row ho⟩
end Go.Proofs.Ytepcnpnpjfdfmaa
namespace Go.Proofs.Ytepcnpnpjfdfmaa
open Go.RowKit Go.Maps
open Go.ChangeMaps (setBlock)
set_option maxRecDepth 100000 in
theorem of_any (x : Ent) (w : World) : Calls Try.prog 53 #[x.v] w fun e w' => e = .returned x.k ∧ Ext w w' := by
  dsimp only [Ent.v, Ent.k]
  go_enter Try.func53, Try.ntmps53
  go_wp2_with fail
  go_returns
  all_goals try exact ⟨rfl, ((Ext.refl w).alloc _).alloc _⟩
theorem Ent.eq_of {x y : Ent} (h : x.nd = y.nd ∧ x.bt = y.bt ∧ x.sq = y.sq ∧ x.tn = y.tn ∧ x.ht = y.ht ∧ x.by_ = y.by_ ∧ x.at_ = y.at_) : x = y := by
  cases x; cases y; simp_all
theorem row_laid (w : World) (e : TypeId) (xs : List Value) : RowB (w.alloc (.cells xs.toArray e)) w.heap.size e xs :=
  ⟨xs.toArray, (0, 0), [], World.alloc_heap_new w _, fun _ h1 h2 => by omega, by simp⟩
theorem ent_cells {w : World} {g : Nat} {x : Ent} (h : RowB w g 86 x.cs) : w.cell? ⟨g, 0, none⟩ = some (.string x.nd) ∧ w.cell? ⟨g, 1, none⟩ = some (.int .i64 x.bt) ∧ w.cell? ⟨g, 2, none⟩ = some (.int .i64 x.sq) ∧
    w.cell? ⟨g, 3, none⟩ = some (.int .i64 x.tn) ∧ w.cell? ⟨g, 4, none⟩ = some (.int .i64 x.ht) ∧ w.cell? ⟨g, 5, none⟩ = some (.int .i64 x.by_) ∧ w.cell? ⟨g, 6, none⟩ = some (.int .i64 x.at_) :=
  ⟨h.cell (j := 0) rfl, h.cell (j := 1) rfl, h.cell (j := 2) rfl, h.cell (j := 3) rfl, h.cell (j := 4) rfl, h.cell (j := 5) rfl, h.cell (j := 6) rfl⟩
theorem ext_set7 {a w : World} (h : Ext a w) {g : Nat} (hg : a.heap.size ≤ g) (v0 v1 v2 v3 v4 v5 v6 : Value) : Ext a (((((((w.setCell ⟨g, 0, none⟩ v0).setCell ⟨g, 1, none⟩ v1).setCell ⟨g, 2, none⟩ v2).setCell ⟨g, 3, none⟩ v3).setCell ⟨g, 4, none⟩ v4).setCell ⟨g, 5, none⟩ v5).setCell ⟨g, 6, none⟩ v6) :=
  ((((((h.setCell (p := ⟨g, 0, none⟩) hg v0).setCell (p := ⟨g, 1, none⟩) hg v1).setCell (p := ⟨g, 2, none⟩) hg v2).setCell (p := ⟨g, 3, none⟩) hg v3).setCell (p := ⟨g, 4, none⟩) hg v4).setCell (p := ⟨g, 5, none⟩) hg v5).setCell (p := ⟨g, 6, none⟩) hg v6
theorem row_set7 {w : World} {g : Nat} {x : Ent} (h : RowB w g 86 x.cs) (y : Ent) :
    RowB (((((((w.setCell ⟨g, 0, none⟩ (.string y.nd)).setCell ⟨g, 1, none⟩ (.int .i64 y.bt)).setCell ⟨g, 2, none⟩ (.int .i64 y.sq)).setCell ⟨g, 3, none⟩ (.int .i64 y.tn)).setCell ⟨g, 4, none⟩ (.int .i64 y.ht)).setCell ⟨g, 5, none⟩ (.int .i64 y.by_)).setCell ⟨g, 6, none⟩ (.int .i64 y.at_)) g 86 y.cs :=
  ((((((h.set 0 (.string y.nd) (by simp [Ent.cs])).set 1 (.int .i64 y.bt) (by simp [Ent.cs])).set 2 (.int .i64 y.sq) (by simp [Ent.cs])).set 3 (.int .i64 y.tn) (by simp [Ent.cs])).set 4 (.int .i64 y.ht) (by simp [Ent.cs])).set 5 (.int .i64 y.by_) (by simp [Ent.cs])).set 6 (.int .i64 y.at_) (by simp [Ent.cs])
set_option maxRecDepth 100000 in
set_option maxHeartbeats 1000000 in
theorem put_fits (q b : Nat) (x : Ent) (old : Ent) (there : Bool) (ho : there = true → old = x) (o' : Obj) (w : World) (hc : w.cell? ⟨q, 0, none⟩ = some (.map (some b)))
    (hs : (x.nd.size : Int) ≤ 9223372036854775807) (hn : nmB x.nd = true) (h : okEn x.bt x.sq x.tn x.ht x.by_ x.at_)
    (HL : ∀ W, Ext w W → (Instr.lookup 93 (.map (some b)) x.k true).run Try.prog W = .ok (.tuple #[old.v, .bool there]) W)
    (HU : ∀ W, Ext w W → (Instr.mapUpdate 93 (.map (some b)) x.k x.v).run Try.prog W = .ok () (setBlock W b o')) :
    Calls Try.prog 39 #[.pointer (some ⟨q, 0, none⟩), x.v] w fun e w' => e = .returned (.tuple #[.bool (!there), .nilIface]) ∧ ∃ W1, Ext w W1 ∧ w' = setBlock W1 b o' := by
  have HCK := Lib.hid (fun W => check_ok x.nd x.bt x.sq x.tn x.ht x.by_ x.at_ hs hn h W)
  have HLH := Lib.hid HL
  have HUH := Lib.hid HU
  have HC := Lib.hid hc
  clear HL HU hs hn h
  dsimp only [Ent.v]
  go_enter Try.func39, Try.ntmps39
  obtain ⟨w0, hw0⟩ : ∃ w0, w0 = w.alloc (.cells x.cs.toArray 86) := ⟨_, rfl⟩
  have X0 : Ext w w0 := by rw [hw0]; exact (Ext.refl w).alloc _
  have HT : Hid (RowB w0 w.heap.size 86 x.cs) := Lib.hid (by rw [hw0]; exact row_laid _ _ _)
  have HOF : Hid (∀ W, Calls Try.prog 53 #[.agg #[.string x.nd, .int .i64 x.bt, .int .i64 x.sq, .int .i64 x.tn, .int .i64 x.ht, .int .i64 x.by_, .int .i64 x.at_]] W fun e w' => e = .returned (.agg #[.string x.nd, .int .i64 x.bt, .int .i64 x.sq]) ∧ Ext W w') := Lib.hid (fun W => of_any x W)
  go_upto_region 1 with fail
  simp only [Ent.cs] at hw0
  rw [← hw0]
  clear hw0
  obtain ⟨t0, t1, t2, t3, t4, t5, t6⟩ := ent_cells HT.out
  go_upto_region 6 with (go_at_call 52; refine (HCK.out _).mono ?_; rintro e w1 ⟨rfl, hx1⟩)
  clear t0 t1 t2 t3 t4 t5 t6
  have HT1 := Lib.hid (HT.out.ext hx1)
  have HX1 := Lib.hid (X0.trans hx1)
  have HC1 := Lib.hid (fun W (hW : Ext w1 W) => ((X0.trans hx1).trans hW).cell HC.out)
  simp only [Ent.v, Ent.k] at HLH
  go_cut [7, 8] (fun pv kv wx => ∃ mb, pv = .pointer (some ⟨mb, 0, none⟩) ∧ kv = .bool there ∧ Ext w1 wx ∧ RowB wx mb 86 old.cs)
  case first =>
    refine wp_region_C (C := fun w' => Ext w1 w') (by kernel_rfl) ?_
    have HN1 := Lib.hid (show Ext w1 w1.drew from (Ext.refl _).drew)
    refine wpAnyC_take (i := 0) (v := .pointer (some ⟨q, 0, none⟩)) rfl (by kernel_rfl) (by kernel_rfl) (by kernel_rfl) (fun _ _ _ h => h) HN1.out (by kernel_rfl) ?_ ?_
    · intro W hW; go_simp; try (with_reducible rfl)
    change wpAnyC _ _ _ _ _ _ _ (Act.put _ (some 18) (.pointer (some ⟨q, 0, none⟩))) _
    try simp only [Act.put, List.setIfInBounds_toArray, List.set_cons_succ, List.set_cons_zero]
    refine wpAnyC_take (i := 1) (v := .pointer (some ⟨q, 0, none⟩)) rfl (by kernel_rfl) (by kernel_rfl) (by kernel_rfl) (fun _ _ _ h => h) HN1.out (by kernel_rfl) ?_ ?_
    · intro W hW; go_simp; try (with_reducible rfl)
    change wpAnyC _ _ _ _ _ _ _ (Act.put _ (some 19) (.pointer (some ⟨q, 0, none⟩))) _
    try simp only [Act.put, List.setIfInBounds_toArray, List.set_cons_succ, List.set_cons_zero]
    refine wpAnyC_take (i := 2) (v := .pointer (some ⟨q, 0, none⟩)) rfl (by kernel_rfl) (by kernel_rfl) (by kernel_rfl) (fun _ _ _ h => h) HN1.out (by kernel_rfl) ?_ ?_
    · intro W hW; go_simp; try (with_reducible rfl)
    change wpAnyC _ _ _ _ _ _ _ (Act.put _ (some 20) (.pointer (some ⟨q, 0, none⟩))) _
    try simp only [Act.put, List.setIfInBounds_toArray, List.set_cons_succ, List.set_cons_zero]
    refine wpAnyC_take (i := 3) (v := .map (some b)) rfl (by kernel_rfl) (by kernel_rfl) (by kernel_rfl) (fun _ _ _ h => h) HN1.out (by kernel_rfl) ?_ ?_
    · intro W hW; have zz := HC1.out _ hW; go_simp; try (with_reducible rfl)
    change wpAnyC _ _ _ _ _ _ _ (Act.put _ (some 21) (.map (some b))) _
    try simp only [Act.put, List.setIfInBounds_toArray, List.set_cons_succ, List.set_cons_zero]
    refine wpAnyC_take (i := 4) (v := .agg #[.string x.nd, .int .i64 x.bt, .int .i64 x.sq, .int .i64 x.tn, .int .i64 x.ht, .int .i64 x.by_, .int .i64 x.at_]) rfl (by kernel_rfl) (by kernel_rfl) (by kernel_rfl) (fun _ _ _ h => h) HN1.out (by kernel_rfl) ?_ ?_
    · intro W hW; obtain ⟨z0, z1, z2, z3, z4, z5, z6⟩ := ent_cells (HT1.out.ext hW); go_simp; try (with_reducible rfl)
    change wpAnyC _ _ _ _ _ _ _ (Act.put _ (some 22) (.agg #[.string x.nd, .int .i64 x.bt, .int .i64 x.sq, .int .i64 x.tn, .int .i64 x.ht, .int .i64 x.by_, .int .i64 x.at_])) _
    try simp only [Act.put, List.setIfInBounds_toArray, List.set_cons_succ, List.set_cons_zero]
    refine wpAnyC_two 5 10 (by kernel_rfl) ?_ ?_
    · refine wpOpC_of rfl (by kernel_rfl) (fun KK hKK => ?_)
      go_simp
      refine (HOF.out _).mono ?_
      rintro e wh ⟨rfl, hxh⟩
      refine hKK _ _ (Ext.trans HN1.out hxh) ?_
      clear hKK KK
      try simp only [Act.put, List.setIfInBounds_toArray, List.set_cons_succ, List.set_cons_zero]
      have XH := Ext.trans HN1.out hxh
      refine wpAnyC_take (i := 6) (v := .tuple #[.agg #[.string old.nd, .int .i64 old.bt, .int .i64 old.sq, .int .i64 old.tn, .int .i64 old.ht, .int .i64 old.by_, .int .i64 old.at_], .bool there]) rfl (by kernel_rfl) (by kernel_rfl) (by kernel_rfl) (fun _ _ _ h => h) XH (by kernel_rfl) ?_ ?_
      · intro W hW; have zz := HLH.out W (HX1.out.trans hW); go_simp; try (with_reducible rfl)
      change wpAnyC _ _ _ _ _ _ _ (Act.put _ (some 24) (.tuple #[.agg #[.string old.nd, .int .i64 old.bt, .int .i64 old.sq, .int .i64 old.tn, .int .i64 old.ht, .int .i64 old.by_, .int .i64 old.at_], .bool there])) _
      try simp only [Act.put, List.setIfInBounds_toArray, List.set_cons_succ, List.set_cons_zero]
      refine wpAnyC_take (i := 7) (v := .tuple #[.agg #[.string old.nd, .int .i64 old.bt, .int .i64 old.sq, .int .i64 old.tn, .int .i64 old.ht, .int .i64 old.by_, .int .i64 old.at_], .bool there]) rfl (by kernel_rfl) (by kernel_rfl) (by kernel_rfl) (fun _ _ _ h => h) XH (by kernel_rfl) ?_ ?_
      · intro W hW; go_simp; try (with_reducible rfl)
      change wpAnyC _ _ _ _ _ _ _ (Act.put _ (some 17) (.tuple #[.agg #[.string old.nd, .int .i64 old.bt, .int .i64 old.sq, .int .i64 old.tn, .int .i64 old.ht, .int .i64 old.by_, .int .i64 old.at_], .bool there])) _
      try simp only [Act.put, List.setIfInBounds_toArray, List.set_cons_succ, List.set_cons_zero]
      refine wpAnyC_take (i := 8) (v := .agg #[.string old.nd, .int .i64 old.bt, .int .i64 old.sq, .int .i64 old.tn, .int .i64 old.ht, .int .i64 old.by_, .int .i64 old.at_]) rfl (by kernel_rfl) (by kernel_rfl) (by kernel_rfl) (fun _ _ _ h => h) XH (by kernel_rfl) ?_ ?_
      · intro W hW; go_simp; try (with_reducible rfl)
      change wpAnyC _ _ _ _ _ _ _ (Act.put _ (some 25) (.agg #[.string old.nd, .int .i64 old.bt, .int .i64 old.sq, .int .i64 old.tn, .int .i64 old.ht, .int .i64 old.by_, .int .i64 old.at_])) _
      try simp only [Act.put, List.setIfInBounds_toArray, List.set_cons_succ, List.set_cons_zero]
      refine wpAnyC_take (i := 9) (v := .bool there) rfl (by kernel_rfl) (by kernel_rfl) (by kernel_rfl) (fun _ _ _ h => h) XH (by kernel_rfl) ?_ ?_
      · intro W hW; go_simp; try (with_reducible rfl)
      change wpAnyC _ _ _ _ _ _ _ (Act.put _ (some 26) (.bool there)) _
      try simp only [Act.put, List.setIfInBounds_toArray, List.set_cons_succ, List.set_cons_zero]
      refine wpAnyC_one 10 (by kernel_rfl) rfl (by kernel_rfl) (fun KK hKK => ?_)
      go_simp
      refine hKK _ _ (Ext.alloc XH _) ?_
      clear hKK KK
      try simp only [Act.put, List.setIfInBounds_toArray, List.set_cons_succ, List.set_cons_zero]
      refine wpAnyC_one 11 (by kernel_rfl) rfl (by kernel_rfl) (fun KK hKK => ?_)
      go_simp
      refine hKK _ _ (Ext.alloc XH _) ?_
      clear hKK KK
      try simp only [Act.put, List.setIfInBounds_toArray, List.set_cons_succ, List.set_cons_zero]
      refine wpAnyC_one 12 (by kernel_rfl) rfl (by kernel_rfl) (fun KK hKK => ?_)
      go_simp
      refine hKK _ _ (Ext.alloc XH _) ?_
      clear hKK KK
      try simp only [Act.put, List.setIfInBounds_toArray, List.set_cons_succ, List.set_cons_zero]
      refine ⟨by kernel_rfl, ?_⟩
      go_wp2_with fail
      go_meet
      exact ⟨wh.heap.size, rfl, rfl, Ext.alloc XH _, row_laid _ _ old.cs⟩
    · refine wpOpC_of rfl (by kernel_rfl) (fun KK hKK => ?_)
      go_simp
      refine hKK _ _ (Ext.alloc HN1.out _) ?_
      clear hKK KK
      try simp only [Act.put, List.setIfInBounds_toArray, List.set_cons_succ, List.set_cons_zero]
      have XA := Ext.alloc HN1.out (.cells entZ.cs.toArray 86)
      have RA : RowB (w1.drew.alloc (.cells entZ.cs.toArray 86)) w1.heap.size 86 entZ.cs := row_laid w1.drew 86 entZ.cs
      refine wpAnyC_one 5 (by kernel_rfl) rfl (by kernel_rfl) (fun KK hKK => ?_)
      go_simp
      refine (HOF.out _).mono ?_
      rintro e wh ⟨rfl, hxh⟩
      refine hKK _ _ (Ext.trans XA hxh) ?_
      clear hKK KK
      try simp only [Act.put, List.setIfInBounds_toArray, List.set_cons_succ, List.set_cons_zero]
      have XH := Ext.trans XA hxh
      replace RA := RA.ext hxh
      refine wpAnyC_take (i := 6) (v := .tuple #[.agg #[.string old.nd, .int .i64 old.bt, .int .i64 old.sq, .int .i64 old.tn, .int .i64 old.ht, .int .i64 old.by_, .int .i64 old.at_], .bool there]) rfl (by kernel_rfl) (by kernel_rfl) (by kernel_rfl) (fun _ _ _ h => h) XH (by kernel_rfl) ?_ ?_
      · intro W hW; have zz := HLH.out W (HX1.out.trans hW); go_simp; try (with_reducible rfl)
      change wpAnyC _ _ _ _ _ _ _ (Act.put _ (some 24) (.tuple #[.agg #[.string old.nd, .int .i64 old.bt, .int .i64 old.sq, .int .i64 old.tn, .int .i64 old.ht, .int .i64 old.by_, .int .i64 old.at_], .bool there])) _
      try simp only [Act.put, List.setIfInBounds_toArray, List.set_cons_succ, List.set_cons_zero]
      refine wpAnyC_take (i := 7) (v := .tuple #[.agg #[.string old.nd, .int .i64 old.bt, .int .i64 old.sq, .int .i64 old.tn, .int .i64 old.ht, .int .i64 old.by_, .int .i64 old.at_], .bool there]) rfl (by kernel_rfl) (by kernel_rfl) (by kernel_rfl) (fun _ _ _ h => h) XH (by kernel_rfl) ?_ ?_
      · intro W hW; go_simp; try (with_reducible rfl)
      change wpAnyC _ _ _ _ _ _ _ (Act.put _ (some 17) (.tuple #[.agg #[.string old.nd, .int .i64 old.bt, .int .i64 old.sq, .int .i64 old.tn, .int .i64 old.ht, .int .i64 old.by_, .int .i64 old.at_], .bool there])) _
      try simp only [Act.put, List.setIfInBounds_toArray, List.set_cons_succ, List.set_cons_zero]
      refine wpAnyC_take (i := 8) (v := .agg #[.string old.nd, .int .i64 old.bt, .int .i64 old.sq, .int .i64 old.tn, .int .i64 old.ht, .int .i64 old.by_, .int .i64 old.at_]) rfl (by kernel_rfl) (by kernel_rfl) (by kernel_rfl) (fun _ _ _ h => h) XH (by kernel_rfl) ?_ ?_
      · intro W hW; go_simp; try (with_reducible rfl)
      change wpAnyC _ _ _ _ _ _ _ (Act.put _ (some 25) (.agg #[.string old.nd, .int .i64 old.bt, .int .i64 old.sq, .int .i64 old.tn, .int .i64 old.ht, .int .i64 old.by_, .int .i64 old.at_])) _
      try simp only [Act.put, List.setIfInBounds_toArray, List.set_cons_succ, List.set_cons_zero]
      refine wpAnyC_take (i := 9) (v := .bool there) rfl (by kernel_rfl) (by kernel_rfl) (by kernel_rfl) (fun _ _ _ h => h) XH (by kernel_rfl) ?_ ?_
      · intro W hW; go_simp; try (with_reducible rfl)
      change wpAnyC _ _ _ _ _ _ _ (Act.put _ (some 26) (.bool there)) _
      try simp only [Act.put, List.setIfInBounds_toArray, List.set_cons_succ, List.set_cons_zero]
      refine wpAnyC_one 11 (by kernel_rfl) rfl (by kernel_rfl) (fun KK hKK => ?_)
      obtain ⟨y0, y1, y2, y3, y4, y5, y6⟩ := ent_cells RA
      have f0 := RA.frozen (j := 0) (by decide)
      have f1 := RA.frozen (j := 1) (by decide)
      have f2 := RA.frozen (j := 2) (by decide)
      have f3 := RA.frozen (j := 3) (by decide)
      have f4 := RA.frozen (j := 4) (by decide)
      have f5 := RA.frozen (j := 5) (by decide)
      have f6 := RA.frozen (j := 6) (by decide)
      go_simp
      have XS := fun v0 v1 v2 v3 v4 v5 v6 => ext_set7 XH (Nat.le_refl w1.heap.size) v0 v1 v2 v3 v4 v5 v6
      refine hKK _ _ (XS ..) ?_
      clear hKK KK
      try simp only [Act.put, List.setIfInBounds_toArray, List.set_cons_succ, List.set_cons_zero]
      refine wpAnyC_one 12 (by kernel_rfl) rfl (by kernel_rfl) (fun KK hKK => ?_)
      go_simp
      refine hKK _ _ (XS ..) ?_
      clear hKK KK
      try simp only [Act.put, List.setIfInBounds_toArray, List.set_cons_succ, List.set_cons_zero]
      refine ⟨by kernel_rfl, ?_⟩
      go_wp2_with fail
      go_meet
      refine ⟨w1.heap.size, rfl, rfl, XS .., ?_⟩
      exact row_set7 RA old
  obtain ⟨mb, rfl, rfl, hx2, HM⟩ := hcut
  have hT2 := HT1.out.ext hx2
  obtain ⟨t0, t1, t2, t3, t4, t5, t6⟩ := ent_cells hT2
  obtain ⟨m0, m1, m2, m3, m4, m5, m6⟩ := ent_cells HM
  have HTW : Hid (∀ n : Wd wc, RowB n.val w.heap.size 86 x.cs) := Lib.hid (fun n => hT2.ext n.ext)
  have p1 : ∀ n : Wd wc, n.val.cell? ⟨w.heap.size, 0, none⟩ = some (.string x.nd) := fun n => (ent_cells (hT2.ext n.ext)).1
  have p2 : ∀ n : Wd wc, n.val.cell? ⟨w.heap.size, 1, none⟩ = some (.int .i64 x.bt) := fun n => (ent_cells (hT2.ext n.ext)).2.1
  have p3 : ∀ n : Wd wc, n.val.cell? ⟨w.heap.size, 2, none⟩ = some (.int .i64 x.sq) := fun n => (ent_cells (hT2.ext n.ext)).2.2.1
  have p4 : ∀ n : Wd wc, n.val.cell? ⟨w.heap.size, 3, none⟩ = some (.int .i64 x.tn) := fun n => (ent_cells (hT2.ext n.ext)).2.2.2.1
  have p5 : ∀ n : Wd wc, n.val.cell? ⟨w.heap.size, 4, none⟩ = some (.int .i64 x.ht) := fun n => (ent_cells (hT2.ext n.ext)).2.2.2.2.1
  have p6 : ∀ n : Wd wc, n.val.cell? ⟨w.heap.size, 5, none⟩ = some (.int .i64 x.by_) := fun n => (ent_cells (hT2.ext n.ext)).2.2.2.2.2.1
  have p7 : ∀ n : Wd wc, n.val.cell? ⟨w.heap.size, 6, none⟩ = some (.int .i64 x.at_) := fun n => (ent_cells (hT2.ext n.ext)).2.2.2.2.2.2
  have p0 : ∀ n : Wd wc, n.val.cell? ⟨q, 0, none⟩ = some (.map (some b)) := fun n => HC1.out _ (hx2.trans n.ext)
  have HU2 : Hid (∀ n : Wd wc, (Instr.mapUpdate 93 (.map (some b)) (.agg #[.string x.nd, .int .i64 x.bt, .int .i64 x.sq]) (.agg #[.string x.nd, .int .i64 x.bt, .int .i64 x.sq, .int .i64 x.tn, .int .i64 x.ht, .int .i64 x.by_, .int .i64 x.at_])).run Try.prog n.val = .ok () (setBlock n.val b o')) := Lib.hid (fun n => HUH.out _ (HX1.out.trans (hx2.trans n.ext)))
  have HX2 := Lib.hid (HX1.out.trans hx2)
  clear hT2 hx2 HM HTW
  cases there
  case false =>
    clear ho
    go_upto_region 9 with fail
    clear t0 t1 t2 t3 t4 t5 t6 m0 m1 m2 m3 m4 m5 m6
    refine wp_region_wd_tail 7 (by kernel_rfl) (by kernel_rfl) ?_
    simp only [List.take_succ_cons, List.take_zero, List.drop_succ_cons, List.drop_zero]
    repeat (go_big_quiet_step ((go_at_call 53; exact Calls.wd_of (HOF.out _))))
    refine wpQuiet_nil ?_
    rintro _ ⟨nq, rfl⟩
    have HUN := HU2.out nq
    go_wp2_with fail
    go_ret2
    exact ⟨rfl, nq.val, HX2.out.trans nq.ext, rfl⟩
  case true =>
    obtain rfl := ho rfl
    clear ho
    go_upto_region 9 with fail
    clear t0 t1 t2 t3 t4 t5 t6 m0 m1 m2 m3 m4 m5 m6
    refine wp_region_wd_tail 7 (by kernel_rfl) (by kernel_rfl) ?_
    simp only [List.take_succ_cons, List.take_zero, List.drop_succ_cons, List.drop_zero]
    repeat (go_big_quiet_step ((go_at_call 53; exact Calls.wd_of (HOF.out _))))
    refine wpQuiet_nil ?_
    rintro _ ⟨nq, rfl⟩
    have HUN := HU2.out nq
    go_wp2_with fail
    go_ret2
    exact ⟨rfl, nq.val, HX2.out.trans nq.ext, rfl⟩
set_option maxRecDepth 100000 in
set_option maxHeartbeats 1000000 in
theorem put_mixed (q b : Nat) (x : Ent) (old : Ent) (ho : old ≠ x) (w : World) (hc : w.cell? ⟨q, 0, none⟩ = some (.map (some b)))
    (hs : (x.nd.size : Int) ≤ 9223372036854775807) (hn : nmB x.nd = true) (h : okEn x.bt x.sq x.tn x.ht x.by_ x.at_)
    (HL : ∀ W, Ext w W → (Instr.lookup 93 (.map (some b)) x.k true).run Try.prog W = .ok (.tuple #[old.v, .bool true]) W) :
    Calls Try.prog 39 #[.pointer (some ⟨q, 0, none⟩), x.v] w fun e w' => e = .returned (.tuple #[.bool false, errV 20]) ∧ Ext w w' := by
  have HCK := Lib.hid (fun W => check_ok x.nd x.bt x.sq x.tn x.ht x.by_ x.at_ hs hn h W)
  have HLH := Lib.hid HL
  have HC := Lib.hid hc
  clear HL hs hn h
  dsimp only [Ent.v]
  go_enter Try.func39, Try.ntmps39
  obtain ⟨w0, hw0⟩ : ∃ w0, w0 = w.alloc (.cells x.cs.toArray 86) := ⟨_, rfl⟩
  have X0 : Ext w w0 := by rw [hw0]; exact (Ext.refl w).alloc _
  have HT : Hid (RowB w0 w.heap.size 86 x.cs) := Lib.hid (by rw [hw0]; exact row_laid _ _ _)
  have HOF : Hid (∀ W, Calls Try.prog 53 #[.agg #[.string x.nd, .int .i64 x.bt, .int .i64 x.sq, .int .i64 x.tn, .int .i64 x.ht, .int .i64 x.by_, .int .i64 x.at_]] W fun e w' => e = .returned (.agg #[.string x.nd, .int .i64 x.bt, .int .i64 x.sq]) ∧ Ext W w') := Lib.hid (fun W => of_any x W)
  go_upto_region 1 with fail
  simp only [Ent.cs] at hw0
  rw [← hw0]
  clear hw0
  obtain ⟨t0, t1, t2, t3, t4, t5, t6⟩ := ent_cells HT.out
  go_upto_region 6 with (go_at_call 52; refine (HCK.out _).mono ?_; rintro e w1 ⟨rfl, hx1⟩)
  clear t0 t1 t2 t3 t4 t5 t6
  have HT1 := Lib.hid (HT.out.ext hx1)
  have HX1 := Lib.hid (X0.trans hx1)
  have HC1 := Lib.hid (fun W (hW : Ext w1 W) => ((X0.trans hx1).trans hW).cell HC.out)
  simp only [Ent.v, Ent.k] at HLH
  go_cut [7, 8] (fun pv kv wx => ∃ mb, pv = .pointer (some ⟨mb, 0, none⟩) ∧ kv = .bool true ∧ Ext w1 wx ∧ RowB wx mb 86 old.cs)
  case first =>
    refine wp_region_C (C := fun w' => Ext w1 w') (by kernel_rfl) ?_
    have HN1 := Lib.hid (show Ext w1 w1.drew from (Ext.refl _).drew)
    refine wpAnyC_take (i := 0) (v := .pointer (some ⟨q, 0, none⟩)) rfl (by kernel_rfl) (by kernel_rfl) (by kernel_rfl) (fun _ _ _ h => h) HN1.out (by kernel_rfl) ?_ ?_
    · intro W hW; go_simp; try (with_reducible rfl)
    change wpAnyC _ _ _ _ _ _ _ (Act.put _ (some 18) (.pointer (some ⟨q, 0, none⟩))) _
    try simp only [Act.put, List.setIfInBounds_toArray, List.set_cons_succ, List.set_cons_zero]
    refine wpAnyC_take (i := 1) (v := .pointer (some ⟨q, 0, none⟩)) rfl (by kernel_rfl) (by kernel_rfl) (by kernel_rfl) (fun _ _ _ h => h) HN1.out (by kernel_rfl) ?_ ?_
    · intro W hW; go_simp; try (with_reducible rfl)
    change wpAnyC _ _ _ _ _ _ _ (Act.put _ (some 19) (.pointer (some ⟨q, 0, none⟩))) _
    try simp only [Act.put, List.setIfInBounds_toArray, List.set_cons_succ, List.set_cons_zero]
    refine wpAnyC_take (i := 2) (v := .pointer (some ⟨q, 0, none⟩)) rfl (by kernel_rfl) (by kernel_rfl) (by kernel_rfl) (fun _ _ _ h => h) HN1.out (by kernel_rfl) ?_ ?_
    · intro W hW; go_simp; try (with_reducible rfl)
    change wpAnyC _ _ _ _ _ _ _ (Act.put _ (some 20) (.pointer (some ⟨q, 0, none⟩))) _
    try simp only [Act.put, List.setIfInBounds_toArray, List.set_cons_succ, List.set_cons_zero]
    refine wpAnyC_take (i := 3) (v := .map (some b)) rfl (by kernel_rfl) (by kernel_rfl) (by kernel_rfl) (fun _ _ _ h => h) HN1.out (by kernel_rfl) ?_ ?_
    · intro W hW; have zz := HC1.out _ hW; go_simp; try (with_reducible rfl)
    change wpAnyC _ _ _ _ _ _ _ (Act.put _ (some 21) (.map (some b))) _
    try simp only [Act.put, List.setIfInBounds_toArray, List.set_cons_succ, List.set_cons_zero]
    refine wpAnyC_take (i := 4) (v := .agg #[.string x.nd, .int .i64 x.bt, .int .i64 x.sq, .int .i64 x.tn, .int .i64 x.ht, .int .i64 x.by_, .int .i64 x.at_]) rfl (by kernel_rfl) (by kernel_rfl) (by kernel_rfl) (fun _ _ _ h => h) HN1.out (by kernel_rfl) ?_ ?_
    · intro W hW; obtain ⟨z0, z1, z2, z3, z4, z5, z6⟩ := ent_cells (HT1.out.ext hW); go_simp; try (with_reducible rfl)
    change wpAnyC _ _ _ _ _ _ _ (Act.put _ (some 22) (.agg #[.string x.nd, .int .i64 x.bt, .int .i64 x.sq, .int .i64 x.tn, .int .i64 x.ht, .int .i64 x.by_, .int .i64 x.at_])) _
    try simp only [Act.put, List.setIfInBounds_toArray, List.set_cons_succ, List.set_cons_zero]
    refine wpAnyC_two 5 10 (by kernel_rfl) ?_ ?_
    · refine wpOpC_of rfl (by kernel_rfl) (fun KK hKK => ?_)
      go_simp
      refine (HOF.out _).mono ?_
      rintro e wh ⟨rfl, hxh⟩
      refine hKK _ _ (Ext.trans HN1.out hxh) ?_
      clear hKK KK
      try simp only [Act.put, List.setIfInBounds_toArray, List.set_cons_succ, List.set_cons_zero]
      have XH := Ext.trans HN1.out hxh
      refine wpAnyC_take (i := 6) (v := .tuple #[.agg #[.string old.nd, .int .i64 old.bt, .int .i64 old.sq, .int .i64 old.tn, .int .i64 old.ht, .int .i64 old.by_, .int .i64 old.at_], .bool true]) rfl (by kernel_rfl) (by kernel_rfl) (by kernel_rfl) (fun _ _ _ h => h) XH (by kernel_rfl) ?_ ?_
      · intro W hW; have zz := HLH.out W (HX1.out.trans hW); go_simp; try (with_reducible rfl)
      change wpAnyC _ _ _ _ _ _ _ (Act.put _ (some 24) (.tuple #[.agg #[.string old.nd, .int .i64 old.bt, .int .i64 old.sq, .int .i64 old.tn, .int .i64 old.ht, .int .i64 old.by_, .int .i64 old.at_], .bool true])) _
      try simp only [Act.put, List.setIfInBounds_toArray, List.set_cons_succ, List.set_cons_zero]
      refine wpAnyC_take (i := 7) (v := .tuple #[.agg #[.string old.nd, .int .i64 old.bt, .int .i64 old.sq, .int .i64 old.tn, .int .i64 old.ht, .int .i64 old.by_, .int .i64 old.at_], .bool true]) rfl (by kernel_rfl) (by kernel_rfl) (by kernel_rfl) (fun _ _ _ h => h) XH (by kernel_rfl) ?_ ?_
      · intro W hW; go_simp; try (with_reducible rfl)
      change wpAnyC _ _ _ _ _ _ _ (Act.put _ (some 17) (.tuple #[.agg #[.string old.nd, .int .i64 old.bt, .int .i64 old.sq, .int .i64 old.tn, .int .i64 old.ht, .int .i64 old.by_, .int .i64 old.at_], .bool true])) _
      try simp only [Act.put, List.setIfInBounds_toArray, List.set_cons_succ, List.set_cons_zero]
      refine wpAnyC_take (i := 8) (v := .agg #[.string old.nd, .int .i64 old.bt, .int .i64 old.sq, .int .i64 old.tn, .int .i64 old.ht, .int .i64 old.by_, .int .i64 old.at_]) rfl (by kernel_rfl) (by kernel_rfl) (by kernel_rfl) (fun _ _ _ h => h) XH (by kernel_rfl) ?_ ?_
      · intro W hW; go_simp; try (with_reducible rfl)
      change wpAnyC _ _ _ _ _ _ _ (Act.put _ (some 25) (.agg #[.string old.nd, .int .i64 old.bt, .int .i64 old.sq, .int .i64 old.tn, .int .i64 old.ht, .int .i64 old.by_, .int .i64 old.at_])) _
      try simp only [Act.put, List.setIfInBounds_toArray, List.set_cons_succ, List.set_cons_zero]
      refine wpAnyC_take (i := 9) (v := .bool true) rfl (by kernel_rfl) (by kernel_rfl) (by kernel_rfl) (fun _ _ _ h => h) XH (by kernel_rfl) ?_ ?_
      · intro W hW; go_simp; try (with_reducible rfl)
      change wpAnyC _ _ _ _ _ _ _ (Act.put _ (some 26) (.bool true)) _
      try simp only [Act.put, List.setIfInBounds_toArray, List.set_cons_succ, List.set_cons_zero]
      refine wpAnyC_one 10 (by kernel_rfl) rfl (by kernel_rfl) (fun KK hKK => ?_)
      go_simp
      refine hKK _ _ (Ext.alloc XH _) ?_
      clear hKK KK
      try simp only [Act.put, List.setIfInBounds_toArray, List.set_cons_succ, List.set_cons_zero]
      refine wpAnyC_one 11 (by kernel_rfl) rfl (by kernel_rfl) (fun KK hKK => ?_)
      go_simp
      refine hKK _ _ (Ext.alloc XH _) ?_
      clear hKK KK
      try simp only [Act.put, List.setIfInBounds_toArray, List.set_cons_succ, List.set_cons_zero]
      refine wpAnyC_one 12 (by kernel_rfl) rfl (by kernel_rfl) (fun KK hKK => ?_)
      go_simp
      refine hKK _ _ (Ext.alloc XH _) ?_
      clear hKK KK
      try simp only [Act.put, List.setIfInBounds_toArray, List.set_cons_succ, List.set_cons_zero]
      refine ⟨by kernel_rfl, ?_⟩
      go_wp2_with fail
      go_meet
      exact ⟨wh.heap.size, rfl, rfl, Ext.alloc XH _, row_laid _ _ old.cs⟩
    · refine wpOpC_of rfl (by kernel_rfl) (fun KK hKK => ?_)
      go_simp
      refine hKK _ _ (Ext.alloc HN1.out _) ?_
      clear hKK KK
      try simp only [Act.put, List.setIfInBounds_toArray, List.set_cons_succ, List.set_cons_zero]
      have XA := Ext.alloc HN1.out (.cells entZ.cs.toArray 86)
      have RA : RowB (w1.drew.alloc (.cells entZ.cs.toArray 86)) w1.heap.size 86 entZ.cs := row_laid w1.drew 86 entZ.cs
      refine wpAnyC_one 5 (by kernel_rfl) rfl (by kernel_rfl) (fun KK hKK => ?_)
      go_simp
      refine (HOF.out _).mono ?_
      rintro e wh ⟨rfl, hxh⟩
      refine hKK _ _ (Ext.trans XA hxh) ?_
      clear hKK KK
      try simp only [Act.put, List.setIfInBounds_toArray, List.set_cons_succ, List.set_cons_zero]
      have XH := Ext.trans XA hxh
      replace RA := RA.ext hxh
      refine wpAnyC_take (i := 6) (v := .tuple #[.agg #[.string old.nd, .int .i64 old.bt, .int .i64 old.sq, .int .i64 old.tn, .int .i64 old.ht, .int .i64 old.by_, .int .i64 old.at_], .bool true]) rfl (by kernel_rfl) (by kernel_rfl) (by kernel_rfl) (fun _ _ _ h => h) XH (by kernel_rfl) ?_ ?_
      · intro W hW; have zz := HLH.out W (HX1.out.trans hW); go_simp; try (with_reducible rfl)
      change wpAnyC _ _ _ _ _ _ _ (Act.put _ (some 24) (.tuple #[.agg #[.string old.nd, .int .i64 old.bt, .int .i64 old.sq, .int .i64 old.tn, .int .i64 old.ht, .int .i64 old.by_, .int .i64 old.at_], .bool true])) _
      try simp only [Act.put, List.setIfInBounds_toArray, List.set_cons_succ, List.set_cons_zero]
      refine wpAnyC_take (i := 7) (v := .tuple #[.agg #[.string old.nd, .int .i64 old.bt, .int .i64 old.sq, .int .i64 old.tn, .int .i64 old.ht, .int .i64 old.by_, .int .i64 old.at_], .bool true]) rfl (by kernel_rfl) (by kernel_rfl) (by kernel_rfl) (fun _ _ _ h => h) XH (by kernel_rfl) ?_ ?_
      · intro W hW; go_simp; try (with_reducible rfl)
      change wpAnyC _ _ _ _ _ _ _ (Act.put _ (some 17) (.tuple #[.agg #[.string old.nd, .int .i64 old.bt, .int .i64 old.sq, .int .i64 old.tn, .int .i64 old.ht, .int .i64 old.by_, .int .i64 old.at_], .bool true])) _
      try simp only [Act.put, List.setIfInBounds_toArray, List.set_cons_succ, List.set_cons_zero]
      refine wpAnyC_take (i := 8) (v := .agg #[.string old.nd, .int .i64 old.bt, .int .i64 old.sq, .int .i64 old.tn, .int .i64 old.ht, .int .i64 old.by_, .int .i64 old.at_]) rfl (by kernel_rfl) (by kernel_rfl) (by kernel_rfl) (fun _ _ _ h => h) XH (by kernel_rfl) ?_ ?_
      · intro W hW; go_simp; try (with_reducible rfl)
      change wpAnyC _ _ _ _ _ _ _ (Act.put _ (some 25) (.agg #[.string old.nd, .int .i64 old.bt, .int .i64 old.sq, .int .i64 old.tn, .int .i64 old.ht, .int .i64 old.by_, .int .i64 old.at_])) _
      try simp only [Act.put, List.setIfInBounds_toArray, List.set_cons_succ, List.set_cons_zero]
      refine wpAnyC_take (i := 9) (v := .bool true) rfl (by kernel_rfl) (by kernel_rfl) (by kernel_rfl) (fun _ _ _ h => h) XH (by kernel_rfl) ?_ ?_
      · intro W hW; go_simp; try (with_reducible rfl)
      change wpAnyC _ _ _ _ _ _ _ (Act.put _ (some 26) (.bool true)) _
      try simp only [Act.put, List.setIfInBounds_toArray, List.set_cons_succ, List.set_cons_zero]
      refine wpAnyC_one 11 (by kernel_rfl) rfl (by kernel_rfl) (fun KK hKK => ?_)
      obtain ⟨y0, y1, y2, y3, y4, y5, y6⟩ := ent_cells RA
      have f0 := RA.frozen (j := 0) (by decide)
      have f1 := RA.frozen (j := 1) (by decide)
      have f2 := RA.frozen (j := 2) (by decide)
      have f3 := RA.frozen (j := 3) (by decide)
      have f4 := RA.frozen (j := 4) (by decide)
      have f5 := RA.frozen (j := 5) (by decide)
      have f6 := RA.frozen (j := 6) (by decide)
      go_simp
      have XS := fun v0 v1 v2 v3 v4 v5 v6 => ext_set7 XH (Nat.le_refl w1.heap.size) v0 v1 v2 v3 v4 v5 v6
      refine hKK _ _ (XS ..) ?_
      clear hKK KK
      try simp only [Act.put, List.setIfInBounds_toArray, List.set_cons_succ, List.set_cons_zero]
      refine wpAnyC_one 12 (by kernel_rfl) rfl (by kernel_rfl) (fun KK hKK => ?_)
      go_simp
      refine hKK _ _ (XS ..) ?_
      clear hKK KK
      try simp only [Act.put, List.setIfInBounds_toArray, List.set_cons_succ, List.set_cons_zero]
      refine ⟨by kernel_rfl, ?_⟩
      go_wp2_with fail
      go_meet
      refine ⟨w1.heap.size, rfl, rfl, XS .., ?_⟩
      exact row_set7 RA old
  obtain ⟨mb, rfl, rfl, hx2, HM⟩ := hcut
  have hT2 := HT1.out.ext hx2
  obtain ⟨t0, t1, t2, t3, t4, t5, t6⟩ := ent_cells hT2
  obtain ⟨m0, m1, m2, m3, m4, m5, m6⟩ := ent_cells HM
  have hX2 := HX1.out.trans hx2
  clear hT2 hx2
  go_wp2_with fail
  all_goals first
    | (go_ret2; exact ⟨rfl, hX2⟩)
    | exact absurd (Ent.eq_of ⟨tl_inj (by assumption), by assumption, by assumption, by assumption, by assumption, by assumption, by assumption⟩) ho
/-- a set: a struct at block q whose one cell is the map at block b -/
structure SetAt (w : World) (q b : Nat) (L : List Ent) : Prop where
  c : w.cell? ⟨q, 0, none⟩ = some (.map (some b))
  hb : w.heap[b]? = some (mpO L)
  ok : ∀ e ∈ L, ((e.nd.size : Int) ≤ 9223372036854775807 ∧ nmB e.nd = true) ∧ okEn e.bt e.sq e.tn e.ht e.by_ e.at_
  nd : L.Pairwise fun a b => a.key ≠ b.key
def Ent.good (e : Ent) : Prop := ((e.nd.size : Int) ≤ 9223372036854775807 ∧ nmB e.nd = true) ∧ okEn e.bt e.sq e.tn e.ht e.by_ e.at_
theorem Ent.good.wf {e : Ent} (h : e.good) : e.wf := by
  obtain ⟨⟨h1, _⟩, ⟨a1, a2⟩, ⟨b1, b2⟩, _⟩ := h
  exact ⟨h1, by omega, by omega⟩
theorem SetAt.ne {w : World} {q b : Nat} {L : List Ent} (h : SetAt w q b L) : q ≠ b := by
  intro e
  have := h.c
  rw [e] at this
  simp [World.cell?, h.hb, mpO] at this
theorem SetAt.kept {w w' : World} {q b : Nat} {L : List Ent} (h : SetAt w q b L) {o : Option Nat} (hg : w.grownBy w' o) (h1 : some q ≠ o) (h2 : some b ≠ o) : SetAt w' q b L := by
  have hlt := World.block_lt_of_cell? w _ h.c
  exact ⟨(World.cell?_of_block (hg.block q hlt h1)).trans h.c, (hg.block b (Array.getElem?_eq_some_iff.1 h.hb).1 h2).trans h.hb, h.ok, h.nd⟩
theorem Ext.grown {w w' : World} (h : Ext w w') (o : Option Nat) : w.grownBy w' o := ⟨Below.os h, Below.tape h, Below.output h, h.size, fun i hi _ => Below.block h i hi⟩
theorem SetAt.ext {w w' : World} {q b : Nat} {L : List Ent} (h : SetAt w q b L) (hx : Ext w w') : SetAt w' q b L := h.kept (hx.grown none) (by simp) (by simp)
theorem grown_set {w w1 : World} {b : Nat} (h : Ext w w1) (o : Obj) : w.grownBy (setBlock w1 b o) (some b) := by
  refine ⟨h.below.os, h.below.tape, h.below.output, by simpa [setBlock] using h.size, fun i hi hn => ?_⟩
  have : i ≠ b := fun e => hn (by rw [e])
  show (w1.heap.setIfInBounds b o)[i]? = _
  rw [Array.getElem?_setIfInBounds, if_neg (by omega)]
  exact h.below.block i hi
/-- what Put answers -/
inductive PutR (L : List Ent) (x : Ent) : Value → List Ent → Prop
  | old : x ∈ L → PutR L x (.tuple #[.bool false, .nilIface]) L
  | new : (∀ e ∈ L, e.key ≠ x.key) → PutR L x (.tuple #[.bool true, .nilIface]) (L ++ [x])
  | mixed (y : Ent) : y ∈ L → y.key = x.key → y ≠ x → PutR L x (.tuple #[.bool false, errV 20]) L
theorem put_good (q b : Nat) (L : List Ent) (x : Ent) (w : World) (h : SetAt w q b L) (hx : x.good) :
    Calls Try.prog 39 #[.pointer (some ⟨q, 0, none⟩), x.v] w fun e w' => ∃ v L', PutR L x v L' ∧ e = .returned v ∧ w.grownBy w' (some b) ∧ SetAt w' q b L' := by
  have hwf : ∀ e ∈ L, e.wf := fun e he => Ent.good.wf (h.ok e he)
  have hbW : ∀ W, Ext w W → W.heap[b]? = some (mpO L) := fun W hW => (Below.block hW b (Array.getElem?_eq_some_iff.1 h.hb).1).trans h.hb
  have hx' := hx
  obtain ⟨⟨h1, h2⟩, h3⟩ := hx'
  rcases look_mp h.hb hwf x (Ent.good.wf hx) true with ⟨hn, _⟩ | ⟨e, he, hk, _⟩
  · have HL : ∀ W, Ext w W → (Instr.lookup 93 (.map (some b)) x.k true).run Try.prog W = .ok (.tuple #[entZ.v, .bool false]) W := fun W hW => by
      rcases look_mp (hbW W hW) hwf x (Ent.good.wf hx) true with ⟨_, hr⟩ | ⟨e, he, hk, _⟩
      · exact hr
      · exact absurd hk (hn e he)
    refine (put_fits q b x entZ false (by simp) (mpO (L ++ [x])) w h.c h1 h2 h3 HL (fun W hW => store_mp_new (hbW W hW) hwf x (Ent.good.wf hx) hn)).mono ?_
    rintro _ _ ⟨rfl, W1, hW1, rfl⟩
    have hg := grown_set hW1 (mpO (L ++ [x])) (b := b)
    refine ⟨_, _, .new hn, rfl, hg, ⟨?_, ?_, ?_, ?_⟩⟩
    · exact (World.cell?_of_block (hg.block q (World.block_lt_of_cell? w _ h.c) (by simpa using h.ne))).trans h.c
    · have := (Array.getElem?_eq_some_iff.1 (hbW W1 hW1)).1
      simp [setBlock, this]
    · intro e he
      rcases List.mem_append.1 he with he | he
      · exact h.ok e he
      · simp at he; subst he; exact hx
    · rw [List.pairwise_append]
      exact ⟨h.nd, by simp, fun a ha c hc => by simp at hc; subst hc; exact hn a ha⟩
  · have HL : ∀ W, Ext w W → (Instr.lookup 93 (.map (some b)) x.k true).run Try.prog W = .ok (.tuple #[e.v, .bool true]) W := fun W hW => by
      rcases look_mp (hbW W hW) hwf x (Ent.good.wf hx) true with ⟨hn, _⟩ | ⟨e', he', hk', hr⟩
      · exact absurd hk (hn e he)
      · rw [pair_unique h.nd he he' (hk.trans hk'.symm)]; exact hr
    by_cases hex : e = x
    · subst hex
      refine (put_fits q b e e true (fun _ => rfl) (mpO L) w h.c h1 h2 h3 HL (fun W hW => (store_mp_old (hbW W hW) hwf h.nd e he).trans (by rw [setBlock_same (hbW W hW)]))).mono ?_
      rintro _ _ ⟨rfl, W1, hW1, rfl⟩
      rw [setBlock_same (hbW W1 hW1)]
      exact ⟨_, _, .old he, rfl, hW1.grown _, h.ext hW1⟩
    · refine (put_mixed q b x e hex w h.c h1 h2 h3 HL).mono ?_
      rintro _ _ ⟨rfl, hW1⟩
      exact ⟨_, _, .mixed e he hk hex, rfl, hW1.grown _, h.ext hW1⟩
end Go.Proofs.Ytepcnpnpjfdfmaa
namespace Go.Proofs.Ytepcnpnpjfdfmaa
open Go.RowKit Go.Maps
set_option maxRecDepth 100000 in
set_option maxHeartbeats 4000000 in
theorem check_bad (nd : ByteArray) (bt sq tn ht by_ at_ : Int) (hs : (nd.size : Int) ≤ 9223372036854775807) (hn : nmB nd = true) (hsq : -9223372036854775808 ≤ sq ∧ sq ≤ 9223372036854775807) (h : ¬ okEn bt sq tn ht by_ at_) (w : World) :
    Calls Try.prog 52 #[entV nd bt sq tn ht by_ at_] w fun e w' => e = .returned (errV 1) ∧ Ext w w' := by
  have HN := Lib.hid (fun W => named_any nd hs W)
  have HH := Lib.hid h
  rw [hn] at HN
  clear hn h
  by_cases hq : sq = -9223372036854775808
  · subst hq
    clear hsq HH
    have hw : wrap64 (-9223372036854775809) = 9223372036854775807 := by unfold wrap64; omega
    go_enter Try.func52, Try.ntmps52
    go_wp2_with (go_at_call 60; refine (HN.out _).mono ?_; rintro e w' ⟨rfl, rfl⟩)
    refine wp_loop_rounds 8 ?_
    repeat any_goals (rw [rounds_succ]; go_wp2_with fail)
    all_goals go_ret
    all_goals exact ⟨rfl, ((Ext.refl w).alloc _).alloc _⟩
  · obtain ⟨q1, q2⟩ : -9223372036854775807 ≤ sq ∧ sq ≤ 9223372036854775807 := by omega
    clear hsq hq
    go_enter Try.func52, Try.ntmps52
    go_wp2_with (go_at_call 60; refine (HN.out _).mono ?_; rintro e w' ⟨rfl, rfl⟩)
    refine wp_loop_rounds 8 ?_
    repeat any_goals (rw [rounds_succ]; go_wp2_with fail)
    all_goals go_ret
    all_goals first
      | exact ⟨rfl, ((Ext.refl w).alloc _).alloc _⟩
      | exact absurd (by unfold okEn okN; omega) HH.out
set_option maxRecDepth 100000 in
theorem new_set (w : World) : Calls Try.prog 38 #[] w fun e w' => e = .returned (.pointer (some ⟨w.heap.size + 1, 0, none⟩)) ∧ Ext w w' ∧ SetAt w' (w.heap.size + 1) w.heap.size [] := by
  have hmm := @run_makeMap Try.prog
  go_enter Try.func38, Try.ntmps38
  go_wp2_with fail
  go_ret
  refine ⟨rfl, ((Ext.refl w).alloc _).alloc _, ⟨by simp, ?_, by simp, by simp⟩⟩
  have h1 := (MapKept.heap_alloc w (.map #[] 0)).1
  exact ((MapKept.heap_alloc (w.alloc (.map #[] 0)) _).2 w.heap.size (by simp)).trans h1
set_option maxRecDepth 100000 in
theorem put_none (x : Ent) (w : World) : Calls Try.prog 39 #[.pointer none, x.v] w fun e w' => e = .returned (.tuple #[.bool false, errV 3]) ∧ Ext w w' := by
  dsimp only [Ent.v]
  go_enter Try.func39, Try.ntmps39
  go_wp2_with fail
  go_ret2
  exact ⟨rfl, (Ext.refl w).alloc _⟩
set_option maxRecDepth 100000 in
theorem put_err (q : Nat) (x : Ent) (k : Int) (w : World) (HC : ∀ W, Calls Try.prog 52 #[entV x.nd x.bt x.sq x.tn x.ht x.by_ x.at_] W fun e w' => e = .returned (errV k) ∧ Ext W w') :
    Calls Try.prog 39 #[.pointer (some ⟨q, 0, none⟩), x.v] w fun e w' => e = .returned (.tuple #[.bool false, errV k]) ∧ Ext w w' := by
  have HK := Lib.hid HC
  clear HC
  dsimp only [Ent.v]
  go_enter Try.func39, Try.ntmps39
  go_wp2_with (go_at_call 52; refine (HK.out _).mono ?_; rintro e w1 ⟨rfl, hx1⟩)
  go_ret2
  exact ⟨rfl, ((Ext.refl w).alloc _).trans hx1⟩
end Go.Proofs.Ytepcnpnpjfdfmaa
namespace Go.Proofs.Ytepcnpnpjfdfmaa
open Go.RowKit Go.Maps
def eqE (a : ByteArray) (b c d e f g : Int) (a' : ByteArray) (b' c' d' e' f' g' : Int) : Bool := decide (Ent.mk a b c d e f g = Ent.mk a' b' c' d' e' f' g')
theorem eqE_ent (x y : Ent) : eqE x.nd x.bt x.sq x.tn x.ht x.by_ x.at_ y.nd y.bt y.sq y.tn y.ht y.by_ y.at_ = decide (x = y) := rfl
set_option maxRecDepth 100000 in
theorem equal_ent (a : ByteArray) (b c d e f g : Int) (a' : ByteArray) (b' c' d' e' f' g' : Int) (w : World) :
    (Op.equalIn 10000 86 (.agg #[.string a, .int .i64 b, .int .i64 c, .int .i64 d, .int .i64 e, .int .i64 f, .int .i64 g]) (.agg #[.string a', .int .i64 b', .int .i64 c', .int .i64 d', .int .i64 e', .int .i64 f', .int .i64 g'])).run Try.prog w =
      .ok (eqE a b c d e f g a' b' c' d' e' f' g') w := by
  have h : eqE a b c d e f g a' b' c' d' e' f' g' = ((a.toList == a'.toList) && ((b == b') && ((c == c') && ((d == d') && ((e == e') && ((f == f') && (g == g'))))))) := by
    unfold eqE
    rw [Bool.eq_iff_iff]
    simp only [decide_eq_true_eq, Ent.mk.injEq, Bool.and_eq_true, beq_iff_eq]
    exact ⟨fun ⟨h1, h2⟩ => ⟨by rw [h1], h2⟩, fun ⟨h1, h2⟩ => ⟨tl_inj h1, h2⟩⟩
  rw [h]
  go_simp
  repeat' split
  all_goals simp_all
attribute [local go_sem 2000] equal_ent
theorem EnsAt.parts {w : World} {v : Value} {es : List Ent} (h : EnsAt w v es) : ∃ A cap, v = .slice A es.length cap ∧ (0 < es.length → ∃ g off, A = some ⟨g, off, none⟩ ∧ ∀ i e, es[i]? = some e → ∀ j u, e.cs[j]? = some u → w.cell? ⟨g, off + i * 7 + j, none⟩ = some u) := by
  rcases h with ⟨rfl, rfl⟩ | ⟨g, off, cap, hv, hc⟩
  · exact ⟨none, 0, rfl, fun h => absurd h (by simp)⟩
  · exact ⟨_, cap, hv, fun _ => ⟨g, off, rfl, hc⟩⟩
theorem cells7 {w : World} {g o : Nat} {e : Ent} (h : ∀ j u, e.cs[j]? = some u → w.cell? ⟨g, o + j, none⟩ = some u) : w.cell? ⟨g, o, none⟩ = some (.string e.nd) ∧ w.cell? ⟨g, o + 1, none⟩ = some (.int .i64 e.bt) ∧ w.cell? ⟨g, o + 2, none⟩ = some (.int .i64 e.sq) ∧
    w.cell? ⟨g, o + 3, none⟩ = some (.int .i64 e.tn) ∧ w.cell? ⟨g, o + 4, none⟩ = some (.int .i64 e.ht) ∧ w.cell? ⟨g, o + 5, none⟩ = some (.int .i64 e.by_) ∧ w.cell? ⟨g, o + 6, none⟩ = some (.int .i64 e.at_) :=
  ⟨h 0 _ rfl, h 1 _ rfl, h 2 _ rfl, h 3 _ rfl, h 4 _ rfl, h 5 _ rfl, h 6 _ rfl⟩
theorem list_ext_upto {es fs : List Ent} {n : Nat} (h1 : es.length = n) (h2 : fs.length = n) (h : ∀ i, i < n → es[i]? = fs[i]?) : es = fs := by
  apply List.ext_getElem?
  intro i
  by_cases hi : i < n
  · exact h i hi
  · rw [List.getElem?_eq_none (by omega), List.getElem?_eq_none (by omega)]
set_option maxRecDepth 100000 in
theorem list_any (q b : Nat) (L r : List Ent) (hr : r.Pairwise ltE) (hp : r.Perm L) (hN : L.length ≤ 1000) (w : World) (h : SetAt w q b L) :
    Calls Try.prog 25 #[.pointer (some ⟨q, 0, none⟩)] w fun e w' => ∃ v, e = .returned v ∧ EnsAt w' v r ∧ Ext w w' ∧ FreshV w.heap.size v := by
  have hc := h.c
  have hX := (Ext.refl w).alloc (.cells #[.map (some b)] 93)
  have HS := sortedfunc_any w.heap.size b L r hr hp hN (w.alloc (.cells #[.map (some b)] 93)) (by simp) (by simp) (h.ext hX).hb
  clear h
  go_enter Try.func25, Try.ntmps25
  go_wp2_with (first
    | (go_at_call 42; refine (vals_any _ _).mono ?_; rintro e w' ⟨rfl, rfl⟩)
    | (go_at_call 41; refine HS.mono ?_; rintro e w' ⟨v, rfl, hE, hx, hf⟩))
  go_ret
  exact ⟨v, rfl, hE, hX.trans hx, fun a n c e => by have := hf a n c e; exact ⟨by have := this.1; simp at this; omega, this.2⟩⟩
set_option maxRecDepth 100000 in
theorem list_none (w : World) : Calls Try.prog 25 #[.pointer none] w fun e w' => e = .returned (.slice none 0 0) ∧ w = w' := by
  go_enter Try.func25, Try.ntmps25
  go_wp2_with fail
  go_ret
  exact ⟨rfl, rfl⟩
/-- what List gives of a set that may be nil -/
def ListsTo (w : World) (v : Value) (r : List Ent) : Prop := ∀ W, Ext w W → Calls Try.prog 25 #[v] W fun e w' => ∃ u, e = .returned u ∧ EnsAt w' u r ∧ Ext W w' ∧ FreshV W.heap.size u
theorem lists_set {q b : Nat} {L r : List Ent} (hr : r.Pairwise ltE) (hp : r.Perm L) (hN : L.length ≤ 1000) {w : World} (h : SetAt w q b L) : ListsTo w (.pointer (some ⟨q, 0, none⟩)) r := fun W hW => list_any q b L r hr hp hN W (h.ext hW)
theorem lists_none (w : World) : ListsTo w (.pointer none) [] := fun W _ => (list_none W).mono fun _ _ ⟨he, hw⟩ => ⟨_, he, EnsAt.nil _, by rw [hw]; exact Ext.refl _, fun a n c e => by cases e⟩
end Go.Proofs.Ytepcnpnpjfdfmaa
