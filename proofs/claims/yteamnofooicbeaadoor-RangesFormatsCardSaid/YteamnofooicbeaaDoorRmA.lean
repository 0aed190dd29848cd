/- Chapter 09: Clone of a list of ranges; the comparison of Merge; the library's sort of ranges by From. -/
import Derived.Test.YteamnofooicbeaaDoorRgK
import Derived.Test.YteamnofooicbeaaDoorApp
import Derived.Test.YteamnofooicbeaaDoorShSr
import Derived.Shelf.SlSortCmp.NoneTotal
namespace Go.Proofs.YteamnofooicbeaaDoor
open Go.RowKit Go.Lib Go.Sort Go.Maps
theorem isnan_int (a : Int) (w : World) : Calls Tryd.prog 86 #[.int .i64 a] w fun e w' => e = .returned (.bool false) ∧ w = w' := by
  have hq : (a != a) = false := by simp
  go_enter Tryd.func86, Tryd.ntmps86
  go_wp2_with fail
  go_ret
  exact ⟨rfl, rfl⟩
def cmpI (a b : Int) : Int := if a < b then -1 else if b < a then 1 else 0
theorem cmp_any (a b : Int) (w : World) : Calls Tryd.prog 68 #[.int .i64 a, .int .i64 b] w fun e w' => e = .returned (.int .i64 (cmpI a b)) ∧ w = w' := by
  unfold cmpI
  rcases Int.lt_or_le a b with h | h
  · rw [if_pos h]
    go_enter Tryd.func68, Tryd.ntmps68
    go_wp2_with (go_at_call 86; refine (isnan_int _ _).mono ?_; rintro e w' ⟨rfl, rfl⟩)
    go_ret
    exact ⟨rfl, rfl⟩
  · rw [if_neg (by omega)]
    rcases Int.lt_or_le b a with h2 | h2
    · rw [if_pos h2]
      go_enter Tryd.func68, Tryd.ntmps68
      go_wp2_with (go_at_call 86; refine (isnan_int _ _).mono ?_; rintro e w' ⟨rfl, rfl⟩)
      go_ret
      exact ⟨rfl, rfl⟩
    · rw [if_neg (by omega)]
      go_enter Tryd.func68, Tryd.ntmps68
      go_wp2_with (go_at_call 86; refine (isnan_int _ _).mono ?_; rintro e w' ⟨rfl, rfl⟩)
      go_ret
      exact ⟨rfl, rfl⟩
def cmpR (a b : Int × Int) : Int := cmpI a.1 b.1
theorem grow_two (w : World) (A B : Obj) : (w.alloc A).alloc B = Go.Sort.grow (w.drewN 0) #[A, B] := by
  have h : (w.heap.push A).push B = w.heap ++ #[A, B] := by
    apply Array.toList_inj.1
    simp
  unfold World.drewN Go.Sort.grow World.alloc
  rw [← h]
  rfl
theorem clos_any (x y : Int × Int) (w : World) : Calls Tryd.prog 67 #[.agg (rcs2 x).toArray, .agg (rcs2 y).toArray] w fun e w' => e = .returned (.int .i64 (cmpR x y)) ∧ ∃ q os', w' = Go.Sort.grow (w.drewN q) os' := by
  obtain ⟨a, b⟩ := x
  obtain ⟨c, d⟩ := y
  dsimp only [rcs2]
  go_enter Tryd.func67, Tryd.ntmps67
  go_wp2_with (go_at_call 68; refine (cmp_any a c _).mono ?_; rintro e w' ⟨rfl, rfl⟩)
  go_ret
  exact ⟨rfl, 0, _, grow_two _ _ _⟩
theorem ltOf_R (a b : Int × Int) : ltOf cmpR a b = true ↔ a.1 < b.1 := by
  unfold ltOf cmpR cmpI
  split
  · simp_all
  · split <;> simp <;> omega
theorem ltOf_Rf (a b : Int × Int) : ltOf cmpR a b = false ↔ b.1 ≤ a.1 := by
  rw [← Bool.not_eq_true, ltOf_R]
  omega
theorem swo_R : SWO (ltOf cmpR) where
  irrefl _ := (ltOf_Rf _ _).2 (Int.le_refl _)
  trans _ _ _ h1 h2 := (ltOf_R _ _).2 (Int.lt_trans ((ltOf_R _ _).1 h1) ((ltOf_R _ _).1 h2))
  ntrans _ _ _ h1 h2 := (ltOf_Rf _ _).2 (Int.le_trans ((ltOf_Rf _ _).1 h2) ((ltOf_Rf _ _).1 h1))
theorem cmp_lays (blk off size : Nat) (w : World) : CmpLays Tryd.prog 67 #[] rcs2 2 cmpR blk off size w := fun _ _ _ _ x y => clos_any x y _
theorem r2_len (e : Int × Int) : (rcs2 e).length = 2 := rfl
theorem r2_flat_len (xs : List (Int × Int)) : (xs.flatMap rcs2).length = xs.length * 2 := by
  induction xs with
  | nil => rfl
  | cons x r ih => simp [ih, r2_len]; omega
theorem r2_one (xs : List (Int × Int)) : ∀ v ∈ xs.flatMap rcs2, v.oneCell' = true := by
  intro v hv
  obtain ⟨r, -, h⟩ := List.mem_flatMap.1 hv
  simp [rcs2] at h
  rcases h with rfl | rfl <;> rfl
theorem rholds {T : TypeId} {w : World} {b g cap : Nat} {es : List (Int × Int)} (h : ROwn T w b (.slice (some ⟨g, 0, none⟩) es.length cap) es) :
    HoldsK rcs2 2 w g 0 es.toArray ∧ b ≤ g ∧ g < w.heap.size := by
  rcases h.2 with ⟨hv, _⟩ | ⟨g', cap', cur, hv, hb, hg, h1, h2, h3, h4⟩
  · cases hv
  · cases hv
    refine ⟨fun t ht => ?_, hb, (Array.getElem?_eq_some_iff.1 hg).1⟩
    have ht' : t < es.length * 2 := by simpa using ht
    have hi : t / 2 < es.length := by omega
    rw [cell_of_row w g _ cur _ _ hg, get_flatK _ _ _ _ (by simpa using ht')]
    have e1 := r_flat es (t / 2) es[t / 2] (by simp) (t % 2) (by omega)
    rw [← h4, show t / 2 * 2 + t % 2 = t by omega, List.getElem?_take_of_lt (by omega)] at e1
    refine ⟨?_, ?_⟩
    · have e2 : es.toArray[t / 2]! = es[t / 2] := by simp [hi]
      rw [e2]
      have e3 : (rcs2 es[t / 2])[t % 2]! = ((rcs2 es[t / 2])[t % 2]?).getD default := by simp
      have : t % 2 < (rcs2 es[t / 2]).length := by rw [r2_len]; omega
      rw [e3, ← e1]
      rw [List.getElem?_eq_getElem this] at e1
      rw [e1]
      simpa using e1
    · simp [World.frozen?, hg]
theorem rat_holds {w : World} {g cap : Nat} {es : List (Int × Int)} (h : HoldsK rcs2 2 w g 0 es.toArray) : RAt w (.slice (some ⟨g, 0, none⟩) es.length cap) es := by
  refine .inr ⟨g, cap, rfl, fun i e he j u hj => ?_⟩
  have hj2 : j < 2 := by have := (List.getElem?_eq_some_iff.1 hj).1; rwa [r2_len] at this
  have hi := (List.getElem?_eq_some_iff.1 he).1
  have := (HoldsK.cell h (i := i) (c := j) (by simpa using hi) hj2).1
  rw [show i * 2 + j = 0 + i * 2 + j by omega, this]
  have e2 : es.toArray[i]! = e := by
    have := (List.getElem?_eq_some_iff.1 he).2
    simp [hi, this]
  rw [e2]
  simp [hj]
theorem ext_sortR (w w1 : World) (g : Nat) (n : Nat) (d' : Array (Int × Int)) (os : Array Obj) (hx : Ext w w1) (hg : w.heap.size ≤ g) : Ext w (sortWorldK rcs2 2 w1 g 0 n d' os) := by
  have h1 : Below w.heap.size w1 (sortWorldK rcs2 2 w1 g 0 n d' os) := by
    refine ⟨rfl, rfl, rfl, ?_, fun k hk => ?_⟩
    · exact size_sortWorldK_c rcs2 2 w1 g 0 n d' os
    · have hk1 : k < w1.heap.size := Nat.lt_of_lt_of_le hk hx.size
      show (w1.heap.modify g _ ++ os)[k]? = w1.heap[k]?
      rw [Array.getElem?_append_left (by simpa using hk1), Array.getElem?_modify, if_neg (by omega)]
  exact hx.below.trans h1
/-- the library's sort: the ranges in the order of their From -/
theorem sortR_any {w w1 : World} {v : Value} {xs : List (Int × Int)} (hown : ROwn 37 w1 w.heap.size v xs) (hX : Ext w w1) (hn : xs.length ≤ 1000) :
    Calls Tryd.prog 66 #[v, .func (.func 67) #[] #[]] w1 fun e w' => e = .returned (.tuple #[]) ∧ ∃ ys, ys.Perm xs ∧ ys.Pairwise (fun a b => a.1 ≤ b.1) ∧ RAt w' v ys ∧ Ext w w' := by
  have eg : ∀ args w, (callFunc 67 args).run Tryd.prog w = .ok (.enter 67 args) w := enters_of Tryd.func67 (by kernel_rfl) rfl
  by_cases h0 : xs.length = 0
  · obtain rfl : xs = [] := List.length_eq_zero_iff.1 h0
    obtain ⟨p, cap, rfl⟩ : ∃ p cap, v = .slice p 0 cap := by
      rcases hown.2 with ⟨rfl, _⟩ | ⟨g, cap, cur, rfl, _⟩
      · exact ⟨_, _, rfl⟩
      · exact ⟨_, _, rfl⟩
    have hc := AnyF.slices_SortFunc_none Tryd.laysSr p cap (.func (.func 67) #[] #[]) w1
    refine hc.mono ?_
    rintro e w' ⟨rfl, rfl⟩
    exact ⟨rfl, [], List.Perm.refl _, List.Pairwise.nil, hown.at, hX⟩
  · obtain ⟨g, cap, rfl⟩ : ∃ g cap, v = .slice (some ⟨g, 0, none⟩) xs.length cap := by
      rcases hown.2 with ⟨_, h⟩ | ⟨g, cap, cur, rfl, _⟩
      · exact absurd h h0
      · exact ⟨_, _, rfl⟩
    obtain ⟨hH, hbg, hlt⟩ := rholds hown
    have hc := AnyQ.slices_SortFunc Tryd.laysSr 2 Tryd.isAgg37 Tryd.sizeOf37 rcs2 r2_len (fun x v hv => by simp [rcs2] at hv; rcases hv with rfl | rfl <;> rfl) cmpR swo_R 67 #[] g 0 cap xs.toArray w1 eg (cmp_lays g 0 _ w1) hH hlt (by simp; omega)
    refine Calls.mono hc ?_
    rintro e w' ⟨rfl, d', n, os, h1, h2, rfl⟩
    have hsz : d'.size = xs.length := by have := h1.1; simpa using this
    have hpp : d'.toList.Perm xs := by
      have := h1.2.2
      rw [show d'.extract 0 xs.toArray.size = d' by rw [← h1.1]; simp, show xs.toArray.extract 0 xs.toArray.size = xs.toArray by simp] at this
      simpa using this
    refine ⟨rfl, d'.toList, hpp, ?_, ?_, ext_sortR w w1 g n d' os hX hbg⟩
    · rw [List.pairwise_iff_getElem]
      intro i j hi hj hij
      have hi' : i < d'.size := by simpa using hi
      have hj' : j < d'.size := by simpa using hj
      have hs := h2 i j (Nat.zero_le _) hij (by rw [← h1.1]; exact hj')
      rw [getElem!_pos d' j hj', getElem!_pos d' i hi', ltOf_Rf] at hs
      simpa only [Array.getElem_toList] using hs
    · have hl2 : d'.toList.length = xs.length := by simpa using hsz
      rw [← hl2]
      exact rat_holds (holdsK_sortWorldK_c rcs2 2 w1 g 0 xs.toArray d' n os hH hlt (by simpa using hsz))
set_option maxRecDepth 100000 in
theorem cloneR_any {w : World} {v : Value} {xs : List (Int × Int)} (h : RAt w v xs) (hn : xs.length ≤ 1000000) (hv : xs = [] → v = .slice none 0 0) :
    Calls Tryd.prog 65 #[v] w fun e w' => ∃ v', e = .returned v' ∧ Ext w w' ∧ ROwn 37 w' w.heap.size v' xs := by
  by_cases hnil : xs = []
  · have hvv := hv hnil
    subst hvv
    subst hnil
    have hq : ∀ W, (binOp .eql 23 (.slice none 0 0) (.slice none 0 0)).run Tryd.prog W = .ok (.bool true) W := fun _ => by kernel_rfl
    clear h hv
    go_enter Tryd.func65, Tryd.ntmps65
    go_wp2_with fail
    go_ret
    exact ⟨_, rfl, Ext.refl _, ROwn.nil _ _ _⟩
  · obtain ⟨g, cap, rfl, hc⟩ : ∃ g cap, v = .slice (some ⟨g, 0, none⟩) xs.length cap ∧ ∀ i e, xs[i]? = some e → ∀ j u, (rcs2 e)[j]? = some u → w.cell? ⟨g, i * 2 + j, none⟩ = some u := by
      rcases h with ⟨_, h⟩ | h
      · exact absurd h hnil
      · exact h
    have h0 : 0 < xs.length := List.length_pos_iff.2 hnil
    clear hv h
    obtain ⟨i0, hi0, hz0, hz1, hz2⟩ := info_parts rng_info
    have hq : ∀ W c n, (binOp .eql 23 (.slice (some ⟨g, 0, none⟩) n c) (.slice none 0 0)).run Tryd.prog W = .ok (.bool false) W := fun _ _ _ => by kernel_rfl
    have hrd : Reads w w.heap.size 2 (some ⟨g, 0, none⟩) xs.length (xs.flatMap rcs2) := by
      refine ⟨r2_flat_len xs, fun _ => ⟨_, rfl, ?_, fun j u hu => ?_⟩⟩
      · obtain ⟨x, hx⟩ : ∃ x, xs[0]? = some x := ⟨_, List.getElem?_eq_getElem h0⟩
        exact World.block_lt_of_cell? w _ (hc 0 x hx 0 _ rfl)
      · have hj := (List.getElem?_eq_some_iff.1 hu).1
        rw [r2_flat_len] at hj
        obtain ⟨x, hx⟩ : ∃ x, xs[j / 2]? = some x := ⟨_, List.getElem?_eq_getElem (by omega)⟩
        have e1 := r_flat xs (j / 2) x hx (j % 2) (by omega)
        rw [show j / 2 * 2 + j % 2 = j by omega, hu] at e1
        have e2 := hc (j / 2) x hx (j % 2) u e1.symm
        rw [show j / 2 * 2 + j % 2 = j by omega] at e2
        rw [Addr.add_lit, Nat.zero_add]
        exact e2
    have HRD := Lib.hid hrd
    have HX := Lib.hid (r2_one xs)
    obtain ⟨n, hxn⟩ : ∃ n, xs.length = n := ⟨_, rfl⟩
    have HN := Lib.hid hxn
    rw [hxn] at hn h0 HRD ⊢
    have hown : (w.alloc (.cells #[] 37)).ownsRow w.heap.size 37 2 (.slice (some ⟨w.heap.size, 0, none⟩) 0 0) 0 [] := by
      refine ⟨rfl, .inr ⟨w.heap.size, 0, #[], rfl, Nat.le_refl _, heap_alloc_new w _, Nat.le_refl _, by simp only [maxLen]; omega, rfl, rfl⟩⟩
    clear hrd hxn hc hnil
    go_enter Tryd.func65, Tryd.ntmps65
    go_wp2_with (at_builtin; refine wpList_append_any _ rfl (.tmp 5) (.tmp 6) _ rfl w.heap.size 37 i0 _ 2 16 Tryd.underlying23 hi0 hz0 hz1 hz2 rfl (by omega) _ 0 [] rfl hown w.heap.size _ n _ _ rfl (HRD.out.alloc (Nat.le_refl _) _) HX.out (by simp only [maxLen]; omega) (by omega) (by simp) ?_)
    intro v' w' hown' hg' _
    have hX : Ext w w' := Below.grown ((Ext.refl w).alloc _) hg' (by simp) (by intro k hk; simp [Value.ownBlock] at hk; omega)
    clear hg' hown HRD
    go_wp2_with fail
    go_ret
    exact ⟨_, rfl, hX, by unfold ROwn; rw [HN.out]; simpa using hown'⟩
end Go.Proofs.YteamnofooicbeaaDoor
