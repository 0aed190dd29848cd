/- Chapter 52: entries compared; quaysidelaw51.Same; slices.Equal; List. -/
import Derived.Test.YtjdbhemojopnlaaMgJ
import Derived.Test.YtjdbhemojopnlaaAnyD
namespace Go.Proofs.Ytjdbhemojopnlaa
open Go.RowKit Go.Maps
def eqE (a : ByteArray) (b c d e f g : Int) (a' : ByteArray) (b' c' d' e' f' g' : Int) : Bool := decide (Ent.mk a b c d e f g = Ent.mk a' b' c' d' e' f' g')
theorem eqE_ent (x y : Ent) : eqE x.nd x.bt x.sq x.tn x.ht x.by_ x.at_ y.nd y.bt y.sq y.tn y.ht y.by_ y.at_ = decide (x = y) := rfl
set_option maxRecDepth 100000 in
theorem equal_ent (a : ByteArray) (b c d e f g : Int) (a' : ByteArray) (b' c' d' e' f' g' : Int) (w : World) :
    (Op.equalIn 10000 41 (.agg #[.string a, .int .i64 b, .int .i64 c, .int .i64 d, .int .i64 e, .int .i64 f, .int .i64 g]) (.agg #[.string a', .int .i64 b', .int .i64 c', .int .i64 d', .int .i64 e', .int .i64 f', .int .i64 g'])).run Try.prog w =
      .ok (eqE a b c d e f g a' b' c' d' e' f' g') w := by
  have h : eqE a b c d e f g a' b' c' d' e' f' g' = ((a.toList == a'.toList) && ((b == b') && ((c == c') && ((d == d') && ((e == e') && ((f == f') && (g == g'))))))) := by
    unfold eqE
    rw [Bool.eq_iff_iff]
    simp only [decide_eq_true_eq, Ent.mk.injEq, Bool.and_eq_true, beq_iff_eq]
    exact ⟨fun ⟨h1, h2⟩ => ⟨by rw [h1], h2⟩, fun ⟨h1, h2⟩ => ⟨tl_inj h1, h2⟩⟩
  rw [h]
  go_simp
  repeat' split
  all_goals simp_all
attribute [local go_sem 2000] equal_ent
theorem EnsAt.parts {w : World} {v : Value} {es : List Ent} (h : EnsAt w v es) : ∃ A cap, v = .slice A es.length cap ∧ (0 < es.length → ∃ g off, A = some ⟨g, off, none⟩ ∧ ∀ i e, es[i]? = some e → ∀ j u, e.cs[j]? = some u → w.cell? ⟨g, off + i * 7 + j, none⟩ = some u) := by
  rcases h with ⟨rfl, rfl⟩ | ⟨g, off, cap, hv, hc⟩
  · exact ⟨none, 0, rfl, fun h => absurd h (by simp)⟩
  · exact ⟨_, cap, hv, fun _ => ⟨g, off, rfl, hc⟩⟩
theorem cells7 {w : World} {g o : Nat} {e : Ent} (h : ∀ j u, e.cs[j]? = some u → w.cell? ⟨g, o + j, none⟩ = some u) : w.cell? ⟨g, o, none⟩ = some (.string e.nd) ∧ w.cell? ⟨g, o + 1, none⟩ = some (.int .i64 e.bt) ∧ w.cell? ⟨g, o + 2, none⟩ = some (.int .i64 e.sq) ∧
    w.cell? ⟨g, o + 3, none⟩ = some (.int .i64 e.tn) ∧ w.cell? ⟨g, o + 4, none⟩ = some (.int .i64 e.ht) ∧ w.cell? ⟨g, o + 5, none⟩ = some (.int .i64 e.by_) ∧ w.cell? ⟨g, o + 6, none⟩ = some (.int .i64 e.at_) :=
  ⟨h 0 _ rfl, h 1 _ rfl, h 2 _ rfl, h 3 _ rfl, h 4 _ rfl, h 5 _ rfl, h 6 _ rfl⟩
theorem list_ext_upto {es fs : List Ent} {n : Nat} (h1 : es.length = n) (h2 : fs.length = n) (h : ∀ i, i < n → es[i]? = fs[i]?) : es = fs := by
  apply List.ext_getElem?
  intro i
  by_cases hi : i < n
  · exact h i hi
  · rw [List.getElem?_eq_none (by omega), List.getElem?_eq_none (by omega)]
set_option maxRecDepth 100000 in
set_option maxHeartbeats 1000000 in
theorem same_any {w : World} {v u : Value} {es fs : List Ent} (h : EnsAt w v es) (k : EnsAt w u fs) (hn : es.length ≤ 1000) :
    Calls Try.prog 24 #[v, u] w fun e w' => e = .returned (.bool (decide (es = fs))) ∧ Ext w w' := by
  obtain ⟨A, cap, rfl, hr⟩ := h.parts
  obtain ⟨A', cap', rfl, hr'⟩ := k.parts
  clear h k
  obtain ⟨n, hxn⟩ : ∃ n, es.length = n := ⟨_, rfl⟩
  obtain ⟨m, hxm⟩ : ∃ m, fs.length = m := ⟨_, rfl⟩
  have HN := Lib.hid hxn
  have HM := Lib.hid hxm
  by_cases hnm : n = m
  · subst hnm
    rw [hxn] at hn hr ⊢
    rw [hxm] at hr' ⊢
    clear hxn hxm
    have hne : ((n : Int) == (n : Int)) = true := by simp
    go_enter Try.func24, Try.ntmps24
    go_wp2_with fail
    go_loopw [13] (fun i wr => ∃ k : Nat, k ≤ n ∧ i = .int .i64 k ∧ Ext w wr ∧ Hid (∀ i, i < k → es[i]? = fs[i]?)) (fun i _ => n - (intOf i).toNat)
    case atStart => exact ⟨0, by omega, rfl, Ext.refl w, Lib.hid (fun i hi => by omega)⟩
    case round =>
      obtain ⟨k, hk, rfl, hX, HI⟩ := hrel
      by_cases hlt : k < n
      · obtain ⟨g, off, rfl, hg⟩ := hr (by omega)
        obtain ⟨g', off', rfl, hg'⟩ := hr' (by omega)
        obtain ⟨x, hx⟩ : ∃ x, es[k]? = some x := ⟨es[k]'(by rw [HN.out]; exact hlt), by simp⟩
        obtain ⟨y, hy⟩ : ∃ y, fs[k]? = some y := ⟨fs[k]'(by rw [HM.out]; exact hlt), by simp⟩
        have hki : (k : Int) < (n : Int) := by omega
        have hk6 : (k : Int) < 1001 := by omega
        have a := fun q => cells7 (w := wr.drewN q) (fun j u hj => ((hX.drewN q).cell (hg k x hx j u hj)))
        have b := fun q => cells7 (w := wr.drewN q) (fun j u hj => ((hX.drewN q).cell (hg' k y hy j u hj)))
        have a0 := fun q => (a q).1
        have a1 := fun q => (a q).2.1
        have a2 := fun q => (a q).2.2.1
        have a3 := fun q => (a q).2.2.2.1
        have a4 := fun q => (a q).2.2.2.2.1
        have a5 := fun q => (a q).2.2.2.2.2.1
        have a6 := fun q => (a q).2.2.2.2.2.2
        have b0 := fun q => (b q).1
        have b1 := fun q => (b q).2.1
        have b2 := fun q => (b q).2.2.1
        have b3 := fun q => (b q).2.2.2.1
        have b4 := fun q => (b q).2.2.2.2.1
        have b5 := fun q => (b q).2.2.2.2.2.1
        have b6 := fun q => (b q).2.2.2.2.2.2
        clear a b
        have HXY := Lib.hid (And.intro hx hy)
        obtain ⟨c, hc⟩ : ∃ c, eqE x.nd x.bt x.sq x.tn x.ht x.by_ x.at_ y.nd y.bt y.sq y.tn y.ht y.by_ y.at_ = c := ⟨_, rfl⟩
        have HC : Hid (c = decide (x = y)) := Lib.hid (hc.symm.trans (eqE_ent x y))
        clear hr hr' hg hg' hx hy
        go_upto_region 6 with fail
        refine wp_region_quiet_lit (by kernel_rfl) (by kernel_rfl) ?_
        repeat (go_big_quiet_step (fail))
        refine wpQuiet_nil ?_
        rintro _ ⟨nq, rfl⟩
        cases c with
        | true =>
          go_wp2_with fail
          go_roundw
          case rel =>
            refine ⟨k + 1, by omega, by go_num, hX.drewN _, Lib.hid (fun i hi => ?_)⟩
            by_cases e : i = k
            · subst e
              have := HC.out
              simp at this
              rw [HXY.out.1, HXY.out.2, this]
            · exact HI.out i (by omega)
          case measure => simp [intOf]; omega
        | false =>
          go_wp2_with fail
          go_ret
          refine ⟨ret_bool ?_, hX.drewN _⟩
          have h1 := HC.out
          have h2 : es ≠ fs := fun e => by
            rw [e, HXY.out.2] at HXY
            have := HXY.out.1
            simp at h1
            exact h1 (by simpa using this.symm)
          simp [h2]
      · obtain rfl : k = n := by omega
        go_wp2_with fail
        go_ret
        exact ⟨ret_bool (by simp [list_ext_upto HN.out HM.out HI.out]), hX⟩
  · rw [hxn, hxm]
    have h2 : es ≠ fs := fun e => hnm (by rw [← hxn, ← hxm, e])
    have hne : ((n : Int) == (m : Int)) = false := by simp; omega
    rw [hxn] at hn
    clear hr hr' hxn hxm
    go_enter Try.func24, Try.ntmps24
    go_wp2_with fail
    go_ret
    exact ⟨ret_bool (by simp [h2]), Ext.refl w⟩
set_option maxRecDepth 100000 in
set_option maxHeartbeats 1000000 in
theorem equal_any {w : World} {v u : Value} {es fs : List Ent} (h : EnsAt w v es) (k : EnsAt w u fs) (hn : es.length ≤ 1000) :
    Calls Try.prog 41 #[v, u] w fun e w' => e = .returned (.bool (decide (es = fs))) ∧ Ext w w' := by
  obtain ⟨A, cap, rfl, hr⟩ := h.parts
  obtain ⟨A', cap', rfl, hr'⟩ := k.parts
  clear h k
  obtain ⟨n, hxn⟩ : ∃ n, es.length = n := ⟨_, rfl⟩
  obtain ⟨m, hxm⟩ : ∃ m, fs.length = m := ⟨_, rfl⟩
  have HN := Lib.hid hxn
  have HM := Lib.hid hxm
  by_cases hnm : n = m
  · subst hnm
    rw [hxn] at hn hr ⊢
    rw [hxm] at hr' ⊢
    clear hxn hxm
    have hne : ((n : Int) == (n : Int)) = true := by simp
    go_enter Try.func41, Try.ntmps41
    go_wp2_with fail
    go_loopw [13] (fun i wr => ∃ k : Nat, k ≤ n ∧ i = .int .i64 k ∧ Ext w wr ∧ Hid (∀ i, i < k → es[i]? = fs[i]?)) (fun i _ => n - (intOf i).toNat)
    case atStart => exact ⟨0, by omega, rfl, Ext.refl w, Lib.hid (fun i hi => by omega)⟩
    case round =>
      obtain ⟨k, hk, rfl, hX, HI⟩ := hrel
      by_cases hlt : k < n
      · obtain ⟨g, off, rfl, hg⟩ := hr (by omega)
        obtain ⟨g', off', rfl, hg'⟩ := hr' (by omega)
        obtain ⟨x, hx⟩ : ∃ x, es[k]? = some x := ⟨es[k]'(by rw [HN.out]; exact hlt), by simp⟩
        obtain ⟨y, hy⟩ : ∃ y, fs[k]? = some y := ⟨fs[k]'(by rw [HM.out]; exact hlt), by simp⟩
        have hki : (k : Int) < (n : Int) := by omega
        have hk6 : (k : Int) < 1001 := by omega
        have a := fun q => cells7 (w := wr.drewN q) (fun j u hj => ((hX.drewN q).cell (hg k x hx j u hj)))
        have b := fun q => cells7 (w := wr.drewN q) (fun j u hj => ((hX.drewN q).cell (hg' k y hy j u hj)))
        have a0 := fun q => (a q).1
        have a1 := fun q => (a q).2.1
        have a2 := fun q => (a q).2.2.1
        have a3 := fun q => (a q).2.2.2.1
        have a4 := fun q => (a q).2.2.2.2.1
        have a5 := fun q => (a q).2.2.2.2.2.1
        have a6 := fun q => (a q).2.2.2.2.2.2
        have b0 := fun q => (b q).1
        have b1 := fun q => (b q).2.1
        have b2 := fun q => (b q).2.2.1
        have b3 := fun q => (b q).2.2.2.1
        have b4 := fun q => (b q).2.2.2.2.1
        have b5 := fun q => (b q).2.2.2.2.2.1
        have b6 := fun q => (b q).2.2.2.2.2.2
        clear a b
        have HXY := Lib.hid (And.intro hx hy)
        obtain ⟨c, hc⟩ : ∃ c, eqE x.nd x.bt x.sq x.tn x.ht x.by_ x.at_ y.nd y.bt y.sq y.tn y.ht y.by_ y.at_ = c := ⟨_, rfl⟩
        have HC : Hid (c = decide (x = y)) := Lib.hid (hc.symm.trans (eqE_ent x y))
        clear hr hr' hg hg' hx hy
        go_upto_region 6 with fail
        refine wp_region_quiet_lit (by kernel_rfl) (by kernel_rfl) ?_
        repeat (go_big_quiet_step (fail))
        refine wpQuiet_nil ?_
        rintro _ ⟨nq, rfl⟩
        cases c with
        | true =>
          go_wp2_with fail
          go_roundw
          case rel =>
            refine ⟨k + 1, by omega, by go_num, hX.drewN _, Lib.hid (fun i hi => ?_)⟩
            by_cases e : i = k
            · subst e
              have := HC.out
              simp at this
              rw [HXY.out.1, HXY.out.2, this]
            · exact HI.out i (by omega)
          case measure => simp [intOf]; omega
        | false =>
          go_wp2_with fail
          go_ret
          refine ⟨ret_bool ?_, hX.drewN _⟩
          have h1 := HC.out
          have h2 : es ≠ fs := fun e => by
            rw [e, HXY.out.2] at HXY
            have := HXY.out.1
            simp at h1
            exact h1 (by simpa using this.symm)
          simp [h2]
      · obtain rfl : k = n := by omega
        go_wp2_with fail
        go_ret
        exact ⟨ret_bool (by simp [list_ext_upto HN.out HM.out HI.out]), hX⟩
  · rw [hxn, hxm]
    have h2 : es ≠ fs := fun e => hnm (by rw [← hxn, ← hxm, e])
    have hne : ((n : Int) == (m : Int)) = false := by simp; omega
    rw [hxn] at hn
    clear hr hr' hxn hxm
    go_enter Try.func41, Try.ntmps41
    go_wp2_with fail
    go_ret
    exact ⟨ret_bool (by simp [h2]), Ext.refl w⟩
set_option maxRecDepth 100000 in
theorem list_any (q b : Nat) (L r : List Ent) (hr : r.Pairwise ltE) (hp : r.Perm L) (hN : L.length ≤ 1000) (w : World) (h : SetAt w q b L) :
    Calls Try.prog 20 #[.pointer (some ⟨q, 0, none⟩)] w fun e w' => ∃ v, e = .returned v ∧ EnsAt w' v r ∧ Ext w w' ∧ FreshV w.heap.size v := by
  have hc := h.c
  have hX := (Ext.refl w).alloc (.cells #[.map (some b)] 68)
  have HS := sortedfunc_any w.heap.size b L r hr hp hN (w.alloc (.cells #[.map (some b)] 68)) (by simp) (by simp) (h.ext hX).hb
  clear h
  go_enter Try.func20, Try.ntmps20
  go_wp2_with (first
    | (go_at_call 33; refine (vals_any _ _).mono ?_; rintro e w' ⟨rfl, rfl⟩)
    | (go_at_call 32; refine HS.mono ?_; rintro e w' ⟨v, rfl, hE, hx, hf⟩))
  go_ret
  exact ⟨v, rfl, hE, hX.trans hx, fun a n c e => by have := hf a n c e; simp at this; omega⟩
set_option maxRecDepth 100000 in
theorem list_none (w : World) : Calls Try.prog 20 #[.pointer none] w fun e w' => e = .returned (.slice none 0 0) ∧ w = w' := by
  go_enter Try.func20, Try.ntmps20
  go_wp2_with fail
  go_ret
  exact ⟨rfl, rfl⟩
/-- what List gives of a set that may be nil -/
def ListsTo (w : World) (v : Value) (r : List Ent) : Prop := ∀ W, Ext w W → Calls Try.prog 20 #[v] W fun e w' => ∃ u, e = .returned u ∧ EnsAt w' u r ∧ Ext W w' ∧ FreshV W.heap.size u
theorem lists_set {q b : Nat} {L r : List Ent} (hr : r.Pairwise ltE) (hp : r.Perm L) (hN : L.length ≤ 1000) {w : World} (h : SetAt w q b L) : ListsTo w (.pointer (some ⟨q, 0, none⟩)) r := fun W hW => list_any q b L r hr hp hN W (h.ext hW)
theorem lists_none (w : World) : ListsTo w (.pointer none) [] := fun W _ => (list_none W).mono fun _ _ ⟨he, hw⟩ => ⟨_, he, EnsAt.nil _, by rw [hw]; exact Ext.refl _, fun a n c e => by cases e⟩
set_option maxRecDepth 100000 in
theorem sets_same {v u : Value} {r s : List Ent} {w : World} (h : ListsTo w v r) (k : ListsTo w u s) (hn : r.length ≤ 1000) :
    Calls Try.prog 25 #[v, u] w fun e w' => e = .returned (.bool (decide (r = s))) ∧ Ext w w' := by
  have HR := Lib.hid (h w (Ext.refl w))
  have HS := Lib.hid k
  clear h k
  go_enter Try.func25, Try.ntmps25
  go_upto_region 1 with fail
  go_wp2_with fail
  refine HR.out.mono ?_
  rintro e w1 ⟨x, rfl, hE, hx, -⟩
  go_wp2_with fail
  refine (HS.out _ hx).mono ?_
  rintro e w2 ⟨y, rfl, hF, hy, -⟩
  go_wp2_with fail
  refine (equal_any (hE.ext hy) hF hn).mono ?_
  rintro e w3 ⟨rfl, hz⟩
  go_wp2_with fail
  go_ret
  exact ⟨rfl, (hx.trans hy).trans hz⟩
end Go.Proofs.Ytjdbhemojopnlaa
