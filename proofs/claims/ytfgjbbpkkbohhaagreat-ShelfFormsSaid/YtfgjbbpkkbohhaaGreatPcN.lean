/- Chapter 20: Ints; the example. -/
import Derived.Test.YtfgjbbpkkbohhaaGreatPcM
namespace Go.Proofs.YtfgjbbpkkbohhaaGreat
open Go.RowKit Go.Deep Go.Sort

/-- a slice that reads as a list of ints -/
def IntsIn (w : World) (v : Value) (xs : List Nat) : Prop := ∃ A cap, v = .slice A xs.length cap ∧ xs.length ≤ cap ∧ ∀ i, i < xs.length → ∃ g, A = some ⟨g, 0, none⟩ ∧ w.cell? ⟨g, i, none⟩ = some (.int .i64 ((xs[i]?).getD 0 : Nat))
theorem IntsOwn.reads {w : World} {B : Nat} {v : Value} {xs : List Nat} (h : IntsOwn w B v xs) : IntsIn w v xs := by
  obtain ⟨A, cap, rfl, hc, hn⟩ := h.shape
  refine ⟨A, cap, rfl, hc, fun i hi => ?_⟩
  obtain ⟨g, cap', e1, e2, e3, e4, e5⟩ := h.cell i hi
  simp only [Value.slice.injEq, true_and] at e1
  exact ⟨g, e1.1, e5⟩
theorem IntsIn.ext {w w' : World} {v : Value} {xs : List Nat} (h : IntsIn w v xs) (hx : Ext w w') : IntsIn w' v xs := by
  obtain ⟨A, cap, h1, h2, h3⟩ := h
  exact ⟨A, cap, h1, h2, fun i hi => by
    obtain ⟨g, e1, e2⟩ := h3 i hi
    exact ⟨g, e1, hx.cell e2⟩⟩
set_option maxRecDepth 100000 in
theorem ints_any {w : World} {v u : Value} {xs ys : List Nat} (h : IntsIn w v xs) (k : IntsIn w u ys) (hn : xs.length ≤ 1000000) (hm : ys.length ≤ 1000000) :
    Calls Tryz.prog 40 #[v, u] w fun e w' => e = .returned (.bool (decide (xs = ys))) ∧ Ext w w' := by
  obtain ⟨A, cap, rfl, hc, hcell⟩ := h
  obtain ⟨A', cap', rfl, hc', hcell'⟩ := k
  obtain ⟨n, hxn⟩ : ∃ n, xs.length = n := ⟨_, rfl⟩
  obtain ⟨m, hym⟩ : ∃ m, ys.length = m := ⟨_, rfl⟩
  rw [hxn] at hc hn hcell ⊢
  rw [hym] at hc' hm hcell' ⊢
  by_cases hnm : n = m
  · subst hnm
    have HXN := Lib.hid hxn
    have HYM := Lib.hid hym
    clear hxn hym
    go_enter Tryz.func40, Tryz.ntmps40
    go_wp2_with fail
    go_loopw [13] (fun i wr => ∃ k : Nat, k ≤ n ∧ i = .int .i64 k ∧ Ext w wr ∧ ∀ j, j < k → xs[j]? = ys[j]?) (fun i _ => n - (intOf i).toNat)
    case atStart => exact ⟨0, by omega, rfl, Ext.refl w, fun j hj => by omega⟩
    case round =>
      obtain ⟨k, hk, rfl, hX, hall⟩ := hrel
      by_cases hlt : k < n
      · obtain ⟨g, rfl, hg⟩ := hcell k hlt
        obtain ⟨g', rfl, hg'⟩ := hcell' k hlt
        have hki : (k : Int) < (n : Int) := by omega
        obtain ⟨x, hx⟩ : ∃ x, xs[k]? = some x := ⟨_, List.getElem?_eq_getElem (by rw [HXN.out]; exact hlt)⟩
        obtain ⟨y, hy⟩ : ∃ y, ys[k]? = some y := ⟨_, List.getElem?_eq_getElem (by rw [HYM.out]; exact hlt)⟩
        rw [hx, Option.getD_some] at hg
        rw [hy, Option.getD_some] at hg'
        have hgw : ∀ q, (wr.drewN q).cell? ⟨g, k, none⟩ = some (.int .i64 x) := fun q => (hX.drewN q).cell hg
        have hgw' : ∀ q, (wr.drewN q).cell? ⟨g', k, none⟩ = some (.int .i64 y) := fun q => (hX.drewN q).cell hg'
        have hgw1 := hX.cell hg
        have hgw1' := hX.cell hg'
        by_cases hxy : x = y
        · subst hxy
          have hall2 : ∀ j, j < k + 1 → xs[j]? = ys[j]? := by
            intro j hj
            by_cases e : j = k
            · rw [e, hx, hy]
            · exact hall j (by omega)
          have HA := Lib.hid hall2
          have q1 : ((x : Int) != (x : Int)) = false := by simp
          clear hall hall2 hx hy hcell hcell' hg hg'
          go_upto_region 6 with fail
          refine wp_region_quiet_lit (by kernel_rfl) (by kernel_rfl) ?_
          repeat (go_big_quiet_step (fail))
          refine wpQuiet_nil ?_
          rintro _ ⟨nq, rfl⟩
          go_wp2_with fail
          go_roundw
          case rel => exact ⟨k + 1, by omega, by go_num, hX.drewN _, HA.out⟩
          case measure => simp [intOf]; omega
        · have q1 : ((x : Int) != (y : Int)) = true := by rw [bne_iff_ne]; omega
          have hres : decide (xs = ys) = false := by
            rw [decide_eq_false_iff_not]
            intro e
            rw [e, hy] at hx
            exact hxy (Option.some.inj hx).symm
          have HRES := Lib.hid hres
          clear hall hx hy hcell hcell' hg hg' hxy hres
          go_upto_region 6 with fail
          refine wp_region_quiet_lit (by kernel_rfl) (by kernel_rfl) ?_
          repeat (go_big_quiet_step (fail))
          refine wpQuiet_nil ?_
          rintro _ ⟨nq, rfl⟩
          go_wp2_with fail
          go_ret
          exact ⟨ret_bool HRES.out.symm, hX.drewN _⟩
      · obtain rfl : k = n := by omega
        have hres : decide (xs = ys) = true := by
          rw [decide_eq_true_iff]
          apply List.ext_getElem?
          intro j
          by_cases hj : j < k
          · exact hall j hj
          · rw [List.getElem?_eq_none (by rw [HXN.out]; omega), List.getElem?_eq_none (by rw [HYM.out]; omega)]
        clear hall hcell hcell'
        go_wp2_with fail
        go_ret
        exact ⟨ret_bool hres.symm, hX⟩
  · have q1 : ((n : Int) != (m : Int)) = true := by rw [bne_iff_ne]; omega
    have hres : decide (xs = ys) = false := by
      rw [decide_eq_false_iff_not]
      intro e
      rw [e, hym] at hxn
      exact hnm hxn.symm
    clear hxn hym hcell hcell' hnm
    go_enter Tryz.func40, Tryz.ntmps40
    go_wp2_with fail
    go_ret
    exact ⟨ret_bool hres.symm, Ext.refl w⟩
end Go.Proofs.YtfgjbbpkkbohhaaGreat
