/- Chapter 52: maps.Values and its iterator; slices.Collect. -/
import Derived.Test.YtjdbhemojopnlaaMgD
import Derived.RangeFuncBox
import Derived.RangeFuncNested
import Derived.RangeFuncBound
import Derived.RangeFuncCalls
import Derived.RangeFuncLeaves
import Derived.Shelf.Abstract
import Derived.Shelf.RegionOpen
import Derived.TacticsInMore
import Derived.LoopNIn
import Derived.LoopIn
import Derived.Maps.AppendAt
import Derived.Sort.MapsRangeIn
namespace Go.Proofs.Ytjdbhemojopnlaa
open Go.RowKit Go.Maps Go.Shelf
attribute [local go_sem] Oper.semAt_some
set_option maxRecDepth 100000 in
set_option maxHeartbeats 1000000 in
theorem vals1_in (F : Fence) (n : Nat) (hf : F.fn 46) (hro : F.round = none) (hn : 1 ≤ n) (l Bm b : Nat) (L : List Ent) (J Jx : List Ent → World → Prop)
    (hY : ∀ pre x W, J pre W → pre.length < L.length → YieldAt F (n - 1) Try.prog l #[Ent.v x] W fun e W' =>
      (e = .returned (.bool true) ∧ J (pre ++ [x]) W' ∧ KeepsWalks W W') ∨ (e = .returned (.bool false) ∧ Jx (pre ++ [x]) W'))
    (W : World) (hJ : AbidesFrom W.heap.size J) (hm : W.cell? ⟨Bm, 0, none⟩ = some (.map (some b))) (hb : W.heap[b]? = some (mpO L)) (h0 : J [] W) :
    CallsIn F n Try.prog 46 #[.func (.yield l) #[] #[], .pointer (some ⟨Bm, 0, none⟩)] W fun e W' => (∃ v, e = .returned v) ∧
      ((∃ xs : List Ent, xs.Perm L ∧ J xs W') ∨ (∃ pre : List Ent, True ∧ Jx pre W')) := by
  refine callsIn_of_wp Try.func46 rfl hf ?_ hro
  simp only [Try.ntmps46, List.size_toArray, List.length_cons, List.length_nil, Nat.reduceAdd, Nat.reduceSub, Array.replicate_succ, Array.replicate_zero, List.push_toArray, List.append_toArray, List.nil_append, List.cons_append]
  gi_wp2_with (first
    | (gi_at_range; refine wpListIn_range_mp rfl _ rfl rfl hb ?_; intro hI0)
    | gi_in)
  go_frame
  gi_loopw [4] (fun _ wr => ∃ s, ItAt wr W.heap.size b L s ∧ J (picks L s) wr) (fun _ wr => itLeft wr W.heap.size)
  case atStart =>
    exact ⟨[], hI0, hJ [] W _ none h0 (World.grownBy_alloc _ _ _) (fun r e => by cases e)⟩
  case round =>
    obtain ⟨s, hI, hJs⟩ := hrel
    gi_wp2_with (first
      | (gi_at_next; refine wpListIn_next_mp rfl _ rfl rfl hI ?_ ?_)
      | gi_in)
    · intro hlen
      gi_wp2
      go_end0
      exact ⟨⟨_, rfl⟩, .inl ⟨_, picks_perm L hI.nd hI.lt hlen, hJs⟩⟩
    · intro i x w2 hx hns hI2 hg2 hs2 hen
      have hJ2 : J (picks L s) w2 := hJ _ wr w2 (some W.heap.size) hJs hg2 (fun r e => by cases e; exact ⟨Nat.le_refl _, _, hI.hr, rfl⟩)
      clear hs2
      have hlt : (picks L s).length < L.length := by
        have := hI2.len
        simp [picks] at this ⊢
        omega
      have hJ3 : J (picks L s) (w2.alloc (.cells x.cs.toArray 41)) := hJ _ w2 _ none hJ2 (World.grownBy_alloc _ _ _) (fun r e => by cases e)
      have hI3 : ItAt (w2.alloc (.cells x.cs.toArray 41)) W.heap.size b L (s ++ [i]) := hI2.kept ((MapKept.heap_alloc w2 _).2 b (Array.getElem?_eq_some_iff.1 hI2.hb).1) ((MapKept.heap_alloc w2 _).2 _ (Array.getElem?_eq_some_iff.1 hI2.hr).1)
      obtain ⟨fn, tmps, assign, body, hy, hR⟩ := hY (picks L s) x _ hJ3 hlt
      have hps := picks_snoc L s hx
      dsimp only [Ent.v, Ent.k, Ent.cs] at hen hy hR hJ3 hI3 ⊢
      clear hJ2 hI2
      gi_wp2
      refine hR.mono ?_
      rintro e W3 (⟨rfl, hJ4, hk3⟩ | ⟨rfl, hJx3⟩)
      · gi_wp2
        have hI4 : ItAt W3 W.heap.size b L (s ++ [i]) := hI3.kept ((hk3.same b _ hI3.hb rfl).trans hI3.hb.symm) ((hk3.same _ _ hI3.hr rfl).trans hI3.hr.symm)
        go_roundw
        case rel => exact ⟨s ++ [i], hI4, by rw [hps]; exact hJ4⟩
        case measure => rw [hI4.left, hI.left]; simp [picks] at hlt ⊢; omega
      · gi_wp2
        refine bodyPost_ret (results_none rfl _ _ _) rfl ?_
        exact ⟨⟨_, rfl⟩, .inr ⟨_, trivial, hJx3⟩⟩

theorem vals_stops (F : Fence) (n : Nat) (hf : F.fn 46) (hro : F.round = none) (hn : 1 ≤ n) (Bm b : Nat) (L : List Ent) (w : World) (hBm : Bm < w.heap.size) (hm : w.cell? ⟨Bm, 0, none⟩ = some (.map (some b))) (hb : w.heap[b]? = some (mpO L)) :
    SeqStopsK F n Try.prog 46 #[.pointer (some ⟨Bm, 0, none⟩)] (fun x : Ent => #[Ent.v x]) KeepsWalks (fun xs => xs.Perm L) (fun _ => True) L.length w := fun l J Jx W hW hJ _ hY h0 =>
  vals1_in F n hf hro hn l Bm b L J Jx hY W hJ ((hW.cell (p := ⟨Bm, 0, none⟩) hBm).trans hm) ((hW.block b (Array.getElem?_eq_some_iff.1 hb).1).trans hb) h0
set_option maxRecDepth 100000 in
theorem vals_any (mb : Option Nat) (w : World) : Calls Try.prog 33 #[.map mb] w fun e w' => e = .returned (.func (.func 46) #[] #[.pointer (some ⟨w.heap.size, 0, none⟩)]) ∧ w' = w.alloc (.cells #[.map mb] 68) := by
  go_enter Try.func33, Try.ntmps33
  go_wp2
  go_ret
  exact ⟨rfl, rfl⟩
theorem ent_info : (Try.prog.info? 41).map (fun i => (i.zero, i.size, i.bytes)) = some (some entZ.v, 7, 64) := by kernel_rfl
theorem cells_new (W : World) (t : TypeId) (cs : List Value) : ∀ j u, cs[j]? = some u → (W.alloc (.cells cs.toArray t)).cell? ((⟨W.heap.size, 0, none⟩ : Addr).add j) = some u := by
  intro j u hj
  have e : (⟨W.heap.size, 0, none⟩ : Addr).add j = ⟨W.heap.size, j, none⟩ := by unfold Addr.add; split <;> simp_all
  rw [e, World.cell?_alloc_mark]
  simpa using hj
set_option maxRecDepth 100000 in
set_option maxHeartbeats 2000000 in
theorem appendseq_in (F : Fence) (n : Nat) (h50 : F.fn 50) (h46 : F.fn 46) (hro : F.round = none) (hn : 3 ≤ n) (Bm b : Nat) (L : List Ent) (hN : L.length ≤ 1000) (w : World) (hBm : Bm < w.heap.size) (hm : w.cell? ⟨Bm, 0, none⟩ = some (.map (some b))) (hb : w.heap[b]? = some (mpO L)) :
    CallsIn F n Try.prog 50 #[.slice none 0 0, .func (.func 46) #[] #[.pointer (some ⟨Bm, 0, none⟩)]] w fun e W' => ∃ v, ∃ xs : List Ent, e = .returned v ∧ xs.Perm L ∧ W'.ownsRow w.heap.size 41 7 v xs.length (xs.flatMap Ent.cs) ∧ Below w.heap.size w W' := by
  have h1 : 1 ≤ n := by omega
  obtain ⟨i0, hi, hz0, hz1, hz2⟩ := info_parts ent_info
  refine callsIn_of_wp_marks Try.func50 rfl h50 ?_ hro
  simp only [Try.ntmps50, List.size_toArray, List.length_cons, List.length_nil, Nat.reduceAdd, Nat.reduceSub, Array.replicate_succ, Array.replicate_zero, List.push_toArray, List.append_toArray, List.nil_append, List.cons_append]
  gi_wp2
  have bO := Boxed.new w 22 (.slice none 0 0)
  have hB0 : Below w.heap.size w (w.alloc (.cells #[.slice none 0 0] 22)) := (Below.refl _ w).alloc (Nat.le_refl _) _
  have hsz : (w.alloc (.cells #[.slice none 0 0] 22)).heap.size = w.heap.size + 1 := by simp
  have hm0 : (w.alloc (.cells #[.slice none 0 0] 22)).cell? ⟨Bm, 0, none⟩ = some (.map (some b)) := (hB0.cell (p := ⟨Bm, 0, none⟩) hBm).trans hm
  have hb0 : (w.alloc (.cells #[.slice none 0 0] 22)).heap[b]? = some (mpO L) := (hB0.block b (Array.getElem?_eq_some_iff.1 hb).1).trans hb
  obtain ⟨W0, hW0⟩ : ∃ W0, w.alloc (.cells #[.slice none 0 0] 22) = W0 := ⟨_, rfl⟩
  rw [hW0] at bO hB0 hsz hm0 hb0 ⊢
  clear hW0
  refine wpIn_rangeFunc_ownH hro h1 (gf := 46) (lb := #[.pointer (some ⟨Bm, 0, none⟩)]) rfl h46 (enters_of Try.func46 (by kernel_rfl) rfl)
    (vals_stops F (n - 1) h46 hro (by omega) Bm b L W0 (by omega) hm0 hb0) walksK_t (walksK_b) (Below.refl _ _) (fun _ => rfl)
    (fun pre W => (∃ v, Boxed W w.heap.size 22 v ∧ W.ownsRow w.heap.size 41 7 v pre.length (pre.flatMap Ent.cs) ∧ True) ∧ Below w.heap.size w W)
    (fun _ _ _ => False)
    (OwnFrom.and (Own.from (holdsRow_own w.heap.size w.heap.size 22 41 7 (fun pre : List Ent => pre.length) (fun pre => pre.flatMap Ent.cs) (fun _ _ => True)) _) (ownFrom_below (Nat.le_refl _) (by omega)))
    (fun _ _ _ _ _ hs _ _ => hs)
    ⟨⟨_, bO, World.ownsRow_nil _ _ _ _, trivial⟩, hB0⟩
    (fun x a' W => ∃ Bx, w.heap.size < Bx ∧ W.heap[Bx]? = some (.cells x.cs.toArray 41 (0, 0)) ∧ a' = { tmps := #[.slice none 0 0, .func (.func 46) #[] #[.pointer (some ⟨Bm, 0, none⟩)], .pointer (some ⟨w.heap.size, 0, none⟩), undef, .slice none 0 0, .pointer (some ⟨Bx, 0, none⟩), .func (.func 46) #[] #[.pointer (some ⟨Bm, 0, none⟩)], Ent.v x, undef, undef, undef, undef, undef], defers := [] })
    (fun x a' _ X Y row hs hg hr => by
      obtain ⟨Bx, h1, h2, h3⟩ := hs
      refine ⟨Bx, h1, (hg.block Bx (Array.getElem?_eq_some_iff.1 h2).1 (fun e => ?_)).trans h2, h3⟩
      obtain ⟨_, o, ho, hc⟩ := hr Bx e.symm
      rw [h2] at ho
      cases ho
      cases hc)
    ?assign ?body ?done ?stop
  case assign =>
    rintro l pre x W K ⟨⟨v, hv, hrow, _⟩, hB1⟩ hK
    dsimp only [Ent.v, Ent.cs] at hK ⊢
    gi_wp2
    exact hK _ _ ((KeepsOthers.alloc _ _).from _) (KeepsWalks.alloc _ _) ⟨⟨v, hv.alloc _, hrow.alloc _, trivial⟩, hB1.alloc hB1.size _⟩ ⟨W.heap.size, hv.lt, (MapKept.heap_alloc W _).1, rfl⟩
  case body =>
    rintro l pre x a' W hl ⟨r, hr⟩ ⟨⟨v, hv, hrow, _⟩, hB⟩ ⟨Bx, hBx, hxx, rfl⟩ hlt
    have hc := hv.cell
    have hx0 : ∀ j u, x.cs[j]? = some u → W.cell? ⟨Bx, j, none⟩ = some u := fun j u hj => by
      rw [cell_of_row W Bx j _ _ _ hxx]
      simpa using hj
    have x0 := hx0 0 _ rfl
    have x1 := hx0 1 _ rfl
    have x2 := hx0 2 _ rfl
    have x3 := hx0 3 _ rfl
    have x4 := hx0 4 _ rfl
    have x5 := hx0 5 _ rfl
    have x6 := hx0 6 _ rfl
    clear hx0
    gi_wp2_with (gi_at_builtin; refine wpListIn_append_own _ rfl _ _ 22 rfl w.heap.size 41 i0 entZ.v 7 64 Try.underlying22 hi hz0 hz1 hz2 rfl (by decide) _ _ _ rfl (hrow.alloc _) ⟨W.heap.size, 0, none⟩ 1 1 x.cs rfl rfl (cells_new _ _ _) (by simp [Ent.cs, Value.oneCell']) (by unfold maxLen; omega) (by omega) (by have := hB.size; simp; omega) ?_; intro v' w1 hown' hgrow _; obtain ⟨g', cap', rfl⟩ := ownsRow_succ hown'; obtain ⟨hv1, hv2, hr2, hk2, hb2⟩ := hv.appended (by decide) hrow hB.size (Nat.le_refl _) hown' hgrow; have hc1 := hv1.cell; have hf1 := hv1.frozen)
    exact ⟨hk2.from _, ⟨hk2.size, fun k o hk ho => hk2.same k o hk (Obj.not_cells_of_walk ho)⟩, ⟨_, hv2, by simpa using hr2, trivial⟩, hB.trans hb2⟩
  case done =>
    rintro D ys W hD hperm ⟨⟨v, hv, hrow, _⟩, hB⟩ hK
    have hc := hv.cell
    gi_wp2
    refine ⟨by simp, .inl ⟨_, _, rfl, run_takeDeferred hK, ?_⟩⟩
    exact ⟨_, results_tmp rfl _ _ _, v, ys, rfl, hperm, ownsRow_putObj hrow _ hK rfl, hB.trans (belowK_b (w := w) (Nat.le_refl _) W D _ _ (by omega) hK rfl rfl)⟩
  case stop =>
    rintro D c pre W _ _ h _
    exact h.elim
set_option maxRecDepth 100000 in
theorem collect_any (Bm b : Nat) (L : List Ent) (hN : L.length ≤ 1000) (w : World) (hBm : Bm < w.heap.size) (hm : w.cell? ⟨Bm, 0, none⟩ = some (.map (some b))) (hb : w.heap[b]? = some (mpO L)) :
    Calls Try.prog 44 #[.func (.func 46) #[] #[.pointer (some ⟨Bm, 0, none⟩)]] w fun e W' => ∃ v, ∃ xs : List Ent, e = .returned v ∧ xs.Perm L ∧ W'.ownsRow w.heap.size 41 7 v xs.length (xs.flatMap Ent.cs) ∧ Ext w W' := by
  have HA := (callsIn_wide (n := 3)).1 (appendseq_in .wide 3 trivial trivial rfl (by omega) Bm b L hN w hBm hm hb)
  go_enter Try.func44, Try.ntmps44
  go_wp2_with (go_at_call 50; refine HA.mono ?_; rintro e w' ⟨v, xs, rfl, hx, ho, hB⟩)
  go_ret
  exact ⟨v, xs, rfl, hx, ho, hB⟩
end Go.Proofs.Ytjdbhemojopnlaa
