/- Chapter 52: maps.Copy. -/
import Derived.Test.YtjdbhemojopnlaaMgV
namespace Go.Proofs.Ytjdbhemojopnlaa
open Go.RowKit Go.Maps
open Go.ChangeMaps (setBlock)
/-- no entry of the one contradicts one of the other -/
def Fits (L M : List Ent) : Prop := ∀ x ∈ M, ∀ y ∈ L, y.key = x.key → y = x
theorem picks_mem {L : List Ent} {s : List Nat} (lt : ∀ i ∈ s, i < L.length) {x : Ent} (h : x ∈ picks L s) : x ∈ L := by
  obtain ⟨i, hi, rfl⟩ := List.mem_map.1 h
  have := lt i hi
  simp only [List.getD_eq_getElem?_getD, List.getElem?_eq_getElem this, Option.getD_some]
  exact List.getElem_mem this
theorem mpE_val (l : List Ent) : (mpE l).map (·.val) = l.map Ent.v := by
  unfold mpE
  apply List.ext_getElem?
  intro i
  simp only [List.getElem?_map, List.getElem?_mapIdx]
  cases l[i]? <;> rfl
theorem mpO_inj {l m : List Ent} (h : mpO l = mpO m) : l = m := by
  simp only [mpO, Obj.map.injEq] at h
  have h1 : mpE l = mpE m := by have := congrArg Array.toList h.1; simpa using this
  have h2 := congrArg (List.map (·.val)) h1
  rw [mpE_val, mpE_val] at h2
  exact List.map_inj_right (fun a b h => Ent.v_inj h) |>.1 h2
/-- what is known of the target map between two rounds -/
structure CpAt (w wr : World) (b b' r : Nat) (L M : List Ent) (s : List Nat) (C : List Ent) : Prop where
  it : ItAt wr r b' M s
  hb : wr.heap[b]? = some (mpO C)
  ok : ∀ e ∈ C, e.good
  nd : C.Pairwise fun a b => a.key ≠ b.key
  mem : ∀ x, x ∈ C ↔ x ∈ L ∨ x ∈ picks M s
  al : b = b' → C = M
  gr : w.grownBy wr (some b)
  rn : r ≠ b
theorem CpAt.ext {w wr w' : World} {b b' r : Nat} {L M : List Ent} {s : List Nat} {C : List Ent} (h : CpAt w wr b b' r L M s C) (hx : Ext wr w') : CpAt w w' b b' r L M s C :=
  ⟨h.it.kept (Below.block hx b' (Array.getElem?_eq_some_iff.1 h.it.hb).1) (Below.block hx r (Array.getElem?_eq_some_iff.1 h.it.hr).1), (Below.block hx b (Array.getElem?_eq_some_iff.1 h.hb).1).trans h.hb, h.ok, h.nd, h.mem, h.al,
    ⟨(Below.os hx).trans h.gr.os, (Below.tape hx).trans h.gr.tape, (Below.output hx).trans h.gr.output, Nat.le_trans h.gr.size hx.size, fun i hi hn => (Below.block hx i (Nat.lt_of_lt_of_le hi h.gr.size)).trans (h.gr.block i hi hn)⟩, h.rn⟩
theorem CpAt.put {w wr : World} {b b' r : Nat} {L M : List Ent} {s : List Nat} {C : List Ent} (hM : ∀ e ∈ M, e.good) (hdM : M.Pairwise fun a b => a.key ≠ b.key) (hf : Fits L M) {i : Nat} {e : Ent} (he : M[i]? = some e) (hs : ∀ i ∈ s, i < M.length) (hit : ItAt wr r b' M (s ++ [i]))
    (hb : wr.heap[b]? = some (mpO C)) (ok : ∀ e ∈ C, e.good) (nd : C.Pairwise fun a b => a.key ≠ b.key) (mem : ∀ x, x ∈ C ↔ x ∈ L ∨ x ∈ picks M s) (al : b = b' → C = M) (gr : w.grownBy wr (some b)) (rn : r ≠ b) :
    ∃ w' C', (Instr.mapUpdate 68 (.map (some b)) e.k e.v).run Try.prog wr = .ok () w' ∧ CpAt w w' b b' r L M (s ++ [i]) C' ∧ w'.heap.size = wr.heap.size := by
  have heM := List.mem_of_getElem? he
  have wfC : ∀ e ∈ C, e.wf := fun e he => Ent.good.wf (ok e he)
  have hps : picks M (s ++ [i]) = picks M s ++ [e] := picks_snoc M s he
  by_cases hin : e ∈ C
  · refine ⟨wr, C, store_mp_old hb wfC nd e hin, ⟨hit, hb, ok, nd, fun x => ?_, al, gr, rn⟩, rfl⟩
    rw [mem x, hps, List.mem_append, List.mem_singleton]
    constructor
    · rintro (h | h)
      · exact .inl h
      · exact .inr (.inl h)
    · rintro (h | h | rfl)
      · exact .inl h
      · exact .inr h
      · exact (mem x).1 hin
  · have hno : ∀ y ∈ C, y.key ≠ e.key := by
      intro y hy hk
      rcases (mem y).1 hy with h | h
      · exact hin (hf e heM y h hk ▸ hy)
      · exact hin (pair_unique hdM (picks_mem hs h) heM hk ▸ hy)
    have hbb : b ≠ b' := fun h => hin (by rw [al h]; exact heM)
    have hset := MapKept.heap_set (o' := mpO (C ++ [e])) hb
    refine ⟨_, C ++ [e], store_mp_new hb wfC e (Ent.good.wf (hM e heM)) hno, ⟨hit.kept (hset.2 b' (Ne.symm hbb)) (hset.2 r rn), hset.1, ?_, ?_, fun x => ?_, fun h => absurd h hbb, ?_, rn⟩, by simp [setBlock]⟩
    · intro x hx
      rcases List.mem_append.1 hx with hx | hx
      · exact ok x hx
      · simp at hx; subst hx; exact hM x heM
    · rw [List.pairwise_append]
      exact ⟨nd, by simp, fun a ha c hc => by simp at hc; subst hc; exact hno a ha⟩
    · rw [List.mem_append, mem x, hps, List.mem_append]
      exact or_assoc
    · exact ⟨gr.os, gr.tape, gr.output, Nat.le_trans gr.size (by simp [setBlock]), fun j hj hn => (hset.2 j (fun e => hn (by rw [e]))).trans (gr.block j hj hn)⟩
set_option maxRecDepth 100000 in
set_option maxHeartbeats 1000000 in
theorem copy_any (b b' : Nat) (L M : List Ent) (w : World) (hb : w.heap[b]? = some (mpO L)) (hb' : w.heap[b']? = some (mpO M)) (okL : ∀ e ∈ L, e.good) (okM : ∀ e ∈ M, e.good) (ndL : L.Pairwise fun a b => a.key ≠ b.key) (ndM : M.Pairwise fun a b => a.key ≠ b.key) (hf : Fits L M) :
    Calls Try.prog 38 #[.map (some b), .map (some b')] w fun e w' => e = .returned (.tuple #[]) ∧ w.grownBy w' (some b) ∧ ∃ C, w'.heap[b]? = some (mpO C) ∧ (∀ e ∈ C, e.good) ∧ (C.Pairwise fun a b => a.key ≠ b.key) ∧ ∀ x, x ∈ C ↔ x ∈ L ∨ x ∈ M := by
  go_enter Try.func38, Try.ntmps38
  go_wp2_with (first
    | (at_range; refine wpList_range_mp rfl _ rfl rfl hb' ?_; intro hI0)
    | go_in)
  go_frame
  have hbl := (Array.getElem?_eq_some_iff.1 hb).1
  go_loopw [4, 5] (fun _ _ wr => ∃ s C, CpAt w wr b b' w.heap.size L M s C) (fun _ _ wr => itLeft wr w.heap.size)
  case atStart =>
    refine ⟨[], L, hI0, ((MapKept.heap_alloc w _).2 b hbl).trans hb, okL, ndL, by simp [picks], fun h => ?_, World.grownBy_alloc w _ _, by omega⟩
    subst h
    exact mpO_inj (Option.some.inj (hb.symm.trans hb'))
  case round =>
    obtain ⟨s, C, hC⟩ := hrel
    go_wp2_with (first
      | (at_next; refine wpList_next_mp rfl _ rfl rfl hC.it ?_ ?_)
      | go_in)
    · intro hlen
      go_wp2
      go_end0
      refine ⟨rfl, hC.gr, C, hC.hb, hC.ok, hC.nd, fun x => ?_⟩
      rw [hC.mem x, (picks_perm M hC.it.nd hC.it.lt hlen).mem_iff]
    · intro i x w2 hx hns hI2 hg2 hs2 hen
      have HE := Lib.hid hen
      dsimp only [Ent.v, Ent.k] at hen ⊢
      clear hs2
      go_upto_region 3 with fail
      obtain ⟨wz, hwz⟩ : ∃ wz, wz = (w2.alloc (.cells #[.string x.nd, .int .i64 x.bt, .int .i64 x.sq] 66)).alloc (.cells x.cs.toArray 41) := ⟨_, rfl⟩
      have XZ : Ext w2 wz := by rw [hwz]; exact ((Ext.refl w2).alloc _).alloc _
      have k0 : ∀ j u, [Value.string x.nd, .int .i64 x.bt, .int .i64 x.sq][j]? = some u → wz.cell? ⟨w2.heap.size, j, none⟩ = some u := fun j u hj => by
        rw [hwz]
        exact ((Ext.refl _).alloc _).cell (cell_at_new w2 _ _ _ rfl j u hj)
      have v0 : RowB wz (w2.heap.size + 1) 41 x.cs := by
        rw [hwz]
        have := row_laid (w2.alloc (.cells #[.string x.nd, .int .i64 x.bt, .int .i64 x.sq] 66)) 41 x.cs
        simpa using this
      have hbr : b ≠ w.heap.size := by omega
      have hgr2 : w.grownBy w2 (some b) := hC.gr.andThen hg2 (fun j hj => by cases hj; exact .inl (Nat.le_refl _))
      have hgrz : w.grownBy wz (some b) := hgr2.andThen (XZ.grown none) (fun j hj => by cases hj)
      have hbz : wz.heap[b]? = some (mpO C) := (Below.block XZ b (by have := (hg2.block b (Array.getElem?_eq_some_iff.1 hC.hb).1 (by simpa using hbr)).trans hC.hb; exact (Array.getElem?_eq_some_iff.1 this).1)).trans ((hg2.block b (Array.getElem?_eq_some_iff.1 hC.hb).1 (by simpa using hbr)).trans hC.hb)
      have hitz : ItAt wz w.heap.size b' M (s ++ [i]) := hI2.kept (Below.block XZ b' (Array.getElem?_eq_some_iff.1 hI2.hb).1) (Below.block XZ _ (Array.getElem?_eq_some_iff.1 hI2.hr).1)
      obtain ⟨w', C', hU, hC', hsz⟩ := CpAt.put okM ndM hf hx hC.it.lt hitz hbz hC.ok hC.nd hC.mem hC.al hgrz hC.rn
      have HLT := Lib.hid (show itLeft w' w.heap.size < itLeft wr w.heap.size by rw [hC'.it.left, hC.it.left]; have := hI2.len; simp at this ⊢; omega)
      simp only [Ent.cs] at hwz
      rw [← hwz]
      have c0 := k0 0 _ rfl
      have c1 := k0 1 _ rfl
      have c2 := k0 2 _ rfl
      obtain ⟨t0, t1, t2, t3, t4, t5, t6⟩ := ent_cells v0
      have HC' := Lib.hid hC'
      dsimp only [Ent.v, Ent.k] at hU
      clear hwz k0 v0 hgr2 hgrz hbz hitz hC' hsz XZ hI2 hg2 hen hC
      go_wp2_with fail
      go_roundw
      case rel => exact ⟨s ++ [i], C', HC'.out⟩
      case measure => exact HLT.out
end Go.Proofs.Ytjdbhemojopnlaa
