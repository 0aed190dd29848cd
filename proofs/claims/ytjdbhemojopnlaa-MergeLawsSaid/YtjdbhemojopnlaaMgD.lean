/- Chapter 52: the map's look-up, store and step on 'mpO l'. -/
import Derived.Test.YtjdbhemojopnlaaMgC
import Derived.RangeFuncOwn
import Derived.Maps.RangeWalk
import Derived.OwnWalkIn
namespace Go.Proofs.Ytjdbhemojopnlaa
open Go.RowKit Go.Maps
open Go.ChangeMaps (setBlock)
set_option maxRecDepth 100000
def entZ : Ent := ⟨ByteArray.empty, 0, 0, 0, 0, 0, 0⟩
theorem zero_ent (w : World) : (zeroValue 41).run Try.prog w = .ok entZ.v w := by kernel_rfl
theorem mpE_key {l : List Ent} {x : MapEntry} (h : x ∈ mpE l) : ∃ e ∈ l, x.key = e.k ∧ x.val = e.v := by
  obtain ⟨i, e, he, rfl⟩ := mpE_mem h
  exact ⟨e, List.mem_of_getElem? he, rfl, rfl⟩
theorem setBlock_same {w : World} {b : Nat} {o : Obj} (h : w.heap[b]? = some o) : setBlock w b o = w := by
  obtain ⟨hlt, he⟩ := Array.getElem?_eq_some_iff.1 h
  have : w.heap.setIfInBounds b o = w.heap := by
    apply Array.ext
    · simp
    · intro i h1 h2
      rw [Array.getElem_setIfInBounds]
      split
      · rename_i e; subst e; exact he.symm
      · rfl
  unfold setBlock
  rw [this]
section
variable {w : World} {b : Nat} {l : List Ent}
theorem look_mp (hb : w.heap[b]? = some (mpO l)) (hl : ∀ e ∈ l, e.wf) (x : Ent) (hx : x.wf) (c : Bool) :
    ((∀ e ∈ l, e.key ≠ x.key) ∧ (Instr.lookup 68 (.map (some b)) x.k c).run Try.prog w = .ok (if c then .tuple #[entZ.v, .bool false] else entZ.v) w) ∨
    ∃ e ∈ l, e.key = x.key ∧ (Instr.lookup 68 (.map (some b)) x.k c).run Try.prog w = .ok (if c then .tuple #[e.v, .bool true] else e.v) w := by
  obtain ⟨lx, hlx⟩ := key_at x hx
  have hes : ∀ e ∈ (mpE l).toArray.toList, ∃ q, keyOf Try.prog 66 e.key = some q := fun e he => by
    obtain ⟨y, hy, hk, _⟩ := mpE_key (by simpa using he)
    rw [hk]
    exact key_at y (hl y hy)
  rcases key_law.find w hlx (mpE l).toArray.toList hes with ⟨h1, h2⟩ | ⟨j, e0, h1, h2, h3⟩
  · refine .inl ⟨fun e he hk => ?_, ?_⟩
    · obtain ⟨i, hi⟩ := List.getElem?_of_mem he
      refine h2 ⟨e.k, e.v, i⟩ (by simp only [mpE]; exact List.mem_mapIdx.2 ⟨i, (List.getElem?_eq_some_iff.1 hi).1, by rw [(List.getElem?_eq_some_iff.1 hi).2]⟩) ?_
      simp only [Ent.key, Prod.mk.injEq] at hk
      simp [Ent.k, hk]
    · simp [Instr.lookup, run_underlying Try.underlying68, MapKept.run_getObj_map (show w.heap[b]? = some (.map (mpE l).toArray l.length) from hb), key_law.check w _ hlx, h1, Result.andThen]
      cases c <;> rfl
  · obtain ⟨e, he, hk⟩ := mpE_get (by simpa using h2)
    subst hk
    refine .inr ⟨e, List.mem_of_getElem? he, Ent.k_inj h3, ?_⟩
    simp [Instr.lookup, run_underlying Try.underlying68, MapKept.run_getObj_map (show w.heap[b]? = some (.map (mpE l).toArray l.length) from hb), key_law.check w _ hlx, h1, Result.andThen]
theorem store_mp_new (hb : w.heap[b]? = some (mpO l)) (hl : ∀ e ∈ l, e.wf) (x : Ent) (hx : x.wf) (hn : ∀ e ∈ l, e.key ≠ x.key) :
    (Instr.mapUpdate 68 (.map (some b)) x.k x.v).run Try.prog w = .ok () (setBlock w b (mpO (l ++ [x]))) := by
  obtain ⟨lx, hlx⟩ := key_at x hx
  have hes : ∀ e ∈ (mpE l).toArray.toList, ∃ q, keyOf Try.prog 66 e.key = some q := fun e he => by
    obtain ⟨y, hy, hk, _⟩ := mpE_key (by simpa using he)
    rw [hk]
    exact key_at y (hl y hy)
  have hb' : w.heap[b]? = some (.map (mpE l).toArray l.length) := hb
  rcases key_law.find w hlx (mpE l).toArray.toList hes with ⟨h1, h2⟩ | ⟨j, e0, h1, h2, h3⟩
  · have e1 : mpO (l ++ [x]) = .map ((mpE l).toArray.push ⟨x.k, x.v, l.length⟩) (l.length + 1) := by
      unfold mpO
      rw [mpE_push]
      simp
    rw [e1]
    simp [Instr.mapUpdate, run_underlying Try.underlying68, MapKept.run_getObj_map hb', key_law.check w false hlx, h1, MapKept.run_setObj_map _ hb', Result.andThen, setBlock]
  · obtain ⟨e, he, hk⟩ := mpE_get (by simpa using h2)
    subst hk
    exact absurd (Ent.k_inj h3) (hn e (List.mem_of_getElem? he))
theorem pair_unique {l : List Ent} (hd : l.Pairwise fun a b => a.key ≠ b.key) {a b : Ent} (ha : a ∈ l) (hb : b ∈ l) (h : a.key = b.key) : a = b := by
  induction l with
  | nil => cases ha
  | cons x r ih =>
    obtain ⟨h1, h2⟩ := List.pairwise_cons.1 hd
    rcases List.mem_cons.1 ha with rfl | ha'
    · rcases List.mem_cons.1 hb with rfl | hb'
      · rfl
      · exact absurd h (h1 _ hb')
    · rcases List.mem_cons.1 hb with rfl | hb'
      · exact absurd h.symm (h1 _ ha')
      · exact ih h2 ha' hb'
theorem store_mp_old (hb : w.heap[b]? = some (mpO l)) (hl : ∀ e ∈ l, e.wf) (hd : l.Pairwise fun a b => a.key ≠ b.key) (x : Ent) (hx : x ∈ l) :
    (Instr.mapUpdate 68 (.map (some b)) x.k x.v).run Try.prog w = .ok () w := by
  obtain ⟨lx, hlx⟩ := key_at x (hl x hx)
  have hes : ∀ e ∈ (mpE l).toArray.toList, ∃ q, keyOf Try.prog 66 e.key = some q := fun e he => by
    obtain ⟨y, hy, hk, _⟩ := mpE_key (by simpa using he)
    rw [hk]
    exact key_at y (hl y hy)
  have hb' : w.heap[b]? = some (.map (mpE l).toArray l.length) := hb
  rcases key_law.find w hlx (mpE l).toArray.toList hes with ⟨h1, h2⟩ | ⟨j, e0, h1, h2, h3⟩
  · obtain ⟨i, hi⟩ := List.getElem?_of_mem hx
    exact absurd rfl (h2 ⟨x.k, x.v, i⟩ (by simp only [mpE]; exact List.mem_mapIdx.2 ⟨i, (List.getElem?_eq_some_iff.1 hi).1, by rw [(List.getElem?_eq_some_iff.1 hi).2]⟩))
  · have h2' : (mpE l)[j]? = some e0 := by simpa using h2
    obtain ⟨e, he, hk⟩ := mpE_get h2'
    subst hk
    obtain rfl := pair_unique hd (List.mem_of_getElem? he) hx (Ent.k_inj h3)
    have hj : (mpE l).toArray[j]? = some ⟨e.k, e.v, j⟩ := by simpa using h2'
    have hm : (mpE l).modify j (fun e' => { key := e.k, val := e.v, born := e'.born }) = mpE l := by
      rw [ChangeMaps.modify_eq_set _ _ _ _ h2']
      apply List.ext_getElem?
      intro i
      rw [List.getElem?_set]
      split
      · rename_i hij
        subst hij
        have := (List.getElem?_eq_some_iff.1 h2').1
        rw [if_pos (by simpa using this)]
        simpa using h2'.symm
      · rfl
    have := setBlock_same hb'
    simp [Instr.mapUpdate, run_underlying Try.underlying68, MapKept.run_getObj_map hb', key_law.check w false hlx, h1, h2', hm, key_law.stays w hlx, MapKept.run_setObj_map _ hb', Result.andThen]
    exact this
/-- 'for .. := range m' under way over a map that does not change: the places that have come are s -/
structure ItAt (w : World) (r b : Nat) (l : List Ent) (s : List Nat) : Prop where
  hb : w.heap[b]? = some (mpO l)
  hr : w.heap[r]? = some (.mapIter (some b) l.length s.toArray l.length)
  nd : s.Nodup
  lt : ∀ i ∈ s, i < l.length
def itLeft (w : World) (r : Nat) : Nat := match w.heap[r]? with | some (.mapIter _ n s _) => n - s.size | _ => 0
theorem ItAt.left {r : Nat} {s : List Nat} (h : ItAt w r b l s) : itLeft w r = l.length - s.length := by simp [itLeft, h.hr]
theorem ItAt.ne {r : Nat} {s : List Nat} (h : ItAt w r b l s) : r ≠ b := by
  intro e
  have := h.hr
  rw [e, h.hb] at this
  cases this
theorem ItAt.kept {w' : World} {r : Nat} {s : List Nat} (h : ItAt w r b l s) (h1 : w'.heap[b]? = w.heap[b]?) (h2 : w'.heap[r]? = w.heap[r]?) : ItAt w' r b l s := ⟨h1.trans h.hb, h2.trans h.hr, h.nd, h.lt⟩
theorem nodup_len {s : List Nat} {n : Nat} (nd : s.Nodup) (lt : ∀ i ∈ s, i < n) : s.length ≤ n := by
  have := List.Nodup.length_le_of_subset nd (fun i hi => List.mem_range.2 (lt i hi))
  simpa using this
theorem ItAt.len {r : Nat} {s : List Nat} (h : ItAt w r b l s) : s.length ≤ l.length := nodup_len h.nd h.lt
theorem mpE_born (l : List Ent) : ((mpE l).map (·.born)) = List.range l.length := by
  unfold mpE
  apply List.ext_getElem?
  intro i
  simp only [List.getElem?_map, List.getElem?_mapIdx]
  by_cases h : i < l.length
  · simp [h]
  · simp [h]
theorem ItAt.step {r : Nat} {s : List Nat} (h : ItAt w r b l s) (ty : TypeId) :
    (s.length = l.length ∧ (Instr.next (.pointer (some ⟨r, 0, none⟩)) false ty).run Try.prog w = .ok (.tuple #[.bool false]) w) ∨
    ∃ i e w', l[i]? = some e ∧ i ∉ s ∧ (Instr.next (.pointer (some ⟨r, 0, none⟩)) false ty).run Try.prog w = .ok (.tuple #[.bool true, e.k, e.v]) w' ∧ ItAt w' r b l (s ++ [i]) ∧ w.grownBy w' (some r) ∧ w'.heap.size = w.heap.size ∧
      (Instr.entry (.pointer (some ⟨r, 0, none⟩))).run Try.prog w' = .ok (.tuple #[e.k, e.v]) w' := by
  have hb' : w.heap[b]? = some (.map (mpE l).toArray l.length) := h.hb
  rcases run_next_at (P := Try.prog) w ty r b l.length l.length s.toArray (mpE l).toArray l.length h.hr hb' (fun x hx => by
      obtain ⟨i, e, he, rfl⟩ := mpE_mem (by simpa using hx)
      exact (List.getElem?_eq_some_iff.1 he).1) (Nat.le_refl _) with ⟨h0, hrun⟩ | ⟨x, hx, w1, hal, hrun⟩
  · refine .inl ⟨Nat.le_antisymm h.len ?_, hrun⟩
    have hall := all_seen _ _ h0
    have : (List.range l.length).length ≤ s.length := List.Nodup.length_le_of_subset List.nodup_range (fun i hi => by
      have hi' := List.mem_range.1 hi
      have := hall ⟨(l[i]).k, (l[i]).v, i⟩ (by simp only [mpE]; exact List.mem_mapIdx.2 ⟨i, hi', rfl⟩)
      simpa using this)
    simpa using this
  · obtain ⟨hm, hs⟩ := mem_left hx
    obtain ⟨i, e, he, rfl⟩ := mpE_mem (by simpa using hm)
    have hns : i ∉ s := by simpa using hs
    have hi := (List.getElem?_eq_some_iff.1 he).1
    have hr1 : w1.heap[r]? = some (.mapIter (some b) l.length s.toArray l.length) := by rcases hal with rfl | rfl <;> exact h.hr
    have hb1 : w1.heap[b]? = some (.map (mpE l).toArray l.length) := by rcases hal with rfl | rfl <;> exact hb'
    have hset := MapKept.heap_set (o' := .mapIter (some b) l.length (s.toArray.push i) l.length) hr1
    have hb2 := (hset.2 b (fun e1 => h.ne e1.symm)).trans hb1
    refine .inr ⟨i, e, _, he, hns, hrun, ⟨hb2, hset.1.trans (by simp), ?_, ?_⟩, ?_, ?_, ?_⟩
    · rw [List.nodup_append]
      exact ⟨h.nd, by simp, fun a ha b hb => by simp at hb; subst hb; intro e; exact hns (e ▸ ha)⟩
    · intro j hj
      rcases List.mem_append.1 hj with hj | hj
      · exact h.lt j hj
      · simp at hj; omega
    · rcases hal with rfl | rfl <;> exact ⟨rfl, rfl, rfl, by simp [setBlock], fun j _ hj => hset.2 j (fun e1 => hj (by rw [e1]))⟩
    · rcases hal with rfl | rfl <;> simp [setBlock]
    · exact run_entry_at _ r b l.length s.toArray (mpE l).toArray l.length ⟨e.k, e.v, i⟩ hset.1 hb2 hm (by
        rw [show (mpE l).toArray.toList = mpE l from rfl, mpE_born]
        exact List.nodup_range)
theorem range_mp (hb : w.heap[b]? = some (mpO l)) : (Instr.range 68 (.map (some b))).run Try.prog w = .ok (.pointer (some ⟨w.heap.size, 0, none⟩)) (w.alloc (.mapIter (some b) l.length #[] l.length)) :=
  run_range_map w _ _ _ b (mpE l).toArray l.length Try.underlying68 hb
theorem ItAt.start (hb : w.heap[b]? = some (mpO l)) : ItAt (w.alloc (.mapIter (some b) l.length #[] l.length)) w.heap.size b l [] :=
  ⟨((MapKept.heap_alloc w _).2 b (Array.getElem?_eq_some_iff.1 hb).1).trans hb, (MapKept.heap_alloc w _).1, by simp, by simp⟩
def picks (l : List Ent) (s : List Nat) : List Ent := s.map fun i => l.getD i default
theorem picks_snoc (l : List Ent) (s : List Nat) {i : Nat} {e : Ent} (he : l[i]? = some e) : picks l (s ++ [i]) = picks l s ++ [e] := by simp [picks, List.getD, he]
theorem picks_perm (l : List Ent) {s : List Nat} (nd : s.Nodup) (lt : ∀ i ∈ s, i < l.length) (hl : s.length = l.length) : (picks l s).Perm l := by
  have h1 : s.Perm (List.range l.length) := by
    refine (List.perm_ext_iff_of_nodup nd List.nodup_range).2 fun i => ⟨fun h => List.mem_range.2 (lt i h), fun h => ?_⟩
    refine Classical.byContradiction fun hn => ?_
    have := nodup_len (n := l.length) (List.nodup_cons.2 ⟨hn, nd⟩) (fun j hj => by
      rcases List.mem_cons.1 hj with rfl | hj
      · exact List.mem_range.1 h
      · exact lt j hj)
    simp at this
    omega
  have h2 : (List.range l.length).map (fun i => l.getD i default) = l := by
    apply List.ext_getElem?
    intro i
    by_cases h : i < l.length
    · rw [List.getElem?_map, List.getElem?_range h]
      simp [h, List.getD]
    · rw [List.getElem?_eq_none (by simp; omega), List.getElem?_eq_none (by omega)]
  have := h1.map (fun i => l.getD i default)
  rw [h2] at this
  exact this
end
section
variable {w : World} {ops : Array Oper} {rest : List Oper} {o : Oper} {a : Act} {Q : Exit → Act → World → Prop} {b : Nat} {l : List Ent}
theorem wpList_range_mp (hg : o.guard = none) (m : Operand) (hop : o.op = Op.range 68 m) (hm : a.eval m = .map (some b)) (hb : w.heap[b]? = some (mpO l))
    (hK : ItAt (w.alloc (.mapIter (some b) l.length #[] l.length)) w.heap.size b l [] → wpList Try.prog ops Q rest (a.put o.dst (.pointer (some ⟨w.heap.size, 0, none⟩))) (w.alloc (.mapIter (some b) l.length #[] l.length))) : wpList Try.prog ops Q (o :: rest) a w := by
  refine wpList_plain hg fun K' hK' => ?_
  unfold Oper.wp
  simp only [execOp, hop, hm, Sem.run_bind, range_mp hb, Result.andThen]
  exact hK' _ _ (hK (ItAt.start hb))
theorem wpList_next_mp (hg : o.guard = none) (it : Operand) (hop : o.op = Op.next it false) {r : Nat} {s : List Nat} (hit : a.eval it = .pointer (some ⟨r, 0, none⟩)) (h : ItAt w r b l s)
    (h0 : s.length = l.length → wpList Try.prog ops Q rest (a.put o.dst (.tuple #[.bool false])) w)
    (h1 : ∀ i e w', l[i]? = some e → i ∉ s → ItAt w' r b l (s ++ [i]) → w.grownBy w' (some r) → w'.heap.size = w.heap.size → (Instr.entry (.pointer (some ⟨r, 0, none⟩))).run Try.prog w' = .ok (.tuple #[e.k, e.v]) w' →
      wpList Try.prog ops Q rest (a.put o.dst (.tuple #[.bool true, e.k, e.v])) w') : wpList Try.prog ops Q (o :: rest) a w := by
  refine wpList_plain hg fun K' hK' => ?_
  unfold Oper.wp
  rcases h.step o.type with ⟨hl, hrun⟩ | ⟨i, e, w', he, hn, hrun, hI, hgr, hsz, hen⟩
  · simp only [execOp, hop, hit, Sem.run_bind, hrun, Result.andThen]
    exact hK' _ _ (h0 hl)
  · simp only [execOp, hop, hit, Sem.run_bind, hrun, Result.andThen]
    exact hK' _ _ (h1 i e w' he hn hI hgr hsz hen)
variable {F : Fence} {n : Nat}
theorem wpListIn_range_mp (hg : o.guard = none) (m : Operand) (hop : o.op = Op.range 68 m) (hm : a.eval m = .map (some b)) (hb : w.heap[b]? = some (mpO l))
    (hK : ItAt (w.alloc (.mapIter (some b) l.length #[] l.length)) w.heap.size b l [] → wpListIn F n Try.prog ops Q rest (a.put o.dst (.pointer (some ⟨w.heap.size, 0, none⟩))) (w.alloc (.mapIter (some b) l.length #[] l.length))) : wpListIn F n Try.prog ops Q (o :: rest) a w := by
  refine wpListIn_plain hg fun K' hK' => ?_
  unfold Oper.wpIn
  refine ⟨by simp [Oper.about, hop], ?_⟩
  rw [Oper.semAt_plain F _ _ (by rw [hop]; intro c hc'; cases hc')]
  simp only [execOp, hop, hm, Sem.run_bind, range_mp hb, Result.andThen]
  exact hK' _ _ (hK (ItAt.start hb))
theorem wpListIn_next_mp (hg : o.guard = none) (it : Operand) (hop : o.op = Op.next it false) {r : Nat} {s : List Nat} (hit : a.eval it = .pointer (some ⟨r, 0, none⟩)) (h : ItAt w r b l s)
    (h0 : s.length = l.length → wpListIn F n Try.prog ops Q rest (a.put o.dst (.tuple #[.bool false])) w)
    (h1 : ∀ i e w', l[i]? = some e → i ∉ s → ItAt w' r b l (s ++ [i]) → w.grownBy w' (some r) → w'.heap.size = w.heap.size → (Instr.entry (.pointer (some ⟨r, 0, none⟩))).run Try.prog w' = .ok (.tuple #[e.k, e.v]) w' →
      wpListIn F n Try.prog ops Q rest (a.put o.dst (.tuple #[.bool true, e.k, e.v])) w') : wpListIn F n Try.prog ops Q (o :: rest) a w := by
  refine wpListIn_plain hg fun K' hK' => ?_
  unfold Oper.wpIn
  refine ⟨by simp [Oper.about, hop], ?_⟩
  rw [Oper.semAt_plain F _ _ (by rw [hop]; intro c hc'; cases hc')]
  rcases h.step o.type with ⟨hl, hrun⟩ | ⟨i, e, w', he, hn, hrun, hI, hgr, hsz, hen⟩
  · simp only [execOp, hop, hit, Sem.run_bind, hrun, Result.andThen]
    exact hK' _ _ (h0 hl)
  · simp only [execOp, hop, hit, Sem.run_bind, hrun, Result.andThen]
    exact hK' _ _ (h1 i e w' he hn hI hgr hsz hen)
end
end Go.Proofs.Ytjdbhemojopnlaa
