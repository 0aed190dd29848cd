/- Chapter 20: ranges.Merge of a short list that is in order. -/
import Derived.Test.YtfgjbbpkkbohhaaGreatPcY
namespace Go.Proofs.YtfgjbbpkkbohhaaGreat
open Go.RowKit Go.Deep Go.Sort

def rcs (xs : List (Nat × Nat)) : List Value := xs.flatMap fun r => [.int .i64 (r.1 : Nat), .int .i64 (r.2 : Nat)]
theorem rcs_length (xs : List (Nat × Nat)) : (rcs xs).length = xs.length * 2 := by
  induction xs with
  | nil => rfl
  | cons x xs ih => simp only [rcs, List.flatMap_cons, List.length_append, List.length_cons] at *; simp at ih ⊢; omega
theorem rcs_append (xs ys : List (Nat × Nat)) : rcs (xs ++ ys) = rcs xs ++ rcs ys := by simp [rcs]
theorem rcs_get (xs : List (Nat × Nat)) (k : Nat) (h : k < xs.length) : (rcs xs)[k * 2]? = some (.int .i64 (((xs[k]?).getD (0, 0)).1 : Nat)) ∧ (rcs xs)[k * 2 + 1]? = some (.int .i64 (((xs[k]?).getD (0, 0)).2 : Nat)) := by
  induction xs generalizing k with
  | nil => simp at h
  | cons x xs ih =>
    cases k with
    | zero => simp [rcs]
    | succ k =>
      have := ih k (by simpa using h)
      have e : rcs (x :: xs) = .int .i64 (x.1 : Nat) :: .int .i64 (x.2 : Nat) :: rcs xs := rfl
      rw [e, show (k + 1) * 2 = k * 2 + 1 + 1 by omega]
      simpa using this
theorem rcs_one (xs : List (Nat × Nat)) : ∀ v ∈ rcs xs, v.oneCell' = true := by
  intro v hv
  obtain ⟨r, -, h⟩ := List.mem_flatMap.1 hv
  simp at h
  rcases h with rfl | rfl <;> rfl
def RngOwn (w : World) (B : Nat) (v : Value) (xs : List (Nat × Nat)) : Prop := w.ownsRow B 48 2 v xs.length (rcs xs)
theorem rng_info : (Tryz.prog.info? 48).map (fun i => (i.zero, i.size, i.bytes)) = some (some (.agg #[.int .i64 0, .int .i64 0]), 2, 16) := by kernel_rfl
theorem RngOwn.shape {w : World} {B : Nat} {v : Value} {xs : List (Nat × Nat)} (h : RngOwn w B v xs) : (v = .slice none 0 0 ∧ xs = []) ∨ ∃ g cap, v = .slice (some ⟨g, 0, none⟩) xs.length cap ∧ xs.length ≤ cap ∧ B ≤ g ∧ g < w.heap.size ∧ RngAt w g xs := by
  rcases h.2 with ⟨rfl, e⟩ | ⟨g, cap, cur, rfl, hb, hh, hl, hm, hc, ht⟩
  · exact .inl ⟨rfl, List.eq_nil_of_length_eq_zero e⟩
  · refine .inr ⟨g, cap, rfl, hl, hb, (Array.getElem?_eq_some_iff.1 hh).1, fun i hi => ?_⟩
    have h' : w.ownsRow B 48 2 (.slice (some ⟨g, 0, none⟩) xs.length cap) xs.length (rcs xs) := h
    obtain ⟨g0, g1⟩ := rcs_get xs i hi
    exact ⟨by rw [h'.cellAt _ (by omega), g0], by rw [h'.cellAt _ (by omega), g1]⟩
theorem RngOwn.ext {w w' : World} {B : Nat} {v : Value} {xs : List (Nat × Nat)} (h : RngOwn w B v xs) (hx : Ext w w') : RngOwn w' B v xs := by
  refine ⟨h.1, ?_⟩
  rcases h.2 with e | ⟨g, cap, cur, rfl, hb, hh, r⟩
  · exact .inl e
  · exact .inr ⟨g, cap, cur, rfl, hb, (Below.block hx g (Array.getElem?_eq_some_iff.1 hh).1).trans hh, r⟩
/-- 'append(out, r)' of one range -/
theorem wpList_append_rng (w : World) {ops : Array Oper} {rest : List Oper} {o : Oper} {a : Act} {Q : Exit → Act → World → Prop} (hg : o.guard = none) (s x : Operand)
    (ho : o.op = .call { callee := .builtin .append, args := #[s, x], argTypes := #[174, 174] }) (B : Nat) {v : Value} {xs : List (Nat × Nat)} (f t : Nat) (y z : Int) (hown : RngOwn w B v xs) (hy : y = (f : Int)) (hz : z = (t : Int)) (hs : a.eval s = v)
    {G : Nat} (hx : a.eval x = .slice (some ⟨G, 0, none⟩) 1 1) (hG : G = w.heap.size) (hlen : xs.length ≤ 1000000000) (hB : B ≤ w.heap.size)
    (h : ∀ v' w', RngOwn w' B v' (xs ++ [(f, t)]) → Below B w w' → wpList Tryz.prog ops Q rest (a.put o.dst v') w') : wpList Tryz.prog ops Q (o :: rest) a (w.alloc (.cells #[.int .i64 y, .int .i64 z] 48)) := by
  subst hy hz hG
  obtain ⟨i0, hi0, hz0, hz1, hz2⟩ := info_parts rng_info
  refine wpList_append_own _ hg s x 174 ho B 48 i0 _ 2 16 Tryz.underlying174 hi0 hz0 hz1 hz2 rfl (by decide) v xs.length _ hs (hown.alloc _) ⟨w.heap.size, 0, none⟩ 1 1 [.int .i64 (f : Int), .int .i64 (t : Int)] hx rfl ?_ ?_ ?_ ?_ ?_ ?_
  · intro j u hj
    match j, hj with
    | 0, hj => simp at hj; subst hj; simp [Addr.add]
    | 1, hj => simp at hj; subst hj; simp [Addr.add]
  · intro u hu; simp at hu; rcases hu with rfl | rfl <;> rfl
  · simp only [maxLen]; omega
  · omega
  · simp; omega
  · intro v' w1 hown' hgrow _
    refine h v' w1 ?_ ?_
    · unfold RngOwn
      rw [List.length_append, rcs_append]
      exact hown'
    · exact Below.grown (Below.alloc (Below.refl _ _) hB _) hgrow (by simp; omega) (own_base hown)
set_option maxRecDepth 100000 in
theorem clone_ok {w : World} {g cap : Nat} {xs : List (Nat × Nat)} (h : RngAt w g xs) (h0 : 0 < xs.length) (hn : xs.length ≤ 1000000) :
    Calls Tryz.prog 167 #[.slice (some ⟨g, 0, none⟩) xs.length cap] w fun e w' => ∃ v, e = .returned v ∧ Ext w w' ∧ RngOwn w' w.heap.size v xs := by
  obtain ⟨i0, hi0, hz0, hz1, hz2⟩ := info_parts rng_info
  have hq : ∀ W c n, (binOp .eql 174 (.slice (some ⟨g, 0, none⟩) n c) (.slice none 0 0)).run Tryz.prog W = .ok (.bool false) W := fun _ _ _ => by kernel_rfl
  have hgw : g < w.heap.size := World.block_lt_of_cell? w _ (h 0 h0).1
  have hrd : Reads w w.heap.size 2 (some ⟨g, 0, none⟩) xs.length (rcs xs) := by
    refine ⟨rcs_length xs, fun _ => ⟨_, rfl, hgw, fun j u hu => ?_⟩⟩
    have hj := (List.getElem?_eq_some_iff.1 hu).1
    rw [rcs_length] at hj
    obtain ⟨g0, g1⟩ := rcs_get xs (j / 2) (by omega)
    obtain ⟨s0, s1⟩ := h (j / 2) (by omega)
    rw [Addr.add_lit, Nat.zero_add]
    rcases Nat.mod_two_eq_zero_or_one j with e | e
    · rw [show j / 2 * 2 = j by omega] at g0 s0
      rw [s0, ← g0, hu]
    · rw [show j / 2 * 2 + 1 = j by omega] at g1 s1
      rw [s1, ← g1, hu]
  have HRD := Lib.hid hrd
  have HX := Lib.hid (rcs_one xs)
  obtain ⟨n, hxn⟩ : ∃ n, xs.length = n := ⟨_, rfl⟩
  have HN := Lib.hid hxn
  rw [hxn] at hn h0 HRD ⊢
  have hown : (w.alloc (.cells #[] 48)).ownsRow w.heap.size 48 2 (.slice (some ⟨w.heap.size, 0, none⟩) 0 0) 0 [] := by
    refine ⟨rfl, .inr ⟨w.heap.size, 0, #[], rfl, Nat.le_refl _, heap_alloc_new w _, Nat.le_refl _, by simp only [maxLen]; omega, rfl, rfl⟩⟩
  clear hrd hxn
  go_enter Tryz.func167, Tryz.ntmps167
  go_wp2_with (at_builtin; refine wpList_append_any _ rfl (.tmp 5) (.tmp 6) _ rfl w.heap.size 48 i0 _ 2 16 Tryz.underlying174 hi0 hz0 hz1 hz2 rfl (by omega) _ 0 [] rfl hown w.heap.size _ n _ _ rfl (HRD.out.alloc (Nat.le_refl _) _) HX.out (by simp only [maxLen]; omega) (by omega) (by simp) ?_)
  intro v' w' hown' hg' _
  have hX : Ext w w' := Below.grown ((Ext.refl w).alloc _) hg' (by simp) (own_base hown)
  clear hg' hown HRD
  go_wp2_with fail
  go_ret
  exact ⟨_, rfl, hX, by unfold RngOwn; rw [HN.out]; exact hown'⟩
end Go.Proofs.YtfgjbbpkkbohhaaGreat
