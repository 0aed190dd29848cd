/- Chapter 52: slices of entries in memory; slices.SortedFunc; List. -/
import Derived.Test.YtjdbhemojopnlaaMgG
import Derived.Shelf.SlSortCmp.NoneTotal
namespace Go.Proofs.Ytjdbhemojopnlaa
open Go.RowKit Go.Lib Go.Sort Go.Maps
/-- a slice of entries, in whatever block -/
def EnsAt (w : World) (v : Value) (es : List Ent) : Prop :=
  (v = .slice none 0 0 ∧ es = []) ∨ ∃ g off cap, v = .slice (some ⟨g, off, none⟩) es.length cap ∧ ∀ i e, es[i]? = some e → ∀ j u, e.cs[j]? = some u → w.cell? ⟨g, off + i * 7 + j, none⟩ = some u
theorem EnsAt.ext {w w' : World} {v : Value} {es : List Ent} (h : EnsAt w v es) (hx : Ext w w') : EnsAt w' v es := by
  rcases h with h | ⟨g, off, cap, hv, hc⟩
  · exact .inl h
  · exact .inr ⟨g, off, cap, hv, fun i e he j u hj => hx.cell (hc i e he j u hj)⟩
theorem EnsAt.nil (w : World) : EnsAt w (.slice none 0 0) [] := .inl ⟨rfl, rfl⟩
/-- the slice lies in a block that is new -/
def FreshV (B : Nat) (v : Value) : Prop := ∀ a n c, v = .slice (some a) n c → B ≤ a.block
theorem fresh_row {w : World} {B n sz : Nat} {t : TypeId} {v : Value} {xs : List Value} (h : w.ownsRow B t sz v n xs) : FreshV B v := by
  rintro a m c rfl
  rcases h.2 with ⟨hv, _⟩ | ⟨g, cap, cur, hv, hb, _⟩
  · cases hv
  · cases hv; exact hb
theorem cs_len (e : Ent) : e.cs.length = 7 := rfl
theorem flat_len (xs : List Ent) : (xs.flatMap Ent.cs).length = xs.length * 7 := by
  induction xs with
  | nil => rfl
  | cons x r ih => simp [ih, cs_len]; omega
theorem flat_get : ∀ (xs : List Ent) (i : Nat) (e : Ent), xs[i]? = some e → ∀ j, j < 7 → (xs.flatMap Ent.cs)[i * 7 + j]? = e.cs[j]?
  | [], i, e, h, _, _ => by simp at h
  | x :: r, 0, e, h, j, hj => by
    simp at h
    subst h
    simp only [List.flatMap_cons, Nat.zero_mul, Nat.zero_add]
    rw [List.getElem?_append_left (by rw [cs_len]; exact hj)]
  | x :: r, i + 1, e, h, j, hj => by
    simp only [List.getElem?_cons_succ] at h
    simp only [List.flatMap_cons]
    rw [List.getElem?_append_right (by rw [cs_len]; omega), cs_len, show (i + 1) * 7 + j - 7 = i * 7 + j by omega]
    exact flat_get r i e h j hj
theorem ens_of_row {w : World} {b : Nat} {v : Value} {es : List Ent} (h : w.ownsRow b 41 7 v es.length (es.flatMap Ent.cs)) : EnsAt w v es := by
  rcases h.2 with ⟨hv, h0⟩ | ⟨g, cap, cur, hv, hb, hg, h1, h2, h3, h4⟩
  · exact .inl ⟨hv, List.length_eq_zero_iff.1 h0⟩
  · refine .inr ⟨g, 0, cap, hv, fun i e he j u hj => ?_⟩
    have hj7 : j < 7 := by have := (List.getElem?_eq_some_iff.1 hj).1; rwa [cs_len] at this
    have hi := (List.getElem?_eq_some_iff.1 he).1
    rw [cell_of_row w g _ cur _ _ hg]
    have e1 := flat_get es i e he j hj7
    rw [← h4, List.getElem?_take_of_lt (by omega), hj] at e1
    rw [show 0 + i * 7 + j = i * 7 + j by omega]
    simpa using e1
theorem holds_of_row {w : World} {b g cap : Nat} {es : List Ent} (h : w.ownsRow b 41 7 (.slice (some ⟨g, 0, none⟩) es.length cap) es.length (es.flatMap Ent.cs)) :
    HoldsK Ent.cs 7 w g 0 es.toArray ∧ b ≤ g ∧ g < w.heap.size := by
  rcases h.2 with ⟨hv, _⟩ | ⟨g', cap', cur, hv, hb, hg, h1, h2, h3, h4⟩
  · cases hv
  · cases hv
    refine ⟨fun t ht => ?_, hb, (Array.getElem?_eq_some_iff.1 hg).1⟩
    have ht' : t < es.length * 7 := by simpa using ht
    have hi : t / 7 < es.length := by omega
    rw [cell_of_row w g _ cur _ _ hg, get_flatK _ _ _ _ (by simpa using ht')]
    have e1 := flat_get es (t / 7) es[t / 7] (by simp) (t % 7) (by omega)
    rw [← h4, show t / 7 * 7 + t % 7 = t by omega, List.getElem?_take_of_lt (by omega)] at e1
    refine ⟨?_, ?_⟩
    · have e2 : es.toArray[t / 7]! = es[t / 7] := by simp [hi]
      rw [e2]
      have e3 : (es[t / 7]).cs[t % 7]! = ((es[t / 7]).cs[t % 7]?).getD default := by simp
      have : t % 7 < (es[t / 7]).cs.length := by rw [cs_len]; omega
      rw [e3, ← e1]
      rw [List.getElem?_eq_getElem this] at e1
      rw [e1]
      simpa using e1
    · simp [World.frozen?, hg]
theorem ens_of_holds {w : World} {g cap : Nat} {es : List Ent} (h : HoldsK Ent.cs 7 w g 0 es.toArray) : EnsAt w (.slice (some ⟨g, 0, none⟩) es.length cap) es := by
  refine .inr ⟨g, 0, cap, rfl, fun i e he j u hj => ?_⟩
  have hj7 : j < 7 := by have := (List.getElem?_eq_some_iff.1 hj).1; rwa [cs_len] at this
  have hi := (List.getElem?_eq_some_iff.1 he).1
  have := (HoldsK.cell h (i := i) (c := j) (by simpa using hi) hj7).1
  rw [this]
  have e2 : es.toArray[i]! = e := by
    have := (List.getElem?_eq_some_iff.1 he).2
    simp [hi, this]
  rw [e2]
  simp [hj]
theorem ext_sortWorld (w w1 : World) (g : Nat) (n : Nat) (d' : Array Ent) (os : Array Obj) (hx : Ext w w1) (hg : w.heap.size ≤ g) : Ext w (sortWorldK Ent.cs 7 w1 g 0 n d' os) := by
  have h1 : Below w.heap.size w1 (sortWorldK Ent.cs 7 w1 g 0 n d' os) := by
    refine ⟨rfl, rfl, rfl, ?_, fun k hk => ?_⟩
    · exact size_sortWorldK_c Ent.cs 7 w1 g 0 n d' os
    · have hk1 : k < w1.heap.size := Nat.lt_of_lt_of_le hk hx.size
      show (w1.heap.modify g _ ++ os)[k]? = w1.heap[k]?
      rw [Array.getElem?_append_left (by simpa using hk1), Array.getElem?_modify, if_neg (by omega)]
  exact hx.below.trans h1
theorem sorted_list {L r : List Ent} (hr : r.Pairwise ltE) (hp : r.Perm L) (d d' : Array Ent) (hd : d.toList.Perm L) (h1 : PermIn 0 d.size d d') (h2 : SortedIn (ltOf cmpE) 0 d.size d') : d'.toList = r := by
  have hsz := h1.1
  have hpp : d'.toList.Perm r := by
    have := h1.2.2
    rw [show d'.extract 0 d.size = d' by rw [← hsz]; simp, show d.extract 0 d.size = d by simp] at this
    exact (this.trans hd).trans hp.symm
  have hpk : d'.toList.Pairwise fun a b => a.key ≠ b.key := ((hpp.pairwise_iff (fun {a b} (h : a.key ≠ b.key) => h.symm))).2 (hr.imp fun h => ltE_key h)
  have hps : d'.toList.Pairwise ltE := by
    rw [List.pairwise_iff_getElem] at hpk ⊢
    intro i j hi hj hij
    have hk := hpk i j hi hj hij
    have hs := h2 i j (Nat.zero_le _) hij (by simpa [hsz] using hj)
    have hi' : i < d'.size := by simpa using hi
    have hj' : j < d'.size := by simpa using hj
    rw [getElem!_pos d' j hj', getElem!_pos d' i hi', ltOf_eq] at hs
    simp only [Array.getElem_toList] at hk ⊢
    rcases ltE_tri d'[i] d'[j] with h | h | h
    · exact h
    · exact absurd h hk
    · exact absurd h hs
  exact hpp.eq_of_pairwise (fun a b _ _ h h' => absurd (ltE_trans h h') (ltE_irrefl a)) hps hr
set_option maxRecDepth 100000 in
set_option maxHeartbeats 1000000 in
theorem sortedfunc_any (Bm b : Nat) (L r : List Ent) (hr : r.Pairwise ltE) (hp : r.Perm L) (hN : L.length ≤ 1000) (w : World) (hBm : Bm < w.heap.size) (hm : w.cell? ⟨Bm, 0, none⟩ = some (.map (some b))) (hb : w.heap[b]? = some (mpO L)) :
    Calls Try.prog 32 #[.func (.func 46) #[] #[.pointer (some ⟨Bm, 0, none⟩)], .func (.func 34) #[] #[]] w fun e W' =>
      ∃ v, e = .returned v ∧ EnsAt W' v r ∧ Ext w W' ∧ FreshV w.heap.size v := by
  have HC := collect_any Bm b L hN w hBm hm hb
  have eg : ∀ args w, (callFunc 34 args).run Try.prog w = .ok (.enter 34 args) w := enters_of Try.func34 (by kernel_rfl) rfl
  have HS : ∀ (w1 : World) (v : Value) (xs : List Ent), xs.Perm L → w1.ownsRow w.heap.size 41 7 v xs.length (xs.flatMap Ent.cs) → Ext w w1 →
      Calls Try.prog 45 #[v, .func (.func 34) #[] #[]] w1 fun e W' => e = .returned (.tuple #[]) ∧ EnsAt W' v r ∧ Ext w W' := by
    intro w1 v xs hx hrow hX
    by_cases h0 : xs.length = 0
    · obtain rfl : xs = [] := List.length_eq_zero_iff.1 h0
      obtain rfl : L = [] := (List.nil_perm.1 hx)
      obtain rfl : r = [] := List.perm_nil.1 hp
      obtain ⟨p, cap, rfl⟩ : ∃ p cap, v = .slice p 0 cap := by
        rcases hrow.2 with ⟨rfl, _⟩ | ⟨g, cap, cur, rfl, _⟩
        · exact ⟨_, _, rfl⟩
        · exact ⟨_, _, rfl⟩
      have hc := AnyF.slices_SortFunc_none Try.laysF45 p cap (.func (.func 34) #[] #[]) w1
      refine hc.mono ?_
      rintro e w' ⟨rfl, rfl⟩
      exact ⟨rfl, ens_of_row hrow, hX⟩
    · obtain ⟨g, cap, rfl⟩ : ∃ g cap, v = .slice (some ⟨g, 0, none⟩) xs.length cap := by
        rcases hrow.2 with ⟨_, h⟩ | ⟨g, cap, cur, rfl, _⟩
        · exact absurd h h0
        · exact ⟨_, _, rfl⟩
      obtain ⟨hH, hbg, hlt⟩ := holds_of_row hrow
      have hlen : xs.length = L.length := hx.length_eq
      have hc := AnyQ.slices_SortFunc Try.laysF45 7 Try.isAgg41 Try.sizeOf41 Ent.cs cs_len (fun x v hv => by simp [Ent.cs] at hv; rcases hv with rfl | rfl | rfl | rfl | rfl | rfl | rfl <;> rfl) cmpE swo_ent 34 #[] g 0 cap xs.toArray w1 eg (cmp_lays g 0 _ w1) hH hlt (by simp; omega)
      refine Calls.mono hc ?_
      rintro e w' ⟨rfl, d', n, os, h1, h2, rfl⟩
      have hd := sorted_list hr hp xs.toArray d' (by simpa using hx) h1 h2
      refine ⟨rfl, ?_, ext_sortWorld w w1 g n d' os hX hbg⟩
      obtain ⟨dl⟩ := d'
      simp only at hd
      subst hd
      have hl2 : dl.length = xs.length := by have := h1.1; simpa using this
      rw [← hl2]
      exact ens_of_holds (holdsK_sortWorldK_c Ent.cs 7 w1 g 0 xs.toArray dl.toArray n os hH hlt (by simpa using hl2))
  go_enter Try.func32, Try.ntmps32
  go_wp2_with (first
    | (go_at_call 44; refine HC.mono ?_; rintro e w' ⟨v, xs, rfl, hx, ho, hB⟩)
    | (go_at_call 45; refine (HS _ _ _ hx ho hB).mono ?_; rintro e w'' ⟨rfl, hE, hX⟩))
  go_ret
  exact ⟨_, rfl, hE, hX, fresh_row ho⟩
end Go.Proofs.Ytjdbhemojopnlaa
