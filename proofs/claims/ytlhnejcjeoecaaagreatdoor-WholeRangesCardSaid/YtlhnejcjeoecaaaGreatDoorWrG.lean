/- WholeRanges: words for the law: what comes in, and the cloned list. -/
import Derived.Test.YtlhnejcjeoecaaaGreatDoorGAK
import Derived.Test.YtlhnejcjeoecaaaGreatDoorGAD
import Derived.Test.YtlhnejcjeoecaaaGreatDoorGAC
namespace Go.Proofs.YtlhnejcjeoecaaaGreatDoor
open Go.RowKit
/-- bytes that come in as a slice -/
def BIn (w : World) (v : Value) (t : ByteArray) : Prop := ∃ A cap, v = .slice A t.size cap ∧ t.size ≤ cap ∧ (0 < t.size → ∃ g o, A = some ⟨g, o, none⟩ ∧ g < w.heap.size ∧ P20.BytesO w g o t)
/-- small numbers that come in as a slice -/
def CIn (w : World) (v : Value) (xs : List Nat) : Prop := ∃ A cap, v = .slice A xs.length cap ∧ xs.length ≤ cap ∧ (0 < xs.length → ∃ a, A = some a ∧ ∀ i x, xs[i]? = some x → w.cell? (a.add i) = some (.int .u8 (x : Nat)))
theorem CIn.at {w : World} {A : Option Addr} {n c : Nat} {xs : List Nat} (h : CIn w (.slice A n c) xs) (h0 : 0 < n) : ∃ a, A = some a ∧ ∀ i x, xs[i]? = some x → w.cell? (a.add i) = some (.int .u8 (x : Nat)) := by
  obtain ⟨A', c', e, -, hr⟩ := h
  injection e with e1 e2 e3
  subst e1
  exact hr (by omega)
theorem BIn.at {w : World} {A : Option Addr} {n c : Nat} {t : ByteArray} (h : BIn w (.slice A n c) t) (h0 : 0 < n) : ∃ g o, A = some ⟨g, o, none⟩ ∧ g < w.heap.size ∧ P20.BytesO w g o t := by
  obtain ⟨A', c', e, -, hr⟩ := h
  injection e with e1 e2 e3
  subst e1
  exact hr (by omega)
theorem BIn.piece {w : World} {g o : Nat} {t : ByteArray} (h : P20.BytesO w g o t) {i n : Nat} (hn : t.size = n) (hi : i < P20.npc n) : P20.BytesO w g (o + i * 256) (P20.pcS t i) := by
  intro j hj
  have hz := P20.pcS_size t i (by rw [hn]; unfold P20.npc at hi; omega)
  rw [hz] at hj
  have h1 := h (i * 256 + j) (by unfold P20.pto at hj; omega)
  rw [show o + i * 256 + j = o + (i * 256 + j) by omega, h1]
  have h2 := P20.pcS_byte t (i * 256 + j) (by unfold P20.pto at hj; omega)
  rw [show (i * 256 + j) / 256 = i by unfold P20.pto at hj; omega, show (i * 256 + j) % 256 = j by unfold P20.pto at hj; omega] at h2
  rw [h2]
theorem RIn.reads {w : World} {A : Option Addr} {n cap : Nat} {xs : List (Int × Int)} (h : RIn w (.slice A n cap) xs) (hn : n = xs.length) (hblk : ∀ a, A = some a → 0 < n → a.block < w.heap.size) : Reads w w.heap.size 2 A n (xs.flatMap rcs2) := by
  obtain ⟨A', cap', e, hc, hr⟩ := h
  injection e with e1 e2 e3
  subst e1
  have hl : (xs.flatMap rcs2).length = n * 2 := by
    rw [hn]
    clear hr hblk hn hc e2
    induction xs with
    | nil => rfl
    | cons x r ih => simp only [List.flatMap_cons, List.length_append, ih, List.length_cons, rcs2, List.length_nil]; omega
  refine ⟨hl, fun h0 => ?_⟩
  obtain ⟨a, rfl, hg⟩ := hr (by omega)
  refine ⟨a, rfl, hblk a rfl h0, fun j u hu => ?_⟩
  have hj : j < n * 2 := by rw [← hl]; exact (List.getElem?_eq_some_iff.1 hu).1
  obtain ⟨p, hp⟩ : ∃ p, xs[j / 2]? = some p := ⟨_, List.getElem?_eq_getElem (by omega)⟩
  have hcs := hg (j / 2) p hp
  have hf := fun q hq => r_flat xs (j / 2) p hp q hq
  rcases Nat.mod_two_eq_zero_or_one j with h2 | h2
  · have e : j = j / 2 * 2 + 0 := by omega
    rw [e, hf 0 (by omega)] at hu
    rw [e]
    simp [rcs2] at hu
    subst hu
    exact hcs.1
  · have e : j = j / 2 * 2 + 1 := by omega
    rw [e, hf 1 (by omega)] at hu
    simp [rcs2] at hu
    subst hu
    have h3 := hcs.2
    rw [show a.add j = (a.add (j / 2 * 2)).add 1 by rw [add_of_add]; congr 1]
    have h4 : (a.add (j / 2 * 2)).add 1 = ⟨(a.add (j / 2 * 2)).block, (a.add (j / 2 * 2)).off + 1, none⟩ := by
      have hs := Lib.plain_of_cell hcs.1
      rw [hs, Addr.add_lit]
    rw [h4]
    exact h3
theorem flat_set : ∀ (xs : List (Int × Int)) (i : Nat) (f t : Int), i < xs.length → (((xs.flatMap rcs2).set (i * 2) (.int .i64 f)).set (i * 2 + 1) (.int .i64 t)) = (xs.set i (f, t)).flatMap rcs2
  | [], i, f, t, h => by simp at h
  | x :: r, 0, f, t, _ => by simp [rcs2]
  | x :: r, i + 1, f, t, h => by
    simp only [List.flatMap_cons, List.set_cons_succ, rcs2, List.cons_append, List.nil_append]
    rw [show (i + 1) * 2 = i * 2 + 1 + 1 by omega]
    simp only [List.set_cons_succ]
    rw [flat_set r i f t (by simpa using h)]
/-- the clone as a row -/
def QRow (w : World) (g : Nat) (xs : List (Int × Int)) : Prop := RowB w g 27 (xs.flatMap rcs2)
theorem QRow.at {w : World} {g : Nat} {xs : List (Int × Int)} (h : QRow w g xs) {i : Nat} {p : Int × Int} (hp : xs[i]? = some p) : w.cell? ⟨g, i * 2, none⟩ = some (.int .i64 p.1) ∧ w.cell? ⟨g, i * 2 + 1, none⟩ = some (.int .i64 p.2) := by
  have h0 := r_flat xs i p hp 0 (by omega)
  have h1 := r_flat xs i p hp 1 (by omega)
  rw [Nat.add_zero] at h0
  exact ⟨RowB.cell h (h0.trans rfl), RowB.cell h (h1.trans rfl)⟩
theorem QRow.put {w : World} {g : Nat} {xs : List (Int × Int)} (h : QRow w g xs) {i : Nat} (hi : i < xs.length) (f t : Int) : QRow ((w.setCell ⟨g, i * 2, none⟩ (.int .i64 f)).setCell ⟨g, i * 2 + 1, none⟩ (.int .i64 t)) g (xs.set i (f, t)) := by
  have hl : ∀ ys : List (Int × Int), (ys.flatMap rcs2).length = ys.length * 2 := by
    intro ys
    induction ys with
    | nil => rfl
    | cons x r ih => simp only [List.flatMap_cons, List.length_append, ih, List.length_cons, rcs2, List.length_nil]; omega
  unfold QRow
  rw [← flat_set xs i f t hi]
  exact (RowB.set h (i * 2) _ (by rw [hl]; omega)).set (i * 2 + 1) _ (by rw [List.length_set, hl]; omega)
theorem QRow.rin {w : World} {g cap : Nat} {xs : List (Int × Int)} (h : QRow w g xs) (hc : xs.length ≤ cap) : RIn w (.slice (some ⟨g, 0, none⟩) xs.length cap) xs := by
  refine ⟨_, cap, rfl, hc, fun _ => ⟨_, rfl, fun i p hp => ?_⟩⟩
  have h2 := h.at hp
  rw [Addr.add_lit, Nat.zero_add]
  exact h2
theorem own_qrow {w : World} {B g n cap : Nat} {xs : List (Int × Int)} (h : w.ownsRow B 27 2 (.slice (some ⟨g, 0, none⟩) n cap) n (xs.flatMap rcs2)) : QRow w g xs ∧ B ≤ g ∧ n ≤ cap := by
  rcases h.2 with ⟨e, _⟩ | ⟨g', cap', cur, e, hb, hh, hl, hm, hc, ht⟩
  · cases e
  · injection e with e1 e2 e3
    injection e1 with e1
    injection e1 with e1
    subst e1
    subst e3
    exact ⟨⟨cur, (0, 0), cur.toList.drop (n * 2), hh, fun j _ h2 => absurd h2 (by omega), by rw [← ht, List.take_append_drop]⟩, hb, hl⟩
theorem ix_l0 (x y : Value) (W : World) : (Instr.index 36 (.agg #[x, y]) (.int .i64 0)).run Tryz.prog W = .ok x W := by kernel_rfl
theorem ix_l1 (x y : Value) (W : World) : (Instr.index 36 (.agg #[x, y]) (.int .i64 1)).run Tryz.prog W = .ok y W := by kernel_rfl
theorem ix_b0 (x y : Value) (W : World) : (Instr.index 37 (.agg #[x, y]) (.int .i64 0)).run Tryz.prog W = .ok x W := by kernel_rfl
theorem ix_b1 (x y : Value) (W : World) : (Instr.index 37 (.agg #[x, y]) (.int .i64 1)).run Tryz.prog W = .ok y W := by kernel_rfl
end Go.Proofs.YtlhnejcjeoecaaaGreatDoor
