/- Chapter 52: entries that come in. -/
import Derived.Test.YtjdbhemojopnlaaMgT
import Derived.Test.YtjdbhemojopnlaaLift
import Derived.Deep.Slices
import Derived.Deep.Fields
import Derived.Deep.DeepHandedRow
namespace Go.Proofs.Ytjdbhemojopnlaa
section
open Go.ChangeShapes Go.WideShapes Go.Deep
variable {H : Type} {enc : TypeId × Value → H} {P : Program} {w : World} {base : Nat} {spare : Nat → Bool} {held : Bool}
theorem open_slice_cells {t e : TypeId} {fs : Array Field} {fuel : Nat} {cs : List Value} {x : DataW H × List MemPlace} (ht : P.underlying t = some (.slice e)) (he : P.underlying e = some (.struct fs))
    (hone : oneCellFields P fs = true) (hC : P.cellsOf e = fs.size) (h : DataW.trod enc P w base spare held fuel t cs = some x) :
    cs = [.slice none 0 0] ∨
    ∃ (a : Addr) (len cap m : Nat), cs = [.slice (some a) len cap] ∧ len ≤ cap ∧ cap ≤ maxLen ∧ m = (if spare a.block then cap else len) ∧
      ∀ i, i < m → ∀ (j : Nat) (f : Field), fs[j]? = some f → ∃ (v : Value) (y : DataW H × List MemPlace) (n : Nat), w.cell? (a.add (i * fs.size + j)) = some v ∧ DataW.trod enc P w base spare held n f.type [v] = some y := by
  rcases open_slice ht h with h0 | ⟨a, len, cap, m, n, D, Pl, hcs, hb, hl, hm, hmm, hx, hi⟩
  · exact .inl h0.1
  · refine .inr ⟨a, len, cap, m, hcs, hl, hm, hmm, fun i him j f hj => ?_⟩
    obtain ⟨cs', hc, ht'⟩ := hi i him
    rw [hC] at hc
    obtain ⟨ys, n', hn', hy, hlen, hyl, hf⟩ := DataW.trod_struct he ht'
    obtain ⟨_, hcl, hat⟩ := World.cells?_some hc
    obtain ⟨ho, hk⟩ := hone_of hone j f hj
    have hjl : j < fs.size := (Array.getElem?_eq_some_iff.1 hj).1
    have hcell := hat j hjl
    have hv : cs'[j]? = some (cs'[j]'(by omega)) := List.getElem?_eq_getElem (by omega)
    have h1 := hf j f hj
    rw [ho, hk] at h1
    have hone' : (cs'.drop j).take 1 = [cs'[j]'(by omega)] := by
      rw [List.drop_eq_getElem_cons (by omega)]
      rfl
    rw [hone'] at h1
    have hys : ys[j]? = some (ys[j]'(by omega)) := List.getElem?_eq_getElem (by omega)
    refine ⟨_, _, n', ?_, h1.trans hys⟩
    rw [← Go.Deep.add_add, hcell, hv]
end
open Go.ChangeShapes Go.WideShapes Go.ChangeAt Go.RowKit
theorem cell_off7 (w : World) (a : Addr) (i j : Nat) (v : Value) (hj : 1 ≤ j) (h : w.cell? (a.add (i * 7 + j)) = some v) : w.cell? ⟨(a.add (i * 7)).block, (a.add (i * 7)).off + j, none⟩ = some v := by
  rw [← h]
  obtain ⟨j', rfl⟩ : ∃ j', j = j' + 1 := ⟨j - 1, by omega⟩
  cases i with
  | zero => rw [Nat.zero_mul, Addr.add_zero', Nat.zero_add, Addr.add_succ']
  | succ i =>
    rw [show (i + 1) * 7 = (7 * i + 6) + 1 from by omega, Addr.add_succ', show 7 * i + 6 + 1 + (j' + 1) = (7 * i + 7 + j') + 1 from by omega, Addr.add_succ']
    show w.cell? ⟨a.block, a.off + (7 * i + 6 + 1) + (j' + 1), none⟩ = _
    rw [show a.off + (7 * i + 6 + 1) + (j' + 1) = a.off + (7 * i + 7 + j' + 1) from by omega]
theorem pick_fun {n : Nat} {α : Type} [Inhabited α] {P : Nat → α → Prop} (h : ∀ i, i < n → ∃ x, P i x) : ∃ f : Nat → α, ∀ i, i < n → P i (f i) :=
  ⟨fun i => if hi : i < n then Classical.choose (h i hi) else default, fun i hi => by
    simp only [dif_pos hi]
    exact Classical.choose_spec (h i hi)⟩
set_option maxRecDepth 100000 in
theorem open_ents {H : Type} {enc : TypeId × Value → H} {w : World} {base b0 : Nat} {r : Reach} {held : Bool} {v : Value} {d : DataW H} {p : List MemPlace}
    (hv : Value.okWide Try.prog w r b0 22 v) (h : DataW.Trod enc Try.prog w base (fun _ => true) held 22 v d p) :
    ∃ es : List Ent, EnsArg w v es ∧ ∀ x ∈ es, x.typed := by
  obtain ⟨m0, h⟩ := h
  have hone : ∀ z, v.cells.toList = [z] → v = z := by
    intro z hz
    cases v <;> simp [Value.cells] at hz <;> first | exact hz | (simp only [Value.okWide, Try.underlying22, Cell.okWide] at hv; simp_all [Cell.ok])
  rcases open_slice_cells Try.underlying22 Try.underlying41 (by kernel_rfl) (by kernel_rfl) h with e0 | ⟨a, len, cap, m', e0, hle, hlim, hm, hx⟩
  · exact ⟨[], ⟨none, 0, hone _ e0, fun h => absurd h (by simp)⟩, by simp⟩
  · have hmm : m' = cap := by simpa using hm
    have gi : ∀ (i j : Nat) (f : Field), f.type = 3 → (∃ (v : Value) (y : DataW H × List MemPlace) (n : Nat), w.cell? (a.add (i * 7 + j)) = some v ∧ DataW.trod enc Try.prog w base (fun _ => true) held n f.type [v] = some y) → ∃ z : Int, w.cell? (a.add (i * 7 + j)) = some (.int .i64 z) ∧ (Lit.int .i64 z).wf = true := by
      rintro i j f hft ⟨v, y, n, hc, ht⟩
      rw [hft] at ht
      obtain ⟨z, e, -, hw⟩ := DataW.trod_int Try.underlying3 ht
      obtain rfl := List.singleton_inj.1 e
      exact ⟨z, hc, hw⟩
    have key : ∀ i, i < len → ∃ x : Ent, Arg7 w (a.add (i * 7)) x ∧ x.typed := by
      intro i hi
      have hx' := hx i (by omega)
      obtain ⟨vs, y, n, hc, ht⟩ := hx' 0 _ rfl
      obtain ⟨s, e, -, hs⟩ := DataW.trod_string (t := 9) Try.underlying9 ht
      obtain rfl := List.singleton_inj.1 e
      obtain ⟨z1, c1, w1⟩ := gi i 1 _ rfl (hx' 1 _ rfl)
      obtain ⟨z2, c2, w2⟩ := gi i 2 _ rfl (hx' 2 _ rfl)
      obtain ⟨z3, c3, w3⟩ := gi i 3 _ rfl (hx' 3 _ rfl)
      obtain ⟨z4, c4, w4⟩ := gi i 4 _ rfl (hx' 4 _ rfl)
      obtain ⟨z5, c5, w5⟩ := gi i 5 _ rfl (hx' 5 _ rfl)
      obtain ⟨z6, c6, w6⟩ := gi i 6 _ rfl (hx' 6 _ rfl)
      refine ⟨⟨s, z1, z2, z3, z4, z5, z6⟩, ⟨hc, cell_off7 w a i 1 _ (by omega) c1, cell_off7 w a i 2 _ (by omega) c2, cell_off7 w a i 3 _ (by omega) c3, cell_off7 w a i 4 _ (by omega) c4, cell_off7 w a i 5 _ (by omega) c5, cell_off7 w a i 6 _ (by omega) c6⟩, ?_, ?_⟩
      · show (s.size : Int) ≤ 9223372036854775807
        unfold maxLen at hs
        omega
      · have := wf_i64 w2
        exact this
    obtain ⟨f, hf⟩ := pick_fun key
    refine ⟨(List.range len).map f, ⟨some a, cap, by simpa using hone _ e0, fun _ => ⟨a, rfl, fun i e he => ?_⟩⟩, fun x hxm => ?_⟩
    · rw [List.getElem?_map] at he
      by_cases hi : i < len
      · rw [List.getElem?_range hi] at he
        simp only [Option.map_some, Option.some.injEq] at he
        rw [← he]
        exact (hf i hi).1
      · rw [List.getElem?_eq_none (by simp; omega)] at he
        cases he
    · obtain ⟨i, hi, rfl⟩ := List.mem_map.1 hxm
      exact (hf i (List.mem_range.1 hi)).2
set_option maxRecDepth 100000 in
theorem open_ent {H : Type} {enc : TypeId × Value → H} {w : World} {base b0 : Nat} {r : Reach} {held : Bool} {v : Value} {d : DataW H} {p : List MemPlace}
    (hv : Value.okWide Try.prog w r b0 41 v) (h : DataW.Trod enc Try.prog w base (fun _ => true) held 41 v d p) :
    ∃ x : Ent, v = x.v ∧ x.typed := by
  obtain ⟨cs, rfl, hsz⟩ := okWide_struct Try.underlying41 hv
  obtain ⟨fuel, hf⟩ := h
  obtain ⟨ys, n', hn', hy, hlen, hyl, hfl⟩ := DataW.trod_struct Try.underlying41 hf
  obtain ⟨l⟩ := cs
  have hl7 : l.length = 7 := hsz.trans (by kernel_rfl)
  obtain ⟨c0, c1, c2, c3, c4, c5, c6, rfl⟩ : ∃ c0 c1 c2 c3 c4 c5 c6, l = [c0, c1, c2, c3, c4, c5, c6] := by
    clear hv hsz hf hlen hfl
    rcases l with _ | ⟨c0, _ | ⟨c1, _ | ⟨c2, _ | ⟨c3, _ | ⟨c4, _ | ⟨c5, _ | ⟨c6, _ | ⟨c7, r⟩⟩⟩⟩⟩⟩⟩⟩ <;> simp at hl7
    exact ⟨c0, c1, c2, c3, c4, c5, c6, rfl⟩
  have hcs : Try.prog.cellsOf 9 = 1 := by kernel_rfl
  have hci : Try.prog.cellsOf 3 = 1 := by kernel_rfl
  have hyl7 : ys.length = 7 := hyl
  have ysome : ∀ i, i < 7 → ∃ y, ys[i]? = some y := fun i hi => ⟨ys[i]'(by omega), by simp⟩
  have gi : ∀ (i : Nat) (c : Value), i < 7 → DataW.trod enc Try.prog w base (fun _ => true) held n' 3 [c] = ys[i]? → ∃ z : Int, c = .int .i64 z ∧ (Lit.int .i64 z).wf = true := by
    intro i c hi ht
    obtain ⟨y, hy⟩ := ysome i hi
    rw [hy] at ht
    obtain ⟨z, e, -, hw⟩ := DataW.trod_int Try.underlying3 ht
    exact ⟨z, List.singleton_inj.1 e, hw⟩
  have h0 := hfl 0 ⟨"Node", 9, 0, false, "", "", 0⟩ rfl
  have h1 := hfl 1 ⟨"Boot", 3, 1, false, "", "", 16⟩ rfl
  have h2 := hfl 2 ⟨"Seq", 3, 2, false, "", "", 24⟩ rfl
  have h3 := hfl 3 ⟨"Tenant", 3, 3, false, "", "", 32⟩ rfl
  have h4 := hfl 4 ⟨"Hits", 3, 4, false, "", "", 40⟩ rfl
  have h5 := hfl 5 ⟨"Bytes", 3, 5, false, "", "", 48⟩ rfl
  have h6 := hfl 6 ⟨"At", 3, 6, false, "", "", 56⟩ rfl
  dsimp only at h0 h1 h2 h3 h4 h5 h6
  rw [hcs] at h0
  rw [hci] at h1 h2 h3 h4 h5 h6
  obtain ⟨y0, hy0⟩ := ysome 0 (by omega)
  rw [hy0] at h0
  obtain ⟨s, e, -, hs⟩ := DataW.trod_string (t := 9) Try.underlying9 h0
  obtain rfl : c0 = .string s := List.singleton_inj.1 e
  obtain ⟨z1, rfl, w1⟩ := gi 1 c1 (by omega) h1
  obtain ⟨z2, rfl, w2⟩ := gi 2 c2 (by omega) h2
  obtain ⟨z3, rfl, w3⟩ := gi 3 c3 (by omega) h3
  obtain ⟨z4, rfl, w4⟩ := gi 4 c4 (by omega) h4
  obtain ⟨z5, rfl, w5⟩ := gi 5 c5 (by omega) h5
  obtain ⟨z6, rfl, w6⟩ := gi 6 c6 (by omega) h6
  refine ⟨⟨s, z1, z2, z3, z4, z5, z6⟩, rfl, ?_, wf_i64 w2⟩
  show (s.size : Int) ≤ 9223372036854775807
  unfold maxLen at hs
  omega
end Go.Proofs.Ytjdbhemojopnlaa
