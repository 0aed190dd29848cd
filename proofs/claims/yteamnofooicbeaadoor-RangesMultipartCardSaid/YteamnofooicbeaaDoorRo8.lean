/- Chapter 09: slices of ranges, and of pairs of bytes, that come in. -/
import Derived.Test.YteamnofooicbeaaDoorRmF
import Derived.Test.YteamnofooicbeaaDoorLift
import Derived.Deep.Slices
import Derived.Deep.Fields
import Derived.Deep.DeepHandedRow
namespace Go.Proofs.YteamnofooicbeaaDoor
section
open Go.ChangeShapes Go.WideShapes Go.Deep
variable {H : Type} {enc : TypeId × Value → H} {P : Program} {w : World} {base : Nat} {spare : Nat → Bool} {held : Bool}
theorem open_slice_cells {t e : TypeId} {fs : Array Field} {fuel : Nat} {cs : List Value} {x : DataW H × List MemPlace} (ht : P.underlying t = some (.slice e)) (he : P.underlying e = some (.struct fs))
    (hone : oneCellFields P fs = true) (hC : P.cellsOf e = fs.size) (h : DataW.trod enc P w base spare held fuel t cs = some x) :
    cs = [.slice none 0 0] ∨
    ∃ (a : Addr) (len cap m : Nat), cs = [.slice (some a) len cap] ∧ len ≤ cap ∧ cap ≤ maxLen ∧ m = (if spare a.block then cap else len) ∧
      ∀ i, i < m → ∀ (j : Nat) (f : Field), fs[j]? = some f → ∃ (v : Value) (y : DataW H × List MemPlace) (n : Nat), w.cell? (a.add (i * fs.size + j)) = some v ∧ DataW.trod enc P w base spare held n f.type [v] = some y := by
  rcases open_slice ht h with h0 | ⟨a, len, cap, m, n, D, Pl, hcs, hb, hl, hm, hmm, hx, hi⟩
  · exact .inl h0.1
  · refine .inr ⟨a, len, cap, m, hcs, hl, hm, hmm, fun i him j f hj => ?_⟩
    obtain ⟨cs', hc, ht'⟩ := hi i him
    rw [hC] at hc
    obtain ⟨ys, n', hn', hy, hlen, hyl, hf⟩ := DataW.trod_struct he ht'
    obtain ⟨_, hcl, hat⟩ := World.cells?_some hc
    obtain ⟨ho, hk⟩ := hone_of hone j f hj
    have hjl : j < fs.size := (Array.getElem?_eq_some_iff.1 hj).1
    have hcell := hat j hjl
    have hv : cs'[j]? = some (cs'[j]'(by omega)) := List.getElem?_eq_getElem (by omega)
    have h1 := hf j f hj
    rw [ho, hk] at h1
    have hone' : (cs'.drop j).take 1 = [cs'[j]'(by omega)] := by
      rw [List.drop_eq_getElem_cons (by omega)]
      rfl
    rw [hone'] at h1
    have hys : ys[j]? = some (ys[j]'(by omega)) := List.getElem?_eq_getElem (by omega)
    refine ⟨_, _, n', ?_, h1.trans hys⟩
    rw [← Go.Deep.add_add, hcell, hv]
theorem open_slice_two {t e k : TypeId} {fuel : Nat} {cs : List Value} {x : DataW H × List MemPlace} (ht : P.underlying t = some (.slice e)) (he : P.underlying e = some (.array 2 k))
    (hC : P.cellsOf e = 2) (hk : P.cellsOf k = 1) (h : DataW.trod enc P w base spare held fuel t cs = some x) :
    cs = [.slice none 0 0] ∨
    ∃ (a : Addr) (len cap m : Nat), cs = [.slice (some a) len cap] ∧ len ≤ cap ∧ cap ≤ maxLen ∧ m = (if spare a.block then cap else len) ∧
      ∀ i, i < m → ∀ j, j < 2 → ∃ (v : Value) (y : DataW H × List MemPlace) (n : Nat), w.cell? (a.add (i * 2 + j)) = some v ∧ DataW.trod enc P w base spare held n k [v] = some y := by
  rcases open_slice ht h with h0 | ⟨a, len, cap, m, n, D, Pl, hcs, hb, hl, hm, hmm, hx, hi⟩
  · exact .inl h0.1
  · refine .inr ⟨a, len, cap, m, hcs, hl, hm, hmm, fun i him j hj => ?_⟩
    obtain ⟨cs', hc, ht'⟩ := hi i him
    rw [hC] at hc
    obtain ⟨xs, n', _, _, _, hxl, hall⟩ := DataW.trod_array he ht'
    obtain ⟨_, hcl, hat⟩ := World.cells?_some hc
    have hcell := hat j hj
    have hv : cs'[j]? = some (cs'[j]'(by omega)) := List.getElem?_eq_getElem (by omega)
    have h1 := hall j hj
    rw [hk] at h1
    have hone' : (cs'.drop (j * 1)).take 1 = [cs'[j]'(by omega)] := by
      rw [Nat.mul_one, List.drop_eq_getElem_cons (by omega)]
      rfl
    rw [hone'] at h1
    have hys : xs[j]? = some (xs[j]'(by omega)) := List.getElem?_eq_getElem (by omega)
    refine ⟨_, _, n', ?_, h1.trans hys⟩
    rw [← Go.Deep.add_add, hcell, hv]
end
open Go.ChangeShapes Go.WideShapes Go.ChangeAt Go.RowKit
theorem cell_off2 (w : World) (a : Addr) (i : Nat) (v : Value) (h : w.cell? (a.add (i * 2 + 1)) = some v) : w.cell? ⟨(a.add (i * 2)).block, (a.add (i * 2)).off + 1, none⟩ = some v := by
  rw [← h]
  cases i with
  | zero => rw [Nat.zero_mul, Addr.add_zero', Nat.zero_add, Addr.add_succ']
  | succ i =>
    rw [show (i + 1) * 2 = (2 * i + 1) + 1 from by omega, Addr.add_succ', Addr.add_succ']
    show w.cell? ⟨a.block, a.off + (2 * i + 1 + 1) + 1, none⟩ = _
    rw [show a.off + (2 * i + 1 + 1) + 1 = a.off + (2 * i + 1 + 1 + 1) from by omega]
theorem pick_fun {n : Nat} {α : Type} [Inhabited α] {P : Nat → α → Prop} (h : ∀ i, i < n → ∃ x, P i x) : ∃ f : Nat → α, ∀ i, i < n → P i (f i) :=
  ⟨fun i => if hi : i < n then Classical.choose (h i hi) else default, fun i hi => by
    simp only [dif_pos hi]
    exact Classical.choose_spec (h i hi)⟩
theorem range_get {α : Type} {f : Nat → α} {len i : Nat} {e : α} (he : ((List.range len).map f)[i]? = some e) : i < len ∧ f i = e := by
  rw [List.getElem?_map] at he
  by_cases hi : i < len
  · rw [List.getElem?_range hi] at he
    simp only [Option.map_some, Option.some.injEq] at he
    exact ⟨hi, he⟩
  · rw [List.getElem?_eq_none (by simp; omega)] at he
    cases he
set_option maxRecDepth 100000 in
theorem open_rngs {H : Type} {enc : TypeId × Value → H} {w : World} {base b0 : Nat} {r : Reach} {held : Bool} {v : Value} {d : DataW H} {p : List MemPlace}
    (hv : Value.okWide Tryd.prog w r b0 28 v) (h : DataW.Trod enc Tryd.prog w base (fun _ => true) held 28 v d p) :
    ∃ xs : List (Int × Int), RIn w v xs ∧ ∀ q ∈ xs, ((-9223372036854775808 ≤ q.1 ∧ q.1 ≤ 9223372036854775807) ∧ -9223372036854775808 ≤ q.2 ∧ q.2 ≤ 9223372036854775807) := by
  have hone : ∀ z, v.cells.toList = [z] → v = z := by
    intro z hz
    cases v <;> simp [Value.cells] at hz <;> first | exact hz | (simp only [Value.okWide, Tryd.underlying28, Cell.okWide] at hv; simp_all [Cell.ok])
  obtain ⟨m0, h⟩ := h
  rcases open_slice_cells Tryd.underlying28 Tryd.underlying43 (by kernel_rfl) (by kernel_rfl) h with e0 | ⟨a, len, cap, m', e0, hle, hlim, hm, hx⟩
  · exact ⟨[], ⟨none, 0, hone _ e0, Nat.le_refl _, fun h => absurd h (by simp)⟩, by simp⟩
  · have hmm : m' = cap := by simpa using hm
    have gi : ∀ (i j : Nat) (f : Field), f.type = 3 → (∃ (v : Value) (y : DataW H × List MemPlace) (n : Nat), w.cell? (a.add (i * 2 + j)) = some v ∧ DataW.trod enc Tryd.prog w base (fun _ => true) held n f.type [v] = some y) → ∃ z : Int, w.cell? (a.add (i * 2 + j)) = some (.int .i64 z) ∧ (Lit.int .i64 z).wf = true := by
      rintro i j f hft ⟨v, y, n, hc, ht⟩
      rw [hft] at ht
      obtain ⟨z, e, -, hw⟩ := DataW.trod_int Tryd.underlying3 ht
      obtain rfl := List.singleton_inj.1 e
      exact ⟨z, hc, hw⟩
    have key : ∀ i, i < len → ∃ x : Int × Int, (w.cell? (a.add (i * 2)) = some (.int .i64 x.1) ∧ w.cell? ⟨(a.add (i * 2)).block, (a.add (i * 2)).off + 1, none⟩ = some (.int .i64 x.2)) ∧ ((-9223372036854775808 ≤ x.1 ∧ x.1 ≤ 9223372036854775807) ∧ -9223372036854775808 ≤ x.2 ∧ x.2 ≤ 9223372036854775807) := by
      intro i hi
      have hx' := hx i (by omega)
      obtain ⟨z0, c0, w0⟩ := gi i 0 _ rfl (hx' 0 _ rfl)
      obtain ⟨z1, c1, w1⟩ := gi i 1 _ rfl (hx' 1 _ rfl)
      exact ⟨(z0, z1), ⟨c0, cell_off2 w a i _ c1⟩, wf_i64 w0, wf_i64 w1⟩
    obtain ⟨f, hf⟩ := pick_fun key
    refine ⟨(List.range len).map f, ⟨some a, cap, by simpa using hone _ e0, by simpa using hle, fun _ => ⟨a, rfl, fun i e he => ?_⟩⟩, fun x hxm => ?_⟩
    · obtain ⟨hi, rfl⟩ := range_get he
      exact (hf i hi).1
    · obtain ⟨i, hi, rfl⟩ := List.mem_map.1 hxm
      exact (hf i (List.mem_range.1 hi)).2
set_option maxRecDepth 100000 in
theorem open_p8 {H : Type} {enc : TypeId × Value → H} {w : World} {base b0 : Nat} {r : Reach} {held : Bool} {v : Value} {d : DataW H} {p : List MemPlace}
    (hv : Value.okWide Tryd.prog w r b0 72 v) (h : DataW.Trod enc Tryd.prog w base (fun _ => true) held 72 v d p) :
    ∃ xs : List (Nat × Nat), P8 w v xs ∧ ∀ q ∈ xs, q.1 < 256 ∧ q.2 < 256 := by
  have hone : ∀ z, v.cells.toList = [z] → v = z := by
    intro z hz
    cases v <;> simp [Value.cells] at hz <;> first | exact hz | (simp only [Value.okWide, Tryd.underlying72, Cell.okWide] at hv; simp_all [Cell.ok])
  obtain ⟨m0, h⟩ := h
  rcases open_slice_two Tryd.underlying72 Tryd.underlying73 (by kernel_rfl) (by kernel_rfl) h with e0 | ⟨a, len, cap, m', e0, hle, hlim, hm, hx⟩
  · exact ⟨[], ⟨none, 0, hone _ e0, Nat.le_refl _, fun h => absurd h (by simp)⟩, by simp⟩
  · have hmm : m' = cap := by simpa using hm
    have gi : ∀ (i j : Nat), (∃ (v : Value) (y : DataW H × List MemPlace) (n : Nat), w.cell? (a.add (i * 2 + j)) = some v ∧ DataW.trod enc Tryd.prog w base (fun _ => true) held n 5 [v] = some y) → ∃ z : Nat, w.cell? (a.add (i * 2 + j)) = some (.int .u8 z) ∧ z < 256 := by
      rintro i j ⟨v, y, n, hc, ht⟩
      obtain ⟨z, e, -, hw⟩ := DataW.trod_int Tryd.underlying5 ht
      obtain rfl := List.singleton_inj.1 e
      have h8 := wf_u8 hw
      refine ⟨z.toNat, ?_, by omega⟩
      rw [hc, show ((z.toNat : Nat) : Int) = z by omega]
    have key : ∀ i, i < len → ∃ x : Nat × Nat, (w.cell? (a.add (i * 2)) = some (.int .u8 x.1) ∧ w.cell? ⟨(a.add (i * 2)).block, (a.add (i * 2)).off + 1, none⟩ = some (.int .u8 x.2)) ∧ x.1 < 256 ∧ x.2 < 256 := by
      intro i hi
      have hx' := hx i (by omega)
      obtain ⟨z0, c0, w0⟩ := gi i 0 (hx' 0 (by omega))
      obtain ⟨z1, c1, w1⟩ := gi i 1 (hx' 1 (by omega))
      exact ⟨(z0, z1), ⟨c0, cell_off2 w a i _ c1⟩, w0, w1⟩
    obtain ⟨f, hf⟩ := pick_fun key
    refine ⟨(List.range len).map f, ⟨some a, cap, by simpa using hone _ e0, by simpa using hle, fun _ => ⟨a, rfl, fun i e he => ?_⟩⟩, fun x hxm => ?_⟩
    · obtain ⟨hi, rfl⟩ := range_get he
      exact (hf i hi).1
    · obtain ⟨i, hi, rfl⟩ := List.mem_map.1 hxm
      exact (hf i (List.mem_range.1 hi)).2
theorem covers_lawI {w : World} {v : Value} {xs : List (Nat × Nat)} (h : P8 w v xs) (hP : ∀ p ∈ xs, p.1 < 256 ∧ p.2 < 256) (x y : Int) (hx : 0 ≤ x ∧ x ≤ 255) (hy : 0 ≤ y ∧ y ≤ 255) (hM : MaxL w) :
    Calls Tryd.prog 9 #[v, .agg #[.int .u8 x, .int .u8 y]] w fun e w' => e = .returned (.bool true) ∧ Ext w w' := by
  obtain ⟨r0, rfl⟩ : ∃ r : Nat, x = (r : Int) := ⟨x.toNat, by omega⟩
  obtain ⟨r1, rfl⟩ : ∃ r : Nat, y = (r : Int) := ⟨y.toNat, by omega⟩
  exact covers_law h hP r0 r1 (by omega) (by omega) hM
end Go.Proofs.YteamnofooicbeaaDoor
