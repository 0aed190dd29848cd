/- WholeRanges: the ranges and the bytes that come in. -/
import Derived.Test.YtlhnejcjeoecaaaGreatDoorWrG
import Derived.Test.YtlhnejcjeoecaaaGreatDoorLift
import Derived.Deep.Slices
import Derived.Deep.Fields
import Derived.Deep.DeepHandedRow
import Derived.ChangeSlices
namespace Go.Proofs.YtlhnejcjeoecaaaGreatDoor
section
open Go.ChangeShapes Go.WideShapes Go.Deep
variable {H : Type} {enc : TypeId × Value → H} {P : Program} {w : World} {base : Nat} {spare : Nat → Bool} {held : Bool}
theorem open_slice_cells {t e : TypeId} {fs : Array Field} {fuel : Nat} {cs : List Value} {x : DataW H × List MemPlace} (ht : P.underlying t = some (.slice e)) (he : P.underlying e = some (.struct fs))
    (hone : oneCellFields P fs = true) (hC : P.cellsOf e = fs.size) (h : DataW.trod enc P w base spare held fuel t cs = some x) :
    cs = [.slice none 0 0] ∨
    ∃ (a : Addr) (len cap m : Nat), cs = [.slice (some a) len cap] ∧ len ≤ cap ∧ cap ≤ maxLen ∧ m = (if spare a.block then cap else len) ∧
      ∀ i, i < m → ∀ (j : Nat) (f : Field), fs[j]? = some f → ∃ (v : Value) (y : DataW H × List MemPlace) (n : Nat), w.cell? (a.add (i * fs.size + j)) = some v ∧ DataW.trod enc P w base spare held n f.type [v] = some y := by
  rcases open_slice ht h with h0 | ⟨a, len, cap, m, n, D, Pl, hcs, hb, hl, hm, hmm, hx, hi⟩
  · exact .inl h0.1
  · refine .inr ⟨a, len, cap, m, hcs, hl, hm, hmm, fun i him j f hj => ?_⟩
    obtain ⟨cs', hc, ht'⟩ := hi i him
    rw [hC] at hc
    obtain ⟨ys, n', hn', hy, hlen, hyl, hf⟩ := DataW.trod_struct he ht'
    obtain ⟨_, hcl, hat⟩ := World.cells?_some hc
    obtain ⟨ho, hk⟩ := hone_of hone j f hj
    have hjl : j < fs.size := (Array.getElem?_eq_some_iff.1 hj).1
    have hcell := hat j hjl
    have hv : cs'[j]? = some (cs'[j]'(by omega)) := List.getElem?_eq_getElem (by omega)
    have h1 := hf j f hj
    rw [ho, hk] at h1
    have hone' : (cs'.drop j).take 1 = [cs'[j]'(by omega)] := by
      rw [List.drop_eq_getElem_cons (by omega)]
      rfl
    rw [hone'] at h1
    have hys : ys[j]? = some (ys[j]'(by omega)) := List.getElem?_eq_getElem (by omega)
    refine ⟨_, _, n', ?_, h1.trans hys⟩
    rw [← Go.Deep.add_add, hcell, hv]
end
open Go.ChangeShapes Go.WideShapes Go.ChangeAt Go.RowKit
theorem cell_off2 (w : World) (a : Addr) (i : Nat) (v : Value) (h : w.cell? (a.add (i * 2 + 1)) = some v) : w.cell? ⟨(a.add (i * 2)).block, (a.add (i * 2)).off + 1, none⟩ = some v := by
  rw [← h]
  cases i with
  | zero => rw [Nat.zero_mul, Addr.add_zero', Nat.zero_add, Addr.add_succ']
  | succ i =>
    rw [show (i + 1) * 2 = (2 * i + 1) + 1 from by omega, Addr.add_succ', Addr.add_succ']
    show w.cell? ⟨a.block, a.off + (2 * i + 1 + 1) + 1, none⟩ = _
    rw [show a.off + (2 * i + 1 + 1) + 1 = a.off + (2 * i + 1 + 1 + 1) from by omega]
theorem pick_fun {n : Nat} {α : Type} [Inhabited α] {P : Nat → α → Prop} (h : ∀ i, i < n → ∃ x, P i x) : ∃ f : Nat → α, ∀ i, i < n → P i (f i) :=
  ⟨fun i => if hi : i < n then Classical.choose (h i hi) else default, fun i hi => by
    simp only [dif_pos hi]
    exact Classical.choose_spec (h i hi)⟩
theorem range_get {α : Type} {f : Nat → α} {len i : Nat} {e : α} (he : ((List.range len).map f)[i]? = some e) : i < len ∧ f i = e := by
  rw [List.getElem?_map] at he
  by_cases hi : i < len
  · rw [List.getElem?_range hi] at he
    simp only [Option.map_some, Option.some.injEq] at he
    exact ⟨hi, he⟩
  · rw [List.getElem?_eq_none (by simp; omega)] at he
    cases he
set_option maxRecDepth 100000 in
theorem open_rngp {H : Type} {enc : TypeId × Value → H} {w : World} {base b0 : Nat} {r : Reach} {held : Bool} {v : Value} {d : DataW H} {p : List MemPlace}
    (hv : Value.okWide Tryz.prog w r b0 23 v) (h : DataW.Trod enc Tryz.prog w base (fun _ => true) held 23 v d p) :
    ∃ xs : List (Int × Int), RIn w v xs ∧ ∀ q ∈ xs, ((-9223372036854775808 ≤ q.1 ∧ q.1 ≤ 9223372036854775807) ∧ -9223372036854775808 ≤ q.2 ∧ q.2 ≤ 9223372036854775807) := by
  have hone : ∀ z, v.cells.toList = [z] → v = z := by
    intro z hz
    cases v <;> simp [Value.cells] at hz <;> first | exact hz | (simp only [Value.okWide, Tryz.underlying23, Cell.okWide] at hv; simp_all [Cell.ok])
  obtain ⟨m0, h⟩ := h
  rcases open_slice_cells Tryz.underlying23 Tryz.underlying27 (by kernel_rfl) (by kernel_rfl) h with e0 | ⟨a, len, cap, m', e0, hle, hlim, hm, hx⟩
  · exact ⟨[], ⟨none, 0, hone _ e0, Nat.le_refl _, fun h => absurd h (by simp)⟩, by simp⟩
  · have hmm : m' = cap := by simpa using hm
    have gi : ∀ (i j : Nat) (f : Field), f.type = 3 → (∃ (v : Value) (y : DataW H × List MemPlace) (n : Nat), w.cell? (a.add (i * 2 + j)) = some v ∧ DataW.trod enc Tryz.prog w base (fun _ => true) held n f.type [v] = some y) → ∃ z : Int, w.cell? (a.add (i * 2 + j)) = some (.int .i64 z) ∧ (Lit.int .i64 z).wf = true := by
      rintro i j f hft ⟨v, y, n, hc, ht⟩
      rw [hft] at ht
      obtain ⟨z, e, -, hw⟩ := DataW.trod_int Tryz.underlying3 ht
      obtain rfl := List.singleton_inj.1 e
      exact ⟨z, hc, hw⟩
    have key : ∀ i, i < len → ∃ x : Int × Int, (w.cell? (a.add (i * 2)) = some (.int .i64 x.1) ∧ w.cell? ⟨(a.add (i * 2)).block, (a.add (i * 2)).off + 1, none⟩ = some (.int .i64 x.2)) ∧ ((-9223372036854775808 ≤ x.1 ∧ x.1 ≤ 9223372036854775807) ∧ -9223372036854775808 ≤ x.2 ∧ x.2 ≤ 9223372036854775807) := by
      intro i hi
      have hx' := hx i (by omega)
      obtain ⟨z0, c0, w0⟩ := gi i 0 _ rfl (hx' 0 _ rfl)
      obtain ⟨z1, c1, w1⟩ := gi i 1 _ rfl (hx' 1 _ rfl)
      exact ⟨(z0, z1), ⟨c0, cell_off2 w a i _ c1⟩, wf_i64 w0, wf_i64 w1⟩
    obtain ⟨f, hf⟩ := pick_fun key
    refine ⟨(List.range len).map f, ⟨some a, cap, by simpa using hone _ e0, by simpa using hle, fun _ => ⟨a, rfl, fun i e he => ?_⟩⟩, fun x hxm => ?_⟩
    · obtain ⟨hi, rfl⟩ := range_get he
      exact (hf i hi).1
    · obtain ⟨i, hi, rfl⟩ := List.mem_map.1 hxm
      exact (hf i (List.mem_range.1 hi)).2
section
open Go.Deep
set_option maxRecDepth 100000 in
theorem open_u8p {H : Type} {enc : TypeId × Value → H} {w : World} {base b0 : Nat} {r : Reach} {held : Bool} {v : Value} {d : DataW H} {p : List MemPlace}
    (hv : Value.okWide Tryz.prog w r b0 22 v) (h : DataW.Trod enc Tryz.prog w base (fun _ => true) held 22 v d p) :
    ∃ xs : List Nat, (∃ A cap, v = .slice A xs.length cap ∧ xs.length ≤ cap ∧ (0 < xs.length → ∃ a, A = some a ∧ ∀ i x, xs[i]? = some x → w.cell? (a.add i) = some (.int .u8 (x : Nat)))) ∧ ∀ x ∈ xs, x < 256 := by
  obtain ⟨m0, h⟩ := h
  have hone : ∀ z, v.cells.toList = [z] → v = z := by
    intro z hz
    cases v <;> simp [Value.cells] at hz <;> first | exact hz | (simp only [Value.okWide, Tryz.underlying22, Cell.okWide] at hv; simp_all [Cell.ok])
  rcases open_ints Tryz.underlying22 Tryz.underlying5 (by kernel_rfl) h with ⟨e0, -⟩ | ⟨a, len, cap, zs, e0, -, hle, hlim, hm, -, hx, hwf⟩
  · exact ⟨[], ⟨none, 0, hone _ e0, Nat.le_refl _, fun h => absurd h (by simp)⟩, by simp⟩
  · have hmm : zs.length = cap := by simpa using hm
    refine ⟨(zs.take len).map Int.toNat, ⟨some a, cap, ?_, ?_, fun _ => ⟨a, rfl, fun i x hi => ?_⟩⟩, fun x hxm => ?_⟩
    · rw [List.length_map, List.length_take, Nat.min_eq_left (by omega)]
      exact hone _ e0
    · rw [List.length_map, List.length_take]
      omega
    · rw [List.getElem?_map] at hi
      obtain ⟨y, hy, rfl⟩ := Option.map_eq_some_iff.1 hi
      obtain ⟨h1, h2⟩ := List.getElem?_eq_some_iff.1 hy
      rw [List.length_take] at h1
      have h3 : zs[i]? = some y := by rw [← hy, List.getElem?_take_of_lt (by omega)]
      have h4 := wf_u8 (hwf y (List.mem_of_getElem? h3))
      rw [hx i (by omega)]
      simp only [List.getD, h3, Option.getD_some, Int.toNat_of_nonneg h4.1]
    · obtain ⟨y, hy, rfl⟩ := List.mem_map.1 hxm
      have h1 := wf_u8 (hwf y (List.mem_of_mem_take hy))
      omega
set_option maxRecDepth 100000 in
theorem open_body {H : Type} {enc : TypeId × Value → H} {w : World} {base b0 : Nat} {r : Reach} {held : Bool} {v : Value} {d : DataW H} {p : List MemPlace}
    (hv : Value.okWide Tryz.prog w r b0 22 v) (h : DataW.Trod enc Tryz.prog w base (fun _ => true) held 22 v d p) : ∃ t : ByteArray, BIn w v t := by
  obtain ⟨xs, ⟨A, cap, rfl, hc, hr⟩, hx⟩ := open_u8p hv h
  have hz : (⟨(xs.map UInt8.ofNat).toArray⟩ : ByteArray).size = xs.length := by
    show (xs.map UInt8.ofNat).toArray.size = xs.length
    simp
  refine ⟨⟨(xs.map UInt8.ofNat).toArray⟩, A, cap, by rw [hz], by rw [hz]; exact hc, fun h0 => ?_⟩
  rw [hz] at h0
  obtain ⟨a, rfl, hg⟩ := hr h0
  have h1 := hg 0 _ (List.getElem?_eq_getElem h0)
  rw [Addr.add_zero'] at h1
  have hp := Lib.plain_of_cell h1
  refine ⟨a.block, a.off, by rw [← hp], World.block_lt_of_cell? w _ h1, fun i hi => ?_⟩
  rw [hz] at hi
  have h2 := hg i _ (List.getElem?_eq_getElem hi)
  rw [hp, Addr.add_lit] at h2
  rw [h2]
  have h3 := hx _ (List.getElem_mem hi)
  unfold P20.byteIs
  rw [List.getD_eq_getElem?_getD, List.getElem?_map]
  simp only [List.getElem?_map, List.getElem?_eq_getElem hi, Option.map_some, Option.getD_some, UInt8.toNat_ofNat']
  rw [Nat.mod_eq_of_lt (by omega)]
set_option maxRecDepth 100000 in
theorem open_cs {H : Type} {enc : TypeId × Value → H} {w : World} {base b0 : Nat} {r : Reach} {held : Bool} {v : Value} {d : DataW H} {p : List MemPlace}
    (hv : Value.okWide Tryz.prog w r b0 22 v) (h : DataW.Trod enc Tryz.prog w base (fun _ => true) held 22 v d p) : ∃ xs : List Nat, CIn w v xs ∧ ∀ x ∈ xs, x < 256 := by
  obtain ⟨xs, h1, h2⟩ := open_u8p hv h
  exact ⟨xs, h1, h2⟩
end
end Go.Proofs.YtlhnejcjeoecaaaGreatDoor
