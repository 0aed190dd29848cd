/- Chapter 20: PiecesPlay, at an integer and a slice of acts that comes in. -/
import Derived.Test.YtfjpaacanoocmaaPf6
import Derived.Test.YtfjpaacanoocmaaLift
import Derived.Deep.Slices
import Derived.Deep.Fields
import Derived.Deep.DeepHandedRow
namespace Go.Proofs.Ytfjpaacanoocmaa
section
open Go.ChangeShapes Go.WideShapes Go.Deep
variable {H : Type} {enc : TypeId × Value → H} {P : Program} {w : World} {base : Nat} {spare : Nat → Bool} {held : Bool}
theorem open_slice_cells {t e : TypeId} {fs : Array Field} {fuel : Nat} {cs : List Value} {x : DataW H × List MemPlace} (ht : P.underlying t = some (.slice e)) (he : P.underlying e = some (.struct fs))
    (hone : oneCellFields P fs = true) (hC : P.cellsOf e = fs.size) (h : DataW.trod enc P w base spare held fuel t cs = some x) :
    cs = [.slice none 0 0] ∨
    ∃ (a : Addr) (len cap m : Nat), cs = [.slice (some a) len cap] ∧ len ≤ cap ∧ cap ≤ maxLen ∧ m = (if spare a.block then cap else len) ∧
      ∀ i, i < m → ∀ (j : Nat) (f : Field), fs[j]? = some f → ∃ (v : Value) (y : DataW H × List MemPlace) (n : Nat), w.cell? (a.add (i * fs.size + j)) = some v ∧ DataW.trod enc P w base spare held n f.type [v] = some y := by
  rcases open_slice ht h with h0 | ⟨a, len, cap, m, n, D, Pl, hcs, hb, hl, hm, hmm, hx, hi⟩
  · exact .inl h0.1
  · refine .inr ⟨a, len, cap, m, hcs, hl, hm, hmm, fun i him j f hj => ?_⟩
    obtain ⟨cs', hc, ht'⟩ := hi i him
    rw [hC] at hc
    obtain ⟨ys, n', hn', hy, hlen, hyl, hf⟩ := DataW.trod_struct he ht'
    obtain ⟨_, hcl, hat⟩ := World.cells?_some hc
    obtain ⟨ho, hk⟩ := hone_of hone j f hj
    have hjl : j < fs.size := (Array.getElem?_eq_some_iff.1 hj).1
    have hcell := hat j hjl
    have hv : cs'[j]? = some (cs'[j]'(by omega)) := List.getElem?_eq_getElem (by omega)
    have h1 := hf j f hj
    rw [ho, hk] at h1
    have hone' : (cs'.drop j).take 1 = [cs'[j]'(by omega)] := by
      rw [List.drop_eq_getElem_cons (by omega)]
      rfl
    rw [hone'] at h1
    have hys : ys[j]? = some (ys[j]'(by omega)) := List.getElem?_eq_getElem (by omega)
    refine ⟨_, _, n', ?_, h1.trans hys⟩
    rw [← Go.Deep.add_add, hcell, hv]
end
open Go.ChangeShapes Go.WideShapes Go.ChangeAt Go.RowKit
def intOfW (v : Value) : Int := match v with | .int _ n => n | _ => 0
theorem cell_off (w : World) (a : Addr) (i j : Nat) (v : Value) (hj : 1 ≤ j) (h : w.cell? (a.add (i * 5 + j)) = some v) : w.cell? ⟨(a.add (i * 5)).block, (a.add (i * 5)).off + j, none⟩ = some v := by
  rw [← h]
  obtain ⟨j', rfl⟩ : ∃ j', j = j' + 1 := ⟨j - 1, by omega⟩
  cases i with
  | zero => rw [Nat.zero_mul, Addr.add_zero', Nat.zero_add, Addr.add_succ']
  | succ i =>
    rw [show (i + 1) * 5 = (5 * i + 4) + 1 from by omega, Addr.add_succ', show 5 * i + 4 + 1 + (j' + 1) = (5 * i + 5 + j') + 1 from by omega, Addr.add_succ']
    show w.cell? ⟨a.block, a.off + (5 * i + 4 + 1) + (j' + 1), none⟩ = _
    rw [show a.off + (5 * i + 4 + 1) + (j' + 1) = a.off + (5 * i + 5 + j' + 1) from by omega]
set_option maxRecDepth 100000 in
theorem open_acts {H : Type} {enc : TypeId × Value → H} {w : World} {base b0 : Nat} {r : Reach} {held : Bool} {v : Value} {d : DataW H} {p : List MemPlace}
    (hv : Value.okWide Try.prog w r b0 57 v) (h : DataW.Trod enc Try.prog w base (fun _ => true) held 57 v d p) :
    ∃ (q : Option Addr) (n cap : Nat) (K O : Nat → Nat) (I N M : Nat → Int), v = .slice q n cap ∧ Acts w q n cap K O I N M := by
  obtain ⟨m0, h⟩ := h
  have hone : ∀ z, v.cells.toList = [z] → v = z := by
    intro z hz
    cases v <;> simp [Value.cells] at hz <;> first | exact hz | (simp only [Value.okWide, Try.underlying57, Cell.okWide] at hv; simp_all [Cell.ok])
  rcases open_slice_cells Try.underlying57 Try.underlying62 (by kernel_rfl) (by kernel_rfl) h with e0 | ⟨a, len, cap, m', e0, hle, hlim, hm, hx⟩
  · exact ⟨none, 0, 0, fun _ => 0, fun _ => 0, fun _ => 0, fun _ => 0, fun _ => 0, hone _ e0, ⟨Nat.le_refl _, by decide, fun i hi => by omega, fun i hi => by omega⟩⟩
  · have hmm : m' = cap := by simpa using hm
    have go8 : ∀ (i j : Nat) (f : Field), f.type = 5 → (∃ (v : Value) (y : DataW H × List MemPlace) (n : Nat), w.cell? (a.add (i * 5 + j)) = some v ∧ DataW.trod enc Try.prog w base (fun _ => true) held n f.type [v] = some y) → ∃ z : Nat, w.cell? (a.add (i * 5 + j)) = some (.int .u8 z) ∧ z < 256 := by
      rintro i j f hft ⟨v, y, n, hc, ht⟩
      rw [hft] at ht
      obtain ⟨z, e, -, hw⟩ := DataW.trod_int Try.underlying5 ht
      obtain rfl := List.singleton_inj.1 e
      have hw2 := wf_u8 hw
      exact ⟨z.toNat, by rw [Int.toNat_of_nonneg hw2.1]; exact hc, by omega⟩
    have go : ∀ (i j : Nat) (f : Field), f.type = 3 → (∃ (v : Value) (y : DataW H × List MemPlace) (n : Nat), w.cell? (a.add (i * 5 + j)) = some v ∧ DataW.trod enc Try.prog w base (fun _ => true) held n f.type [v] = some y) → ∃ z : Int, w.cell? (a.add (i * 5 + j)) = some (.int .i64 z) ∧ okZ z := by
      rintro i j f hft ⟨v, y, n, hc, ht⟩
      rw [hft] at ht
      obtain ⟨z, e, -, hw⟩ := DataW.trod_int Try.underlying3 ht
      obtain rfl := List.singleton_inj.1 e
      exact ⟨z, hc, wf_i64 hw⟩
    have k8 : ∀ i, i < len → ∀ j, j < 2 → ∃ z : Nat, w.cell? (a.add (i * 5 + j)) = some (.int .u8 z) ∧ z < 256 := by
      intro i hi j hj
      match j, hj with
      | 0, _ => exact go8 i 0 _ rfl (hx i (by omega) 0 _ rfl)
      | 1, _ => exact go8 i 1 _ rfl (hx i (by omega) 1 _ rfl)
    have k64 : ∀ i, i < len → ∀ j, j < 3 → ∃ z : Int, w.cell? (a.add (i * 5 + (j + 2))) = some (.int .i64 z) ∧ okZ z := by
      intro i hi j hj
      match j, hj with
      | 0, _ => exact go i 2 _ rfl (hx i (by omega) 2 _ rfl)
      | 1, _ => exact go i 3 _ rfl (hx i (by omega) 3 _ rfl)
      | 2, _ => exact go i 4 _ rfl (hx i (by omega) 4 _ rfl)
    have c8 : ∀ i, i < len → ∀ j, j < 2 → w.cell? (a.add (i * 5 + j)) = some (.int .u8 (((intOfW ((w.cell? (a.add (i * 5 + j))).getD (.int .u8 0))).toNat : Nat) : Int)) ∧ (intOfW ((w.cell? (a.add (i * 5 + j))).getD (.int .u8 0))).toNat < 256 := by
      intro i hi j hj
      obtain ⟨z, hz, ho⟩ := k8 i hi j hj
      rw [hz]
      exact ⟨by simp [intOfW], by simpa [intOfW] using ho⟩
    have c64 : ∀ i, i < len → ∀ j, j < 3 → w.cell? (a.add (i * 5 + (j + 2))) = some (.int .i64 (intOfW ((w.cell? (a.add (i * 5 + (j + 2)))).getD (.int .i64 0)))) ∧ okZ (intOfW ((w.cell? (a.add (i * 5 + (j + 2)))).getD (.int .i64 0))) := by
      intro i hi j hj
      obtain ⟨z, hz, ho⟩ := k64 i hi j hj
      rw [hz]
      exact ⟨rfl, ho⟩
    refine ⟨some a, len, cap, fun i => (intOfW ((w.cell? (a.add (i * 5 + 0))).getD (.int .u8 0))).toNat, fun i => (intOfW ((w.cell? (a.add (i * 5 + 1))).getD (.int .u8 0))).toNat, fun i => intOfW ((w.cell? (a.add (i * 5 + (0 + 2)))).getD (.int .i64 0)), fun i => intOfW ((w.cell? (a.add (i * 5 + (1 + 2)))).getD (.int .i64 0)), fun i => intOfW ((w.cell? (a.add (i * 5 + (2 + 2)))).getD (.int .i64 0)), hone _ e0, ⟨hle, by unfold maxLen at hlim; omega, fun i hi => ?_, fun i hi => ?_⟩⟩
    · exact ⟨a, rfl, (c8 i hi 0 (by omega)).1, cell_off w a i 1 _ (by omega) (c8 i hi 1 (by omega)).1, cell_off w a i 2 _ (by omega) (c64 i hi 0 (by omega)).1, cell_off w a i 3 _ (by omega) (c64 i hi 1 (by omega)).1, cell_off w a i 4 _ (by omega) (c64 i hi 2 (by omega)).1⟩
    · exact ⟨(c8 i hi 0 (by omega)).2, (c8 i hi 1 (by omega)).2, (c64 i hi 0 (by omega)).2, (c64 i hi 1 (by omega)).2, (c64 i hi 2 (by omega)).2⟩
theorem play_lawI (x : Int) (hx : 0 ≤ x ∧ x ≤ 65535) (q : Option Addr) (n cap : Nat) (K O : Nat → Nat) (I N M : Nat → Int) (w : World) (ha : Acts w q n cap K O I N M) :
    Calls Try.prog 6 #[.int .u16 x, .slice q n cap] w fun e w' => e = .returned (.bool true) ∧ Ext w w' := by
  have := play_law x.toNat (by omega) q n cap K O I N M w ha
  rwa [Int.toNat_of_nonneg hx.1] at this
end Go.Proofs.Ytfjpaacanoocmaa
