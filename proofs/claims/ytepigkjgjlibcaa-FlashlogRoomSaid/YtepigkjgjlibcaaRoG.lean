/- Chapter 23: sizes, acts and lists of acts that come in. -/
import Derived.Test.YtepigkjgjlibcaaHlC
import Derived.Test.YtepigkjgjlibcaaRoF
import Derived.Deep.Fields
import Derived.Deep.DeepHandedRow
namespace Go.Proofs.Ytepigkjgjlibcaa
section
open Go.ChangeShapes Go.WideShapes Go.Deep
variable {H : Type} {enc : TypeId × Value → H} {P : Program} {w : World} {base : Nat} {spare : Nat → Bool} {held : Bool}
theorem open_slice_cells23 {t e : TypeId} {fs : Array Field} {fuel : Nat} {cs : List Value} {x : DataW H × List MemPlace} (ht : P.underlying t = some (.slice e)) (he : P.underlying e = some (.struct fs))
    (hone : oneCellFields P fs = true) (hC : P.cellsOf e = fs.size) (h : DataW.trod enc P w base spare held fuel t cs = some x) :
    cs = [.slice none 0 0] ∨
    ∃ (a : Addr) (len cap m : Nat), cs = [.slice (some a) len cap] ∧ len ≤ cap ∧ cap ≤ maxLen ∧ m = (if spare a.block then cap else len) ∧
      ∀ i, i < m → ∀ (j : Nat) (f : Field), fs[j]? = some f → ∃ (v : Value) (y : DataW H × List MemPlace) (n : Nat), w.cell? (a.add (i * fs.size + j)) = some v ∧ DataW.trod enc P w base spare held n f.type [v] = some y := by
  rcases open_slice ht h with h0 | ⟨a, len, cap, m, n, D, Pl, hcs, hb, hl, hm, hmm, hx, hi⟩
  · exact .inl h0.1
  · refine .inr ⟨a, len, cap, m, hcs, hl, hm, hmm, fun i him j f hj => ?_⟩
    obtain ⟨cs', hc, ht'⟩ := hi i him
    rw [hC] at hc
    obtain ⟨ys, n', hn', hy, hlen, hyl, hf⟩ := DataW.trod_struct he ht'
    obtain ⟨_, hcl, hat⟩ := World.cells?_some hc
    obtain ⟨ho, hk⟩ := hone_of hone j f hj
    have hjl : j < fs.size := (Array.getElem?_eq_some_iff.1 hj).1
    have hcell := hat j hjl
    have hv : cs'[j]? = some (cs'[j]'(by omega)) := List.getElem?_eq_getElem (by omega)
    have h1 := hf j f hj
    rw [ho, hk] at h1
    have hone' : (cs'.drop j).take 1 = [cs'[j]'(by omega)] := by
      rw [List.drop_eq_getElem_cons (by omega)]
      rfl
    rw [hone'] at h1
    have hys : ys[j]? = some (ys[j]'(by omega)) := List.getElem?_eq_getElem (by omega)
    refine ⟨_, _, n', ?_, h1.trans hys⟩
    rw [← Go.Deep.add_add, hcell, hv]
end
open Go.ChangeShapes Go.WideShapes Go.ChangeAt Go.RowKit Go.Deep Go.Proofs.Ytepigkjgjlibcaa.FL
theorem wf_u8n {z : Int} (h : (Lit.int .u8 z).wf = true) : ∃ n : Nat, z = (n : Int) ∧ n < 256 := by
  have := wf_u8 h
  exact ⟨z.toNat, by omega, by omega⟩
theorem wf_u16n {z : Int} (h : (Lit.int .u16 z).wf = true) : ∃ n : Nat, z = (n : Int) ∧ n < 65536 := by
  have := wf_u16 h
  exact ⟨z.toNat, by omega, by omega⟩
set_option maxRecDepth 100000 in
theorem open_size23 {H : Type} {enc : TypeId × Value → H} {w : World} {base b0 : Nat} {r : Reach} {held : Bool} {v : Value} {d : DataW H} {p : List MemPlace}
    (hv : Value.okWide Try.prog w r b0 23 v) (h : DataW.Trod enc Try.prog w base (fun _ => true) held 23 v d p) :
    ∃ (x y : Nat), v = .agg #[.int .u8 x, .int .u8 y] ∧ x < 256 ∧ y < 256 := by
  obtain ⟨cs, rfl, hs⟩ := okWide_struct Try.underlying23 hv
  rw [show Try.prog.cellsOf 23 = 2 by kernel_rfl] at hs
  obtain ⟨l⟩ := cs
  match l, hs with
  | [a0, a1], _ =>
    obtain ⟨n, hn⟩ := h
    obtain ⟨xs, m, _, _, _, hl, hall⟩ := DataW.trod_struct Try.underlying23 hn
    have h0 := hall 0 _ rfl
    have h1 := hall 1 _ rfl
    have hl2 : xs.length = 2 := hl
    rw [List.getElem?_eq_getElem (by omega)] at h0 h1
    simp only [Value.cells] at h0 h1
    obtain ⟨F, f0, -, g0⟩ := DataW.trod_int Try.underlying5 h0
    obtain ⟨T, f1, -, g1⟩ := DataW.trod_int Try.underlying5 h1
    simp [show Try.prog.cellsOf 5 = 1 by kernel_rfl] at f0 f1
    subst f0
    subst f1
    obtain ⟨x, rfl, hx⟩ := wf_u8n g0
    obtain ⟨y, rfl, hy⟩ := wf_u8n g1
    exact ⟨x, y, rfl, hx, hy⟩
set_option maxRecDepth 100000 in
theorem open_act23 {H : Type} {enc : TypeId × Value → H} {w : World} {base b0 : Nat} {r : Reach} {held : Bool} {v : Value} {d : DataW H} {p : List MemPlace}
    (hv : Value.okWide Try.prog w r b0 36 v) (h : DataW.Trod enc Try.prog w base (fun _ => true) held 36 v d p) :
    ∃ a : Act4, v = .agg #[.int .u8 a.kind, .int .u8 a.key, .int .u8 a.fill, .int .u16 a.many] ∧ a.ok := by
  obtain ⟨cs, rfl, hs⟩ := okWide_struct Try.underlying36 hv
  rw [show Try.prog.cellsOf 36 = 4 by kernel_rfl] at hs
  obtain ⟨l⟩ := cs
  match l, hs with
  | [a0, a1, a2, a3], _ =>
    obtain ⟨n, hn⟩ := h
    obtain ⟨xs, m, _, _, _, hl, hall⟩ := DataW.trod_struct Try.underlying36 hn
    have h0 := hall 0 _ rfl
    have h1 := hall 1 _ rfl
    have h2 := hall 2 _ rfl
    have h3 := hall 3 _ rfl
    have hl2 : xs.length = 4 := hl
    rw [List.getElem?_eq_getElem (by omega)] at h0 h1 h2 h3
    simp only [Value.cells] at h0 h1 h2 h3
    obtain ⟨F, f0, -, g0⟩ := DataW.trod_int Try.underlying5 h0
    obtain ⟨T, f1, -, g1⟩ := DataW.trod_int Try.underlying5 h1
    obtain ⟨U, f2, -, g2⟩ := DataW.trod_int Try.underlying5 h2
    obtain ⟨V, f3, -, g3⟩ := DataW.trod_int Try.underlying34 h3
    simp [show Try.prog.cellsOf 5 = 1 by kernel_rfl, show Try.prog.cellsOf 34 = 1 by kernel_rfl] at f0 f1 f2 f3
    subst f0
    subst f1
    subst f2
    subst f3
    obtain ⟨x, rfl, hx⟩ := wf_u8n g0
    obtain ⟨y, rfl, hy⟩ := wf_u8n g1
    obtain ⟨z, rfl, hz⟩ := wf_u8n g2
    obtain ⟨u, rfl, hu⟩ := wf_u16n g3
    exact ⟨⟨x, y, z, u⟩, rfl, hx, hy, hz, hu⟩
instance : Inhabited Act4 := ⟨⟨0, 0, 0, 0⟩⟩
set_option maxRecDepth 100000 in
theorem acts_of {H : Type} {enc : TypeId × Value → H} {w : World} {base n : Nat} {held : Bool} {u : Value} {x : DataW H × List MemPlace} (h : DataW.trod enc Try.prog w base (fun _ => true) held n 24 [u] = some x) : ∃ acts : List Act4, ActsIn w u acts := by
  rcases open_slice_cells23 Try.underlying24 Try.underlying36 (by kernel_rfl) (by kernel_rfl) h with e0 | ⟨a, len, cap, m', e0, hle, hlim, hm, hx⟩
  · obtain rfl := List.singleton_inj.1 e0
    exact ⟨[], none, 0, rfl, fun h => absurd h (by simp)⟩
  · obtain rfl := List.singleton_inj.1 e0
    have hmm : m' = cap := by simpa using hm
    have go8 : ∀ (i j : Nat) (f : Field), f.type = 5 → (∃ (v : Value) (y : DataW H × List MemPlace) (n : Nat), w.cell? (a.add (i * 4 + j)) = some v ∧ DataW.trod enc Try.prog w base (fun _ => true) held n f.type [v] = some y) → ∃ z : Nat, w.cell? (a.add (i * 4 + j)) = some (.int .u8 z) ∧ z < 256 := by
      rintro i j f hft ⟨v, y, n, hc, ht⟩
      rw [hft] at ht
      obtain ⟨z, e, -, hw⟩ := DataW.trod_int Try.underlying5 ht
      obtain rfl := List.singleton_inj.1 e
      obtain ⟨q, rfl, hq⟩ := wf_u8n hw
      exact ⟨q, hc, hq⟩
    have go16 : ∀ (i j : Nat) (f : Field), f.type = 34 → (∃ (v : Value) (y : DataW H × List MemPlace) (n : Nat), w.cell? (a.add (i * 4 + j)) = some v ∧ DataW.trod enc Try.prog w base (fun _ => true) held n f.type [v] = some y) → ∃ z : Nat, w.cell? (a.add (i * 4 + j)) = some (.int .u16 z) ∧ z < 65536 := by
      rintro i j f hft ⟨v, y, n, hc, ht⟩
      rw [hft] at ht
      obtain ⟨z, e, -, hw⟩ := DataW.trod_int Try.underlying34 ht
      obtain rfl := List.singleton_inj.1 e
      obtain ⟨q, rfl, hq⟩ := wf_u16n hw
      exact ⟨q, hc, hq⟩
    have key : ∀ i, i < len → ∃ q : Act4, q.ok ∧ w.cell? (a.add (i * 4)) = some (.int .u8 q.kind) ∧ w.cell? (a.add (i * 4 + 1)) = some (.int .u8 q.key) ∧ w.cell? (a.add (i * 4 + 2)) = some (.int .u8 q.fill) ∧ w.cell? (a.add (i * 4 + 3)) = some (.int .u16 q.many) := by
      intro i hi
      obtain ⟨z0, c0, b0⟩ := go8 i 0 _ rfl (hx i (by omega) 0 _ rfl)
      obtain ⟨z1, c1, b1⟩ := go8 i 1 _ rfl (hx i (by omega) 1 _ rfl)
      obtain ⟨z2, c2, b2⟩ := go8 i 2 _ rfl (hx i (by omega) 2 _ rfl)
      obtain ⟨z3, c3, b3⟩ := go16 i 3 _ rfl (hx i (by omega) 3 _ rfl)
      exact ⟨⟨z0, z1, z2, z3⟩, ⟨b0, b1, b2, b3⟩, c0, c1, c2, c3⟩
    obtain ⟨f, hf⟩ := pick_funF key
    refine ⟨(List.range len).map f, some a, cap, by simp, fun h0 => ?_⟩
    have hl0 : 0 < len := by simpa using h0
    have hu0 := (hf 0 hl0).2.1
    rw [Nat.zero_mul, Addr.add_zero'] at hu0
    have ea := spot_none hu0
    refine ⟨a.block, a.off, by rw [← ea], fun i l hil => ?_⟩
    rw [List.getElem?_map] at hil
    obtain ⟨j, hj, rfl⟩ := Option.map_eq_some_iff.1 hil
    obtain ⟨h1, h2⟩ := List.getElem?_eq_some_iff.1 hj
    rw [List.getElem_range] at h2
    subst h2
    obtain ⟨k0, k1, k2, k3, k4⟩ := hf i (by simpa using h1)
    rw [ea, add_none] at k1 k2 k3 k4
    exact ⟨k0, k1, k2, k3, k4⟩
set_option maxRecDepth 100000 in
theorem open_acts23 {H : Type} {enc : TypeId × Value → H} {w : World} {base b0 : Nat} {r : Reach} {held : Bool} {v : Value} {d : DataW H} {p : List MemPlace}
    (hv : Value.okWide Try.prog w r b0 24 v) (h : DataW.Trod enc Try.prog w base (fun _ => true) held 24 v d p) : ∃ acts : List Act4, ActsIn w v acts := by
  have hone : ∃ z, v.cells.toList = [z] ∧ v = z := by
    cases v <;> simp [Value.cells] <;> (simp only [Value.okWide, Try.underlying24, Cell.okWide] at hv; simp_all [Cell.ok])
  obtain ⟨z, hz, rfl⟩ := hone
  obtain ⟨m0, h⟩ := h
  rw [hz] at h
  exact acts_of h
end Go.Proofs.Ytepigkjgjlibcaa
