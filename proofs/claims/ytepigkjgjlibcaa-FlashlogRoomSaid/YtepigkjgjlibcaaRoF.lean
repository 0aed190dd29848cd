/- Chapter 23: a list of byte slices that comes in. -/
import Derived.Test.YtepigkjgjlibcaaGAQ
import Derived.Test.YtepigkjgjlibcaaLift
import Derived.Deep.Slices
import Derived.ChangeSlices
namespace Go.Proofs.Ytepigkjgjlibcaa
open Go.ChangeShapes Go.WideShapes Go.ChangeAt Go.RowKit Go.Deep Go.Proofs.Ytepigkjgjlibcaa.FL
theorem pick_funF {n : Nat} {α : Type} [Inhabited α] {P : Nat → α → Prop} (h : ∀ i, i < n → ∃ x, P i x) : ∃ f : Nat → α, ∀ i, i < n → P i (f i) := by
  refine ⟨fun i => if hi : i < n then (h i hi).choose else default, fun i hi => ?_⟩
  simp only [hi, dif_pos]
  exact (h i hi).choose_spec
theorem spot_none {w : World} {a : Addr} {u : Value} (h : w.cell? a = some u) : a = ⟨a.block, a.off, none⟩ := by
  obtain ⟨b, o, s⟩ := a
  cases s with
  | none => rfl
  | some s =>
    unfold World.cell? at h
    cases hb : w.heap[b]? with
    | none => simp [hb] at h
    | some x => cases x <;> simp [hb] at h
theorem add_none (g o i : Nat) : (⟨g, o, none⟩ : Addr).add i = ⟨g, o + i, none⟩ := by unfold Addr.add; split <;> simp_all
theorem br_of {H : Type} {enc : TypeId × Value → H} {w : World} {base n : Nat} {held : Bool} {u : Value} {x : DataW H × List MemPlace} (h : DataW.trod enc Try.prog w base (fun _ => true) held n 42 [u] = some x) : ∃ l, BR w u l := by
  rcases open_ints Try.underlying42 Try.underlying5 (by kernel_rfl) h with ⟨e0, -⟩ | ⟨a, len, cap, zs, e0, -, hle, hlim, hm, -, hx, hwf⟩
  · obtain rfl := List.singleton_inj.1 e0
    exact ⟨[], none, 0, rfl, Nat.le_refl _, fun h => absurd rfl h⟩
  · obtain rfl := List.singleton_inj.1 e0
    have hmm : zs.length = cap := by simpa using hm
    have hll : ((zs.take len).map fun z => UInt8.ofNat z.toNat).length = len := by rw [List.length_map, List.length_take, Nat.min_eq_left (by omega)]
    refine ⟨(zs.take len).map fun z => UInt8.ofNat z.toNat, some a, cap, by rw [hll], by rw [hll]; exact hle, fun hne => ?_⟩
    have hl0 : 0 < len := by
      rcases Nat.eq_zero_or_pos len with h0 | h0
      · rw [h0] at hne; simp at hne
      · exact h0
    have hc0 := hx 0 (by omega)
    rw [Addr.add_zero'] at hc0
    have ea := spot_none hc0
    refine ⟨a.block, a.off, by rw [← ea], fun i u hu => ?_⟩
    obtain ⟨b, hb, rfl⟩ := by8_get hu
    rw [List.getElem?_map] at hb
    obtain ⟨z, hz, rfl⟩ := Option.map_eq_some_iff.1 hb
    have hi := (List.getElem?_eq_some_iff.1 hz).1
    rw [List.length_take] at hi
    have hz2 : zs[i]? = some z := by rw [← hz, List.getElem?_take_of_lt (by omega)]
    have h8 := wf_u8 (hwf z (List.mem_of_getElem? hz2))
    have hc := hx i (by omega)
    rw [ea, add_none] at hc
    rw [hc]
    simp only [List.getD, hz2, Option.getD_some, UInt8.toNat_ofNat']
    rw [Nat.mod_eq_of_lt (by omega)]
    congr 2
    omega
set_option maxRecDepth 100000 in
theorem open_bss {H : Type} {enc : TypeId × Value → H} {w : World} {base b0 : Nat} {r : Reach} {held : Bool} {v : Value} {d : DataW H} {p : List MemPlace}
    (hv : Value.okWide Try.prog w r b0 52 v) (h : DataW.Trod enc Try.prog w base (fun _ => true) held 52 v d p) : ∃ ls : List Bs, LsIn w v ls := by
  have hone : ∀ z, v.cells.toList = [z] → v = z := by
    intro z hz
    cases v <;> simp [Value.cells] at hz <;> first | exact hz | (simp only [Value.okWide, Try.underlying52, Cell.okWide] at hv; simp_all [Cell.ok])
  obtain ⟨m0, h⟩ := h
  rcases open_slice Try.underlying52 h with h0 | ⟨a, len, cap, m, n, D, Pl, hcs, hb, hl, hm, hmm, hx, hi⟩
  · exact ⟨[], none, 0, hone _ h0.1, Nat.le_refl _, fun h => absurd h (by simp)⟩
  · have hmc : m = cap := by simpa using hmm
    have hce : Try.prog.cellsOf 42 = 1 := by kernel_rfl
    have key : ∀ i, i < len → ∃ x : Bs, ∃ u, w.cell? (a.add i) = some u ∧ BR w u x := by
      intro i hil
      obtain ⟨cs', hc, ht⟩ := hi i (by omega)
      rw [hce, Nat.mul_one] at hc
      obtain ⟨-, hcl, hat⟩ := World.cells?_some hc
      have hcell := hat 0 (by omega)
      rw [Addr.add_zero'] at hcell
      have hv1 : cs'[0]? = some (cs'[0]'(by omega)) := List.getElem?_eq_getElem (by omega)
      have e1 : cs' = [cs'[0]'(by omega)] := List.ext_getElem (by simp; omega) (fun k h1 h2 => by
        obtain rfl : k = 0 := by omega
        rfl)
      rw [e1] at ht
      obtain ⟨l, hbr⟩ := br_of ht
      exact ⟨l, _, hcell.trans hv1, hbr⟩
    obtain ⟨f, hf⟩ := pick_funF key
    refine ⟨(List.range len).map f, some a, cap, by simpa using hone _ hcs, by simpa using hl, fun h0 => ?_⟩
    have hl0 : 0 < len := by simpa using h0
    obtain ⟨u0, hu0, -⟩ := hf 0 hl0
    rw [Addr.add_zero'] at hu0
    have ea := spot_none hu0
    refine ⟨a.block, a.off, by rw [← ea], fun i l hil => ?_⟩
    rw [List.getElem?_map] at hil
    obtain ⟨j, hj, rfl⟩ := Option.map_eq_some_iff.1 hil
    obtain ⟨h1, h2⟩ := List.getElem?_eq_some_iff.1 hj
    rw [List.getElem_range] at h2
    subst h2
    obtain ⟨u, hu, hbr⟩ := hf i (by simpa using h1)
    rw [ea, add_none] at hu
    exact ⟨u, hu, hbr⟩
end Go.Proofs.Ytepigkjgjlibcaa
