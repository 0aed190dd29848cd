/- Chapter 09: a Multi that comes in. -/
import Derived.Test.YteamnofooicbeaaDoorRo8
import Derived.SizedLaws
namespace Go.Proofs.YteamnofooicbeaaDoor
open Go.ChangeShapes Go.WideShapes Go.ChangeAt Go.RowKit
set_option maxRecDepth 100000 in
theorem open_rngs_of {H : Type} {enc : TypeId × Value → H} {w : World} {base : Nat} {held : Bool} {v : Value} {d : DataW H} {p : List MemPlace}
    (hone : ∀ z, v.cells.toList = [z] → v = z) (h : DataW.Trod enc Tryd.prog w base (fun _ => true) held 28 v d p) :
    ∃ xs : List (Int × Int), RIn w v xs ∧ ∀ q ∈ xs, ((-9223372036854775808 ≤ q.1 ∧ q.1 ≤ 9223372036854775807) ∧ -9223372036854775808 ≤ q.2 ∧ q.2 ≤ 9223372036854775807) := by
  obtain ⟨m0, h⟩ := h
  rcases open_slice_cells Tryd.underlying28 Tryd.underlying43 (by kernel_rfl) (by kernel_rfl) h with e0 | ⟨a, len, cap, m', e0, hle, hlim, hm, hx⟩
  · exact ⟨[], ⟨none, 0, hone _ e0, Nat.le_refl _, fun h => absurd h (by simp)⟩, by simp⟩
  · have hmm : m' = cap := by simpa using hm
    have gi : ∀ (i j : Nat) (f : Field), f.type = 3 → (∃ (v : Value) (y : DataW H × List MemPlace) (n : Nat), w.cell? (a.add (i * 2 + j)) = some v ∧ DataW.trod enc Tryd.prog w base (fun _ => true) held n f.type [v] = some y) → ∃ z : Int, w.cell? (a.add (i * 2 + j)) = some (.int .i64 z) ∧ (Lit.int .i64 z).wf = true := by
      rintro i j f hft ⟨v, y, n, hc, ht⟩
      rw [hft] at ht
      obtain ⟨z, e, -, hw⟩ := DataW.trod_int Tryd.underlying3 ht
      obtain rfl := List.singleton_inj.1 e
      exact ⟨z, hc, hw⟩
    have key : ∀ i, i < len → ∃ x : Int × Int, (w.cell? (a.add (i * 2)) = some (.int .i64 x.1) ∧ w.cell? ⟨(a.add (i * 2)).block, (a.add (i * 2)).off + 1, none⟩ = some (.int .i64 x.2)) ∧ ((-9223372036854775808 ≤ x.1 ∧ x.1 ≤ 9223372036854775807) ∧ -9223372036854775808 ≤ x.2 ∧ x.2 ≤ 9223372036854775807) := by
      intro i hi
      have hx' := hx i (by omega)
      obtain ⟨z0, c0, w0⟩ := gi i 0 _ rfl (hx' 0 _ rfl)
      obtain ⟨z1, c1, w1⟩ := gi i 1 _ rfl (hx' 1 _ rfl)
      exact ⟨(z0, z1), ⟨c0, cell_off2 w a i _ c1⟩, wf_i64 w0, wf_i64 w1⟩
    obtain ⟨f, hf⟩ := pick_fun key
    refine ⟨(List.range len).map f, ⟨some a, cap, by simpa using hone _ e0, by simpa using hle, fun _ => ⟨a, rfl, fun i e he => ?_⟩⟩, fun x hxm => ?_⟩
    · obtain ⟨hi, rfl⟩ := range_get he
      exact (hf i hi).1
    · obtain ⟨i, hi, rfl⟩ := List.mem_map.1 hxm
      exact (hf i (List.mem_range.1 hi)).2
set_option maxRecDepth 100000 in
theorem open_multi {H : Type} {enc : TypeId × Value → H} {w : World} {base b0 : Nat} {r : Reach} {held : Bool} {v : Value} {d : DataW H} {p : List MemPlace}
    (hv : Value.okWide Tryd.prog w r b0 88 v) (h : DataW.Trod enc Tryd.prog w base (fun _ => true) held 88 v d p) :
    ∃ (b k g : ByteArray) (sz : Int) (lv : Value) (xs : List (Int × Int)) (d2 d3 : DataW H),
      v = .agg #[.string b, .string k, lv, .int .u16 sz, .string g] ∧ (0 ≤ sz ∧ sz ≤ 65535) ∧ RIn w lv xs ∧ d = .agg [.lit (.string b.data.toList), .lit (.string k.data.toList), d2, d3, .lit (.string g.data.toList)] := by
  obtain ⟨cs, rfl, hsz⟩ := okWide_struct Tryd.underlying88 hv
  have hsz7 : cs.size = 5 := hsz.trans (by kernel_rfl)
  obtain ⟨v0, v1, v2, v3, v4, rfl⟩ : ∃ v0 v1 v2 v3 v4, cs = #[v0, v1, v2, v3, v4] := by
    obtain ⟨l⟩ := cs
    match l, hsz7 with
    | [a, b, c, d, e], _ => exact ⟨a, b, c, d, e, rfl⟩
  obtain ⟨fuel, hf⟩ := h
  obtain ⟨ys, n', -, hd, -, hys, hx⟩ := DataW.trod_struct Tryd.underlying88 hf
  have h0 := hx 0 _ rfl
  have h1 := hx 1 _ rfl
  have h2 := hx 2 _ rfl
  have h3 := hx 3 _ rfl
  have h4 := hx 4 _ rfl
  have hys5 : ys.length = 5 := hys
  obtain ⟨y0, y1, y2, y3, y4, rfl⟩ : ∃ y0 y1 y2 y3 y4, ys = [y0, y1, y2, y3, y4] := by
    match ys, hys5 with
    | [a, b, c, d, e], _ => exact ⟨a, b, c, d, e, rfl⟩
  have g0 : DataW.trod enc Tryd.prog w base (fun _ => true) held n' 9 [v0] = some y0 := h0
  have g1 : DataW.trod enc Tryd.prog w base (fun _ => true) held n' 9 [v1] = some y1 := h1
  have g2 : DataW.trod enc Tryd.prog w base (fun _ => true) held n' 28 [v2] = some y2 := h2
  have g3 : DataW.trod enc Tryd.prog w base (fun _ => true) held n' 34 [v3] = some y3 := h3
  have g4 : DataW.trod enc Tryd.prog w base (fun _ => true) held n' 9 [v4] = some y4 := h4
  clear h0 h1 h2 h3 h4 hx
  obtain ⟨s0, e0, f0, -⟩ := DataW.trod_string Tryd.underlying9 g0
  obtain ⟨s1, e1, f1, -⟩ := DataW.trod_string Tryd.underlying9 g1
  obtain ⟨s4, e4, f4, -⟩ := DataW.trod_string Tryd.underlying9 g4
  obtain ⟨z, e3, -, hw⟩ := DataW.trod_int Tryd.underlying34 g3
  obtain rfl := List.singleton_inj.1 e0
  obtain rfl := List.singleton_inj.1 e1
  obtain rfl := List.singleton_inj.1 e3
  obtain rfl := List.singleton_inj.1 e4
  obtain ⟨A, len, cp, rfl⟩ : ∃ A len cp, v2 = .slice A len cp := by
    rcases open_slice_cells Tryd.underlying28 Tryd.underlying43 (by kernel_rfl) (by kernel_rfl) g2 with e0 | ⟨a, len, cap, m', e0, -⟩
    · exact ⟨_, _, _, List.singleton_inj.1 e0⟩
    · exact ⟨_, _, _, List.singleton_inj.1 e0⟩
  obtain ⟨xs, hin, -⟩ := open_rngs_of (v := .slice A len cp) (d := y2.1) (p := y2.2) (fun z hz => by simpa [Value.cells] using hz) ⟨n', g2⟩
  refine ⟨s0, s1, s4, z, _, xs, y2.1, y3.1, rfl, wf_u16 hw, hin, ?_⟩
  have := congrArg Prod.fst hd
  simp only at this
  rw [this, f0, f1, f4]
  rfl
theorem multi_sizes {H : Type} {ts : List TypeId} {ds : List (DataW H)} (h : (DataW.weightsEach Tryd.prog ts ds).all (· ≤ reachBytes) = true) {s0 s1 s4 : List UInt8} {d2 d3 : DataW H} (ht : ts[0]? = some 88)
    (hd : ds[0]? = some (.agg [.lit (.string s0), .lit (.string s1), d2, d3, .lit (.string s4)])) : s0.length ≤ reachBytes ∧ s1.length ≤ reachBytes ∧ s4.length ≤ reachBytes := by
  have key : ∀ n, n ∈ (DataW.agg [.lit (.string s0), .lit (.string s1), d2, d3, .lit (.string s4)] : DataW H).weights Tryd.prog 88 → n ≤ reachBytes := fun n hn => by
    have := List.all_eq_true.1 h _ (DataW.weights_mem_each ht hd n hn)
    simpa using this
  have hw : ∀ n, (n = s0.length ∨ n = s1.length ∨ n = s4.length) → n ∈ (DataW.agg [.lit (.string s0), .lit (.string s1), d2, d3, .lit (.string s4)] : DataW H).weights Tryd.prog 88 := by
    intro n hn
    unfold DataW.weights
    rw [Tryd.underlying88]
    simp only [List.map_cons, List.map_nil, DataW.weightsEach, DataW.weights, List.mem_append, List.mem_cons, List.not_mem_nil, or_false]
    rcases hn with rfl | rfl | rfl
    · exact .inl rfl
    · exact .inr (.inl rfl)
    · exact .inr (.inr (.inr (.inr rfl)))
  exact ⟨key _ (hw _ (.inl rfl)), key _ (hw _ (.inr (.inl rfl))), key _ (hw _ (.inr (.inr rfl)))⟩
end Go.Proofs.YteamnofooicbeaaDoor
