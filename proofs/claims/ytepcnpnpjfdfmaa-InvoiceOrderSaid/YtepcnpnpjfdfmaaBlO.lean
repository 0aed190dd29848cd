/- Chapter 53: a case that comes in. -/
import Derived.Test.YtepcnpnpjfdfmaaBlC
import Derived.Test.YtepcnpnpjfdfmaaOpen53
namespace Go.Proofs.Ytepcnpnpjfdfmaa
open Go.RowKit Go.ChangeShapes Go.WideShapes Go.Deep
section
variable {H : Type} {enc : TypeId × Value → H} {w : World} {base : Nat} {held : Bool}
theorem trod_one {t : TypeId} {v v' : Value} {n : Nat} {x : DataW H × List MemPlace} (h : DataW.trod enc Try.prog w base (fun _ => true) held n t [v] = some x) (hc : v.cells = #[v]) (e : v = v') : DataW.Trod enc Try.prog w base (fun _ => true) held t v' x.1 x.2 := by
  subst e
  exact ⟨n, by rw [hc]; exact h⟩
end
set_option maxRecDepth 100000 in
theorem open_case {H : Type} {enc : TypeId × Value → H} {w : World} {base b0 : Nat} {r : Reach} {held : Bool} {v : Value} {d : DataW H} {p : List MemPlace}
    (hv : Value.okWide Try.prog w r b0 53 v) (h : DataW.Trod enc Try.prog w base (fun _ => true) held 53 v d p) :
    ∃ (A : Option Addr) (cp : Nat) (es : List Ent) (q : Option Addr) (n cap : Nat) (unit hit least f u : Int) (up pr : Nat → Int),
      v = .agg #[.slice A es.length cp, .slice q n cap, .int .i64 unit, .int .i64 hit, .int .i64 least, .int .i64 f, .int .i64 u] ∧ EnsArg w (.slice A es.length cp) es ∧ (∀ x ∈ es, x.typed) ∧ Tar w q n cap up pr := by
  obtain ⟨cs, rfl, hsz⟩ := okWide_struct Try.underlying53 hv
  have hsz7 : cs.size = 7 := hsz.trans (by kernel_rfl)
  obtain ⟨v0, v1, v2, v3, v4, v5, v6, rfl⟩ : ∃ v0 v1 v2 v3 v4 v5 v6, cs = #[v0, v1, v2, v3, v4, v5, v6] := by
    obtain ⟨l⟩ := cs
    match l, hsz7 with
    | [a, b, c, d, e, f, g], _ => exact ⟨a, b, c, d, e, f, g, rfl⟩
  obtain ⟨fuel, hf⟩ := h
  obtain ⟨ys, n', -, -, -, hys, hx⟩ := DataW.trod_struct Try.underlying53 hf
  have h0 := hx 0 _ rfl
  have h1 := hx 1 _ rfl
  have h2 := hx 2 _ rfl
  have h3 := hx 3 _ rfl
  have hl : ∀ j, j < 4 → ∃ y, ys[j]? = some y := fun j hj => ⟨ys[j]'(by rw [hys]; exact hj), List.getElem?_eq_getElem _⟩
  obtain ⟨y0, e0⟩ := hl 0 (by omega)
  obtain ⟨y1, e1⟩ := hl 1 (by omega)
  obtain ⟨y2, e2⟩ := hl 2 (by omega)
  obtain ⟨y3, e3⟩ := hl 3 (by omega)
  have g0 : DataW.trod enc Try.prog w base (fun _ => true) held n' 51 [v0] = some y0 := h0.trans e0
  have g1 : DataW.trod enc Try.prog w base (fun _ => true) held n' 24 [v1, v2, v3, v4] = some y1 := h1.trans e1
  have g2 : DataW.trod enc Try.prog w base (fun _ => true) held n' 3 [v5] = some y2 := h2.trans e2
  have g3 : DataW.trod enc Try.prog w base (fun _ => true) held n' 3 [v6] = some y3 := h3.trans e3
  clear h0 h1 h2 h3 hx
  obtain ⟨q, n, cap, unit, hit, least, up, pr, ⟨rfl, rfl, rfl, rfl⟩, ht⟩ := tar_cells g1
  obtain ⟨f, ef, -, -⟩ := DataW.trod_int Try.underlying3 g2
  obtain ⟨u, eu, -, -⟩ := DataW.trod_int Try.underlying3 g3
  obtain rfl := List.singleton_inj.1 ef
  obtain rfl := List.singleton_inj.1 eu
  obtain ⟨A, len, cp, rfl⟩ : ∃ A len cp, v0 = .slice A len cp := by
    rcases open_slice_cells Try.underlying51 Try.underlying86 (by kernel_rfl) (by kernel_rfl) g0 with e0 | ⟨a, len, cap, m', e0, -⟩
    · exact ⟨_, _, _, List.singleton_inj.1 e0⟩
    · exact ⟨_, _, _, List.singleton_inj.1 e0⟩
  obtain ⟨es, he, hty⟩ := open_ents_of (v := .slice A len cp) (d := y0.1) (p := y0.2) (fun z hz => by simpa [Value.cells] using hz) ⟨n', g0⟩
  have hh := he
  obtain ⟨A', cp', e, -⟩ := hh
  cases e
  exact ⟨A, cp, es, q, n, cap, unit, hit, least, f, u, up, pr, rfl, he, hty, ht⟩
end Go.Proofs.Ytepcnpnpjfdfmaa
