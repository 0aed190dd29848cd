/- The law InvoiceFormats, walked; opening a list of lines; the listed tables. -/
import Derived.Test.YtepcnpnpjfdfmaaDoorBilP
import Derived.Test.YtepcnpnpjfdfmaaDoorAwk
import Derived.Test.YtepcnpnpjfdfmaaDoorLift
import Derived.Test.YtepcnpnpjfdfmaaDoorCards
import Derived.Test.YtepcnpnpjfdfmaaDoorTie
import Derived.Deep.Slices
import Derived.Deep.Fields
import Derived.Deep.DeepHandedRow
import Derived.Lib.LaidTab
import Derived.Stop.LaidErr
namespace Go.Proofs.YtepcnpnpjfdfmaaDoor
section
open Go.ChangeShapes Go.WideShapes Go.Deep
variable {H : Type} {enc : TypeId × Value → H} {P : Program} {w : World} {base : Nat} {spare : Nat → Bool} {held : Bool}
theorem open_slice_fields {t e : TypeId} {fs : Array Field} {fuel : Nat} {cs : List Value} {x : DataW H × List MemPlace} (ht : P.underlying t = some (.slice e)) (he : P.underlying e = some (.struct fs))
    (hone : oneCellFields P fs = true) (hC : P.cellsOf e = fs.size) (h : DataW.trod enc P w base spare held fuel t cs = some x) :
    (cs = [.slice none 0 0] ∧ x = (.nil, [])) ∨
    ∃ (a : Addr) (len cap m : Nat) (D : Nat → DataW H) (Pl : Nat → List MemPlace), cs = [.slice (some a) len cap] ∧ base ≤ a.block ∧ len ≤ cap ∧ cap ≤ maxLen ∧ m = (if spare a.block then cap else len) ∧
      x = (.slice ((List.range len).map D) ((List.range (m - len)).map fun j => D (len + j)), MemPlace.row a (m * fs.size) ++ (List.range m).flatMap Pl) ∧
      ∀ i, i < m → ∃ (ys : List (DataW H × List MemPlace)) (n : Nat), D i = .agg (ys.map (·.1)) ∧ Pl i = ys.flatMap (·.2) ∧ ys.length = fs.size ∧
        ∀ (j : Nat) (f : Field), fs[j]? = some f → ∃ (v : Value) (y : DataW H × List MemPlace), w.cell? (a.add (i * fs.size + j)) = some v ∧ ys[j]? = some y ∧ DataW.trod enc P w base spare held n f.type [v] = some y := by
  rcases open_slice ht h with h0 | ⟨a, len, cap, m, n, D, Pl, hcs, hb, hl, hm, hmm, hx, hi⟩
  · exact .inl h0
  · refine .inr ⟨a, len, cap, m, D, Pl, hcs, hb, hl, hm, hmm, by rw [hC] at hx; exact hx, fun i him => ?_⟩
    obtain ⟨cs', hc, ht'⟩ := hi i him
    rw [hC] at hc
    obtain ⟨ys, n', hn', hy, hlen, hyl, hf⟩ := DataW.trod_struct he ht'
    obtain ⟨_, hcl, hat⟩ := World.cells?_some hc
    simp only [Prod.mk.injEq] at hy
    refine ⟨ys, n', hy.1, hy.2, hyl, fun j f hj => ?_⟩
    obtain ⟨ho, hk⟩ := hone_of hone j f hj
    have hjl : j < fs.size := (Array.getElem?_eq_some_iff.1 hj).1
    have hcell := hat j hjl
    have hv : cs'[j]? = some (cs'[j]'(by omega)) := List.getElem?_eq_getElem (by omega)
    have h1 := hf j f hj
    rw [ho, hk] at h1
    have hone' : (cs'.drop j).take 1 = [cs'[j]'(by omega)] := by
      rw [List.drop_eq_getElem_cons (by omega)]
      rfl
    rw [hone'] at h1
    have hys : ys[j]? = some (ys[j]'(by omega)) := List.getElem?_eq_getElem (by omega)
    refine ⟨_, _, ?_, hys, h1.trans hys⟩
    rw [← Go.Deep.add_add, hcell, hv]
end
open Go.ChangeShapes Go.WideShapes Go.ChangeAt Go.RowKit

set_option maxHeartbeats 2000000 in
theorem formats_law (w : World) (p : Option Addr) (n cap : Nat) (T H B C : Nat → Int) (hl : Lines w p n cap T H B C) (total : Int) (ht : okI total) (htab : PowT w) :
    Calls Tryd.prog 3 #[.slice p n cap, .int .i64 total] w fun e w' => e = .returned (.bool true) ∧ Ext w w' := by
  have hx := hl.le
  have hm := hl.lim
  rcases Nat.lt_or_ge 100 n with hn | hn
  · have hn' : (n : Int) > 100 := by omega
    go_enter Tryd.func3, Tryd.ntmps3
    go_wp2_with fail
    refine (awake_any _).mono ?_
    rintro e w1 ⟨rfl, h1⟩
    go_wp2_with fail
    go_ret
    exact ⟨rfl, h1⟩
  · have hn' : ¬ (n : Int) > 100 := by omega
    go_enter Tryd.func3, Tryd.ntmps3
    go_wp2_with fail
    refine (awake_any _).mono ?_
    rintro e w1 ⟨rfl, h1⟩
    go_wp2_with fail
    refine (format_any _ p n cap T H B C (hl.ext h1) hn total ht (htab.ext h1)).mono ?_
    rintro e w2 ⟨rfl, h2⟩
    go_wp2_with fail
    refine (rformat_any _ p n cap T H B C (hl.ext (h1.trans h2)) hn total ht).mono ?_
    rintro e w3 ⟨rfl, h3⟩
    go_wp2_with fail
    go_ret
    exact ⟨ret_bool (by simp), (h1.trans h2).trans h3⟩

def intOfV (v : Value) : Int := match v with | .int _ n => n | _ => 0
theorem cell_form (w : World) (a : Addr) (i j : Nat) (v : Value) (hj : 1 ≤ j) (h : w.cell? (a.add (i * 4 + j)) = some v) : w.cell? ⟨(a.add (i * 4)).block, (a.add (i * 4)).off + j, none⟩ = some v := by
  rw [← h]
  obtain ⟨j', rfl⟩ : ∃ j', j = j' + 1 := ⟨j - 1, by omega⟩
  cases i with
  | zero => rw [Nat.zero_mul, Addr.add_zero', Nat.zero_add, Addr.add_succ']
  | succ i =>
    rw [show (i + 1) * 4 = (4 * i + 3) + 1 from by omega, Addr.add_succ', show 4 * i + 3 + 1 + (j' + 1) = (4 * i + 4 + j') + 1 from by omega, Addr.add_succ']
    show w.cell? ⟨a.block, a.off + (4 * i + 3 + 1) + (j' + 1), none⟩ = _
    rw [show a.off + (4 * i + 3 + 1) + (j' + 1) = a.off + (4 * i + 4 + j' + 1) from by omega]
set_option maxRecDepth 100000 in
theorem open_lines {H : Type} {enc : TypeId × Value → H} {w : World} {base b0 : Nat} {r : Reach} {held : Bool} {v : Value} {d : DataW H} {p : List MemPlace}
    (hv : Value.okWide Tryd.prog w r b0 22 v) (h : DataW.Trod enc Tryd.prog w base (fun _ => true) held 22 v d p) :
    ∃ (q : Option Addr) (n cap : Nat) (T H B C : Nat → Int), v = .slice q n cap ∧ Lines w q n cap T H B C := by
  obtain ⟨m0, h⟩ := h
  have hone : ∀ z, v.cells.toList = [z] → v = z := by
    intro z hz
    cases v <;> simp [Value.cells] at hz <;> first | exact hz | (simp only [Value.okWide, Tryd.underlying22, Cell.okWide] at hv; simp_all [Cell.ok])
  rcases open_slice_fields Tryd.underlying22 Tryd.underlying39 (by kernel_rfl) (by kernel_rfl) h with ⟨e0, -⟩ | ⟨a, len, cap, m', D, Pl, e0, -, hle, hlim, hm, -, hx⟩
  · exact ⟨none, 0, 0, fun _ => 0, fun _ => 0, fun _ => 0, fun _ => 0, hone _ e0, ⟨Nat.le_refl _, by decide, fun i hi => by omega, fun i hi => by omega⟩⟩
  · have hmm : m' = cap := by simpa using hm
    have key : ∀ i, i < len → ∀ j (f : Field), j < 4 → (Tryd.prog.underlying 39 = some (.struct #[⟨"Tenant", 3, 0, false, "", "", 0⟩, ⟨"Hits", 3, 1, false, "", "", 8⟩, ⟨"Bytes", 3, 2, false, "", "", 16⟩, ⟨"Cents", 3, 3, false, "", "", 24⟩])) → ∃ z : Int, w.cell? (a.add (i * 4 + j)) = some (.int .i64 z) ∧ okI z := by
      intro i hi j f hj _
      obtain ⟨ys, n', -, -, -, hf⟩ := hx i (by omega)
      have go : ∀ f : Field, f.type = 3 → (∃ (v : Value) (y : DataW H × List MemPlace), w.cell? (a.add (i * 4 + j)) = some v ∧ ys[j]? = some y ∧ DataW.trod enc Tryd.prog w base (fun _ => true) held n' f.type [v] = some y) → ∃ z : Int, w.cell? (a.add (i * 4 + j)) = some (.int .i64 z) ∧ okI z := by
        rintro f hft ⟨v, y, hc, -, ht⟩
        rw [hft] at ht
        obtain ⟨z, e, -, hw⟩ := DataW.trod_int Tryd.underlying3 ht
        obtain rfl := List.singleton_inj.1 e
        exact ⟨z, hc, wf_i64 hw⟩
      match j, hj with
      | 0, _ => exact go _ rfl (hf 0 _ rfl)
      | 1, _ => exact go _ rfl (hf 1 _ rfl)
      | 2, _ => exact go _ rfl (hf 2 _ rfl)
      | 3, _ => exact go _ rfl (hf 3 _ rfl)
    have key2 : ∀ i, i < len → ∀ j, j < 4 → w.cell? (a.add (i * 4 + j)) = some (.int .i64 (intOfV ((w.cell? (a.add (i * 4 + j))).getD (.int .i64 0)))) ∧ okI (intOfV ((w.cell? (a.add (i * 4 + j))).getD (.int .i64 0))) := by
      intro i hi j hj
      obtain ⟨z, hz, ho⟩ := key i hi j ⟨"", 0, 0, false, "", "", 0⟩ hj Tryd.underlying39
      rw [hz]
      exact ⟨rfl, ho⟩
    refine ⟨some a, len, cap, fun i => intOfV ((w.cell? (a.add (i * 4 + 0))).getD (.int .i64 0)), fun i => intOfV ((w.cell? (a.add (i * 4 + 1))).getD (.int .i64 0)), fun i => intOfV ((w.cell? (a.add (i * 4 + 2))).getD (.int .i64 0)), fun i => intOfV ((w.cell? (a.add (i * 4 + 3))).getD (.int .i64 0)), hone _ e0, ⟨hle, by unfold maxLen at hlim; omega, fun i hi => ?_, fun i hi => ?_⟩⟩
    · exact ⟨a, rfl, (key2 i hi 0 (by omega)).1, cell_form w a i 1 _ (by omega) (key2 i hi 1 (by omega)).1, cell_form w a i 2 _ (by omega) (key2 i hi 2 (by omega)).1, cell_form w a i 3 _ (by omega) (key2 i hi 3 (by omega)).1⟩
    · exact ⟨(key2 i hi 0 (by omega)).2, (key2 i hi 1 (by omega)).2, (key2 i hi 2 (by omega)).2, (key2 i hi 3 (by omega)).2⟩

theorem powT_of {W : World} (hL : laidMetH Tryd.prog Rows.invoiceFormatsRow.laid W) : PowT W := by
  have h : laidMet Tryd.prog (("math/bits.deBruijn32tab", Rows.laid_math_bits_deBruijn32tab) :: ("math/bits.deBruijn64tab", Rows.laid_math_bits_deBruijn64tab) :: [("internal/strconv.uint64pow10", Rows.laid_internal_strconv_uint64pow10)]) W := hL
  have h3 := laidMet.tail (laidMet.tail h)
  have e : (Rows.laid_internal_strconv_uint64pow10 : DataW Unit) = Lib.tabData .u64 Lib.pow10Tab := rfl
  rw [e] at h3
  exact Lib.tabIs_of_head (show Tryd.prog.globalNamed "internal/strconv.uint64pow10" = some 2 by kernel_rfl) (show (Tryd.prog.globals[2]?).map (·.type) = some 70 by kernel_rfl) Tryd.underlying70 Tryd.underlying45 (by kernel_rfl) (by kernel_rfl) h3
end Go.Proofs.YtepcnpnpjfdfmaaDoor
