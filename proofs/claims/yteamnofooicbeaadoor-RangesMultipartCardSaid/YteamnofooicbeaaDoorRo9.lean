/- Chapter 09: a range that comes in; the table of powers lies as the program's text lays it. -/
import Derived.Test.YteamnofooicbeaaDoorRgZ
import Derived.Test.YteamnofooicbeaaDoorGP
import Derived.Test.YteamnofooicbeaaDoorLift
import Derived.Test.YteamnofooicbeaaDoorRows
import Derived.Lib.LaidTab
import Derived.Stop.LaidErr
namespace Go.Proofs.YteamnofooicbeaaDoor
open Go.ChangeShapes Go.WideShapes Go.ChangeAt Go.RowKit
set_option maxRecDepth 100000 in
theorem open_rng {H : Type} {enc : TypeId × Value → H} {w : World} {base b0 : Nat} {r : Reach} {held : Bool} {v : Value} {d : DataW H} {p : List MemPlace}
    (hv : Value.okWide Tryd.prog w r b0 43 v) (h : DataW.Trod enc Tryd.prog w base (fun _ => true) held 43 v d p) :
    ∃ (f t : Int), v = .agg #[.int .i64 f, .int .i64 t] ∧ (Lit.int .i64 f).wf = true ∧ (Lit.int .i64 t).wf = true := by
  obtain ⟨cs, rfl, hs⟩ := okWide_struct Tryd.underlying43 hv
  rw [show Tryd.prog.cellsOf 43 = 2 by kernel_rfl] at hs
  obtain ⟨l⟩ := cs
  match l, hs with
  | [a0, a1], _ =>
    obtain ⟨n, hn⟩ := h
    obtain ⟨xs, m, _, _, _, hl, hall⟩ := DataW.trod_struct Tryd.underlying43 hn
    have h0 := hall 0 _ rfl
    have h1 := hall 1 _ rfl
    have hl2 : xs.length = 2 := hl
    rw [List.getElem?_eq_getElem (by omega)] at h0 h1
    simp only [Value.cells] at h0 h1
    obtain ⟨F, f0, -, g0⟩ := DataW.trod_int Tryd.underlying3 h0
    obtain ⟨T, f1, -, g1⟩ := DataW.trod_int Tryd.underlying3 h1
    simp [show Tryd.prog.cellsOf 3 = 1 by kernel_rfl] at f0 f1
    subst f0
    subst f1
    exact ⟨F, T, rfl, g0, g1⟩
theorem powT_of {W : World} {rest : List (String × DataW Unit)} (hL : laidMet Tryd.prog (("math/bits.deBruijn32tab", Rows.laid_math_bits_deBruijn32tab) :: ("math/bits.deBruijn64tab", Rows.laid_math_bits_deBruijn64tab) :: ("internal/strconv.uint64pow10", Rows.laid_internal_strconv_uint64pow10) :: rest) W) : PowT W := by
  have h3 := laidMet.tail (laidMet.tail hL)
  have e : (Rows.laid_internal_strconv_uint64pow10 : DataW Unit) = Lib.tabData .u64 Lib.pow10Tab := rfl
  rw [e] at h3
  exact Lib.tabIs_of_head (show Tryd.prog.globalNamed "internal/strconv.uint64pow10" = some 1 by kernel_rfl) (show (Tryd.prog.globals[1]?).map (·.type) = some 185 by kernel_rfl) Tryd.underlying185 Tryd.underlying162 (by kernel_rfl) (by kernel_rfl) h3
end Go.Proofs.YteamnofooicbeaaDoor
