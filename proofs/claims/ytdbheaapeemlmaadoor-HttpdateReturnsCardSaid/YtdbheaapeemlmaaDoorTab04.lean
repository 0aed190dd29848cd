/- From the rows' condition (the three tables of package httpdate read as their text lays them) to the cells. -/
import Derived.Test.YtdbheaapeemlmaaDoorCards
import Derived.Test.YtdbheaapeemlmaaDoorTie
import Derived.Test.YtdbheaapeemlmaaDoorLaw04
import Derived.ProofKit
import Derived.OpenShut
import Derived.Deep.DeepHandedRow
import Derived.Lib.LaidTab
import Derived.Stop.LaidErr
namespace Go.Proofs.YtdbheaapeemlmaaDoor
open Go.ChangeShapes Go.WideShapes Go.ChangeAt Go.RowKit

def strData {H : Type} (ss : List (List UInt8)) : DataW H := .agg (ss.map fun s => .lit (.string s))

/-- an array of strings that reads as the table holds the table's strings -/
theorem cells_of_strs {H : Type} {enc : TypeId × Value → H} {P : Program} {w : World} {base : Nat} {sp : Nat → Bool} {held : Bool} {fuel : Nat} {t e : TypeId} {n : Nat} {cs : List Value} {ss : List (List UInt8)} {p : List MemPlace}
    (ht : P.underlying t = some (.array n e)) (he : P.underlying e = some .string) (hce : P.cellsOf e = 1) (hct : P.cellsOf t = n)
    (h : DataW.trod enc P w base sp held fuel t cs = some (strData ss, p)) : cs = ss.map fun s => Value.string ⟨s.toArray⟩ := by
  obtain ⟨xs, m, _, hx, hl, hxl, hall⟩ := DataW.trod_array ht h
  have hxs : xs.map (·.1) = ss.map fun s => (DataW.lit (.string s) : DataW H) := by
    have := congrArg Prod.fst hx
    simpa [strData] using this.symm
  have hsl : ss.length = n := by
    have := congrArg List.length hxs
    simp at this
    omega
  apply List.ext_getElem?
  intro i
  by_cases hi : i < n
  · have hf := hall i hi
    have hxi : xs[i]? = some (xs[i]'(by omega)) := List.getElem?_eq_getElem (by omega)
    rw [hxi] at hf
    obtain ⟨s, hc, hd, _⟩ := DataW.trod_string he hf
    have h1 : cs[i]? = some (.string s) := by
      have := congrArg (·[0]?) hc
      simpa [List.getElem?_take, List.getElem?_drop, hce] using this
    have h2 : (xs.map (·.1))[i]? = some (DataW.lit (.string s.data.toList) : DataW H) := by simp [hxi, hd]
    rw [hxs] at h2
    simp only [List.getElem?_map, Option.map_eq_some_iff, DataW.lit.injEq, Lit.string.injEq] at h2
    obtain ⟨s', hs', hs2⟩ := h2
    rw [h1, List.getElem?_map, hs', hs2]
    simp
  · rw [List.getElem?_eq_none (by omega), List.getElem?_eq_none (by simp; omega)]

theorem strs_of_head {P : Program} {W : World} {name : String} {ss : List (List UInt8)} {rest : List (String × DataW Unit)} {g : Nat} {t e : TypeId} {n : Nat}
    (hg : P.globalNamed name = some g) (hty : (P.globals[g]?).map (·.type) = some t) (ht : P.underlying t = some (.array n e)) (he : P.underlying e = some .string) (hce : P.cellsOf e = 1) (hct : P.cellsOf t = n)
    (h : laidMet P ((name, strData ss) :: rest) W) : ∀ i s, ss[i]? = some s → W.cell? ⟨g, i, none⟩ = some (.string ⟨s.toArray⟩) := by
  obtain ⟨ps, ⟨g', t', cs, fuel, p, q, hg', ht', hvar, hd, _, _⟩, _⟩ := h
  obtain rfl := Option.some.inj (hg.symm.trans hg')
  obtain rfl := Option.some.inj (hty.symm.trans ht')
  intro i s hs
  have := World.var?_cell hg hvar i
  rw [this]
  have hc := cells_of_strs ht he hce hct hd
  have : cs[i]? = (ss.map fun s => Value.string ⟨s.toArray⟩)[i]? := by rw [← hc]; simp
  rw [this, List.getElem?_map, hs]
  rfl

theorem Laid.of_met {W : World} (h : laidMet Tryd.prog Rows.httpdateFormatsRow.laid W) : Laid W := by
  have h1 : laidMet Tryd.prog (("quayside/httpdate.weekdays", strData [[83, 117, 110], [77, 111, 110], [84, 117, 101], [87, 101, 100], [84, 104, 117], [70, 114, 105], [83, 97, 116]]) :: ("quayside/httpdate.months", strData [[74, 97, 110], [70, 101, 98], [77, 97, 114], [65, 112, 114], [77, 97, 121], [74, 117, 110], [74, 117, 108], [65, 117, 103], [83, 101, 112], [79, 99, 116], [78, 111, 118], [68, 101, 99]]) :: [("quayside/httpdate.lengths", Lib.tabData .i64 [31, 28, 31, 30, 31, 30, 31, 31, 30, 31, 30, 31])]) W := h
  have h2 := laidMet.tail h1
  have h3 := laidMet.tail h2
  have c1 := strs_of_head (show Tryd.prog.globalNamed "quayside/httpdate.weekdays" = some 0 by kernel_rfl) (show (Tryd.prog.globals[0]?).map (·.type) = some 47 by kernel_rfl) Tryd.underlying47 Tryd.underlying9 (by kernel_rfl) (by kernel_rfl) h1
  have c2 := strs_of_head (show Tryd.prog.globalNamed "quayside/httpdate.months" = some 1 by kernel_rfl) (show (Tryd.prog.globals[1]?).map (·.type) = some 48 by kernel_rfl) Tryd.underlying48 Tryd.underlying9 (by kernel_rfl) (by kernel_rfl) h2
  have hg3 : Tryd.prog.globalNamed "quayside/httpdate.lengths" = some 2 := by kernel_rfl
  have c3 := Lib.tabIs_of_head hg3 (show (Tryd.prog.globals[2]?).map (·.type) = some 54 by kernel_rfl) Tryd.underlying54 Tryd.underlying3 (by kernel_rfl) (by kernel_rfl) h3
  refine ⟨fun k hk => ?_, fun k hk => ?_, fun k hk => ?_⟩
  · have h : k = 0 ∨ k = 1 ∨ k = 2 ∨ k = 3 ∨ k = 4 ∨ k = 5 ∨ k = 6 := by omega
    rcases h with rfl | rfl | rfl | rfl | rfl | rfl | rfl <;> exact c1 _ _ rfl
  · have h : k = 0 ∨ k = 1 ∨ k = 2 ∨ k = 3 ∨ k = 4 ∨ k = 5 ∨ k = 6 ∨ k = 7 ∨ k = 8 ∨ k = 9 ∨ k = 10 ∨ k = 11 := by omega
    rcases h with rfl | rfl | rfl | rfl | rfl | rfl | rfl | rfl | rfl | rfl | rfl | rfl <;> exact c2 _ _ rfl
  · have h := c3.cell hg3 k (by simpa using hk)
    rw [h]
    have h : k = 0 ∨ k = 1 ∨ k = 2 ∨ k = 3 ∨ k = 4 ∨ k = 5 ∨ k = 6 ∨ k = 7 ∨ k = 8 ∨ k = 9 ∨ k = 10 ∨ k = 11 := by omega
    rcases h with rfl | rfl | rfl | rfl | rfl | rfl | rfl | rfl | rfl | rfl | rfl | rfl <;> rfl

theorem own : ownKnob Tryd.prog.godebug = none := by kernel_rfl

def layRow (cs : Array Value) : Obj → Obj
  | .cells _ t frozen => .cells cs t frozen
  | o => o
def wdArr : Array Value := #[.string ⟨#[83, 117, 110]⟩, .string ⟨#[77, 111, 110]⟩, .string ⟨#[84, 117, 101]⟩, .string ⟨#[87, 101, 100]⟩, .string ⟨#[84, 104, 117]⟩, .string ⟨#[70, 114, 105]⟩, .string ⟨#[83, 97, 116]⟩]
def leArr : Array Value := #[.int .i64 31, .int .i64 28, .int .i64 31, .int .i64 30, .int .i64 31, .int .i64 30, .int .i64 31, .int .i64 31, .int .i64 30, .int .i64 31, .int .i64 30, .int .i64 31]
/-- a world in which the tables lie as their text lays them: the witness -/
noncomputable def laidWorld (os : Os) : World :=
  { World.holding Tryd.prog os ⟨#[], #[], []⟩ with heap := (((World.holding Tryd.prog os ⟨#[], #[], []⟩).heap.modify 0 (layRow wdArr)).modify 1 (layRow moArr)).modify 2 (layRow leArr) }

/-- an integer's bounds -/
theorem bounds_i64 {n : Int} (h : (Lit.int .i64 n).wf = true) : -9223372036854775808 ≤ n ∧ n ≤ 9223372036854775807 := by
  have h1 : IntKind.i64.min = -9223372036854775808 := rfl
  have h2 : IntKind.i64.max = 9223372036854775807 := rfl
  simp only [Lit.wf, Bool.and_eq_true, decide_eq_true_eq] at h
  omega
theorem bounds_u8' {n : Int} (h : (Lit.int .u8 n).wf = true) : 0 ≤ n ∧ n ≤ 255 := by
  have h1 : IntKind.u8.min = 0 := rfl
  have h2 : IntKind.u8.max = 255 := rfl
  simp only [Lit.wf, Bool.and_eq_true, decide_eq_true_eq] at h
  omega
end Go.Proofs.YtdbheaapeemlmaaDoor
