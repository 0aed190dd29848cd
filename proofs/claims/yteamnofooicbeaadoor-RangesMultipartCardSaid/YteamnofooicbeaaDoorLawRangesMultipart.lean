/-
  RangesMultipart: for every input the law returns true, and each argument reads behind the call as it read before.
-/
import Derived.Test.YteamnofooicbeaaDoorRgZ
import Derived.Test.YteamnofooicbeaaDoorMpF
import Derived.Test.YteamnofooicbeaaDoorRo9
import Derived.Test.YteamnofooicbeaaDoorRoM
import Derived.Test.YteamnofooicbeaaDoorLw09b
import Derived.Test.YteamnofooicbeaaDoorTie
import Derived.Test.YteamnofooicbeaaDoorCards
import Derived.Test.YteamnofooicbeaaDoorFacts
import Derived.Test.YteamnofooicbeaaDoorRows
namespace Go.Proofs.YteamnofooicbeaaDoor
open Go.ChangeShapes Go.WideShapes Go.ChangeAt Go.RowKit Go.ChangeMaps

namespace lawRangesMultipart
set_option maxRecDepth 100000 in
/-- WHAT THE WALK GIVES, FOR EVERY ARGUMENT. -/
theorem contract (H : Type) (enc : TypeId × Value → H) (W : World) (base : Nat) (args : Array Value) (ds gs : List (DataW H)) (before : List MemPlace)
    (hval : ∀ (j : Nat) t v, Tryd.f11.params[j]? = some t → args[j]? = some v → Value.okWide Tryd.prog W .any base t v)
    (hW : DataW.Whole enc Tryd.prog Tryd.f11.params.toList Rows.rangesMultipartSpec.vars false W args.toList ds gs before) (hL : laidMetH Tryd.prog Rows.rangesMultipartRow.laid W) (hS : W.ShapedOpen Tryd.prog) (hZ : (DataW.weightsEach Tryd.prog (Tryd.f11.params.toList ++ (OpenSpec.ofChange Rows.rangesMultipartSpec).bare.plain.varTypes Tryd.prog) (ds ++ gs)).all (· ≤ reachBytes) = true) :
    Calls Tryd.prog 11 args W fun e W' => ∃ v, e = .returned v ∧ Rows.rangesMultipartSpec.post enc Tryd.prog Tryd.f11 false true false false W args v W' := by
  have hW' := hW
  obtain ⟨p, q, hA0, hV, rfl, hfz, hnd⟩ := hW
  have hA : DataW.TrodAll enc Tryd.prog W 0 (fun _ => true) true Tryd.f11.params.toList args.toList ds p := hA0
  rw [Tryd.params11] at hA hval
  obtain ⟨v0, vs0, d0, ds0, pl0, q0, hargs, rfl, rfl, h0, r0⟩ := trodAll_cons hA
  obtain ⟨rfl, rfl, rfl⟩ := trodAll_nil r0
  obtain rfl : args = #[v0] := by cases args; simp_all
  obtain ⟨rfl, rfl⟩ := trodVars_none hV
  obtain ⟨b0, k0, g0, sz0, lv0, xs0, d20, d30, rfl, hz0, hin0, rfl⟩ := open_multi (hval 0 88 v0 rfl rfl) h0
  refine (multipart_law b0 k0 g0 sz0 hz0 (multi_sizes hZ rfl rfl).1 (multi_sizes hZ rfl rfl).2.1 (multi_sizes hZ rfl rfl).2.2 hin0 (maxL_of hS) (powT_of hL)).mono fun e W' ⟨he, hx⟩ => ?_
  subst he
  exact ⟨_, rfl, law_post laid_out maps_rowed sized_all (show (Tryd.f11.params.toList.all fun t => decide (t < Tryd.prog.types.size)) = true by kernel_rfl) (show Tryd.f11.resultTypes = #[4] by kernel_rfl) Tryd.underlying4 rfl rfl rfl rfl hW' hx⟩

theorem laid_met (os : Os) : laidMet Tryd.prog Rows.rangesMultipartRow.laid ((laidWorld os).forCall (fun _ _ => 0) ⟨#[], #[.agg #[.string ⟨#[]⟩, .string ⟨#[]⟩, .slice none 0 0, .int .u16 0, .string ⟨#[]⟩]], []⟩).memory :=
  laidMet_of_run' 24 (by kernel_rfl) (by kernel_rfl)
theorem reads (os : Os) {H : Type} (enc : TypeId × Value → H) : ∃ places, DataW.whole enc Tryd.prog ((laidWorld os).forCall (fun _ _ => 0) ⟨#[], #[.agg #[.string ⟨#[]⟩, .string ⟨#[]⟩, .slice none 0 0, .int .u16 0, .string ⟨#[]⟩]], []⟩).memory Tryd.f11.params.toList Rows.rangesMultipartSpec.vars false (#[.agg #[.string ⟨#[]⟩, .string ⟨#[]⟩, .slice none 0 0, .int .u16 0, .string ⟨#[]⟩]] : Array Value).toList 8 = some ([.agg [.lit (.string []), .lit (.string []), .nil, .lit (.int .u16 0), .lit (.string [])]], [], places) :=
  ⟨[], by kernel_rfl⟩

set_option maxRecDepth 100000 in
theorem lifted (os : Os) (started : os.Started) (H : Type) (enc : TypeId × Value → H) (F : Stop.Interp) :
    ReturnsInHanded {} Tryd.checked os 11 .any ((OpenSpec.ofChange Rows.rangesMultipartSpec).preRow enc Tryd.prog Tryd.f11 Rows.rangesMultipartRow.domain false Rows.rangesMultipartRow.laid) (((OpenSpec.ofChange Rows.rangesMultipartSpec).at F).post enc Tryd.prog Tryd.f11 false true false false) := by
  obtain ⟨places, hx⟩ := reads os enc
  refine returnsInHanded_of_row (C := Tryd.checked) (s := OpenSpec.ofChange Rows.rangesMultipartSpec) own started (by kernel_rfl) Tryd.func11
    (witness_row_at (enc := enc) (C := Tryd.checked) false (laidWorld os) #[.agg #[.string ⟨#[]⟩, .string ⟨#[]⟩, .slice none 0 0, .int .u16 0, .string ⟨#[]⟩]] rfl (by kernel_rfl) (by kernel_rfl) (by kernel_rfl)
      (OpenSpec.preRow_of_cond 8 hx (by kernel_rfl) (fun k hk => by cases hk) (by kernel_rfl) (laid_met os))) ?_
  intro W base args ds gs before hval hW _ _ hZ hL hS _
  exact contract H enc W base args ds gs before hval hW hL hS hZ

theorem said : Rows.RangesMultipartSaid :=
  OpenClaim.holds_of_cond 11 Tryd.f11 rfl rfl rfl rfl rfl rfl rfl ⟨rfl, rfl, rfl, rfl, rfl⟩ rfl rfl rfl rfl rfl (by kernel_rfl) Tryd.func11 (by kernel_rfl)
    (of_decide_eq_true (by kernel_rfl)) (by unfold Func.isWrapper; first | (rw [if_pos (by decide +kernel)]; kernel_rfl) | (rw [if_neg (by decide +kernel)]; exact ⟨rfl, rfl⟩))
    (fun os started H enc _ F => by rw [OpenClaim.pre_eq_preRow]; exact lifted os started H enc F)
theorem plain (f : FuncId) (fn : Func) (hf : Tryd.pinned.checked.prog.funcNamed "quayside/quaysidelaw09.RangesMultipart" = some f) (hfn : Tryd.pinned.checked.prog.funcs[f]? = some fn) :
    true = Tryd.pinned.checked.prog.looks [] ∧ ∀ (j : Nat) t, fn.params[j]? = some t → Tryd.pinned.checked.prog.wantsStandIn t = false := by
  obtain rfl : f = 11 := Option.some.inj ((show Tryd.prog.funcNamed "quayside/quaysidelaw09.RangesMultipart" = some 11 by kernel_rfl).symm.trans hf) |>.symm
  obtain rfl : fn = Tryd.f11 := (Option.some.inj (Tryd.func11.symm.trans hfn)).symm
  refine ⟨by kernel_rfl, fun j t ht => ?_⟩
  rw [Tryd.params11] at ht
  have hm := Array.mem_of_getElem? ht
  have hm2 : t = 88 := by simp at hm; grind
  subst hm2
  exact (show Tryd.prog.wantsStandIn 88 = false by kernel_rfl)
theorem card : Rows.RangesMultipartCardSaid :=
  Claim7.holds_tied_plain_at .later [] _ _ _ _ said (fun _ h => by cases h) (by kernel_rfl) (fun _ h => by cases h) rangesMultipart_row_tie rfl ⟨rfl, rfl⟩ (by kernel_rfl) rfl plain (by kernel_rfl)
end lawRangesMultipart
end Go.Proofs.YteamnofooicbeaaDoor
