/-
  ShelfKeeps: for every input the law returns true, and each argument reads behind the call as it read before.
-/
import Derived.Test.YtfgjbbpkkbohhaaGreatSfZ
import Derived.Test.YtfgjbbpkkbohhaaGreatFacts
import Derived.Test.YtfgjbbpkkbohhaaGreatFacts
import Derived.Test.YtfgjbbpkkbohhaaGreatRows
namespace Go.Proofs.YtfgjbbpkkbohhaaGreat
open Go.ChangeShapes Go.WideShapes Go.ChangeAt Go.RowKit Go.ChangeMaps

namespace lawShelfKeeps
set_option maxRecDepth 100000 in
/-- WHAT THE WALK GIVES, FOR EVERY ARGUMENT. -/
theorem contract (H : Type) (enc : TypeId × Value → H) (W : World) (base : Nat) (args : Array Value) (ds gs : List (DataW H)) (before : List MemPlace)
    (hval : ∀ (j : Nat) t v, Tryz.f3.params[j]? = some t → args[j]? = some v → Value.okWide Tryz.prog W .any base t v)
    (hW : DataW.Whole enc Tryz.prog Tryz.f3.params.toList Rows.shelfKeepsSpec.vars false W args.toList ds gs before) :
    Calls Tryz.prog 3 args W fun e W' => ∃ v, e = .returned v ∧ Rows.shelfKeepsSpec.post enc Tryz.prog Tryz.f3 false true false false W args v W' := by
  have hW' := hW
  obtain ⟨p, q, hA0, hV, rfl, hfz, hnd⟩ := hW
  have hA : DataW.TrodAll enc Tryz.prog W 0 (fun _ => true) true Tryz.f3.params.toList args.toList ds p := hA0
  rw [Tryz.params3] at hA hval
  obtain ⟨v0, vs0, d0, ds0, pl0, q0, hargs, rfl, rfl, h0, r0⟩ := trodAll_cons hA
  obtain ⟨v1, vs1, d1, ds1, pl1, q1, rfl, rfl, rfl, h1, r1⟩ := trodAll_cons r0
  obtain ⟨v2, vs2, d2, ds2, pl2, q2, rfl, rfl, rfl, h2, r2⟩ := trodAll_cons r1
  obtain ⟨rfl, rfl, rfl⟩ := trodAll_nil r2
  obtain rfl : args = #[v0, v1, v2] := by cases args; simp_all
  obtain ⟨rfl, rfl⟩ := trodVars_none hV
  obtain ⟨x0, rfl, rfl, -, w0⟩ := open_int Tryz.underlying5 (hval 0 5 v0 rfl rfl) h0
  obtain ⟨x1, y1, rfl, w1, z1⟩ := open_two Tryz.underlying22 Tryz.underlying5 (by kernel_rfl) (by kernel_rfl) (hval 1 22 v1 rfl rfl) h1
  obtain ⟨x2, y2, rfl, w2, z2⟩ := open_two Tryz.underlying24 Tryz.underlying23 (by kernel_rfl) (by kernel_rfl) (hval 2 24 v2 rfl rfl) h2
  refine (keeps_lawI x0 x1 y1 x2 y2 (wf_u8 w0) (wf_u8 w1) (wf_u8 z1) (wf_u16 w2) (wf_u16 z2) W).mono fun e W' ⟨he, hx⟩ => ?_
  subst he
  exact ⟨_, rfl, law_post laid_out maps_rowed sized_all (show (Tryz.f3.params.toList.all fun t => decide (t < Tryz.prog.types.size)) = true by kernel_rfl) (show Tryz.f3.resultTypes = #[4] by kernel_rfl) Tryz.underlying4 rfl rfl rfl rfl hW' hx⟩

theorem reads (os : Os) {H : Type} (enc : TypeId × Value → H) : ∃ places, DataW.whole enc Tryz.prog ((World.holding Tryz.prog os ⟨#[], #[], []⟩).forCall (fun _ _ => 0) ⟨#[], #[.int .u8 0, .agg #[.int .u8 0, .int .u8 0], .agg #[.int .u16 0, .int .u16 0]], []⟩).memory Tryz.f3.params.toList Rows.shelfKeepsSpec.vars false (#[.int .u8 0, .agg #[.int .u8 0, .int .u8 0], .agg #[.int .u16 0, .int .u16 0]] : Array Value).toList 8 = some ([.lit (.int .u8 0), .agg [.lit (.int .u8 0), .lit (.int .u8 0)], .agg [.lit (.int .u16 0), .lit (.int .u16 0)]], [], places) :=
  ⟨[], by kernel_rfl⟩

set_option maxRecDepth 100000 in
theorem lifted (os : Os) (started : os.Started) (H : Type) (enc : TypeId × Value → H) (F : Stop.Interp) :
    ReturnsInHanded {} Tryz.checked os 3 .any ((OpenSpec.ofChange Rows.shelfKeepsSpec).preRow enc Tryz.prog Tryz.f3 Rows.shelfKeepsRow.domain false Rows.shelfKeepsRow.laid) (((OpenSpec.ofChange Rows.shelfKeepsSpec).at F).post enc Tryz.prog Tryz.f3 false true false false) := by
  obtain ⟨places, hx⟩ := reads os enc
  refine returnsInHanded_of_row (C := Tryz.checked) (s := OpenSpec.ofChange Rows.shelfKeepsSpec) own started (by kernel_rfl) Tryz.func3
    (witness_row_at (enc := enc) (C := Tryz.checked) false (World.holding Tryz.prog os ⟨#[], #[], []⟩) #[.int .u8 0, .agg #[.int .u8 0, .int .u8 0], .agg #[.int .u16 0, .int .u16 0]] rfl (by kernel_rfl) (by kernel_rfl) (by kernel_rfl)
      (OpenSpec.preRow_of_cond 8 hx (by kernel_rfl) (fun k hk => by cases hk) (by kernel_rfl) (laidMet_nil _ _))) ?_
  intro W base args ds gs before hval hW _ _ _ hL _ _
  exact contract H enc W base args ds gs before hval hW

theorem said : Rows.ShelfKeepsSaid :=
  OpenClaim.holds_of_cond 3 Tryz.f3 rfl rfl rfl rfl rfl rfl rfl ⟨rfl, rfl, rfl, rfl, rfl⟩ rfl rfl rfl rfl rfl (by kernel_rfl) Tryz.func3 (by kernel_rfl)
    (of_decide_eq_true (by kernel_rfl)) (by unfold Func.isWrapper; first | (rw [if_pos (by decide +kernel)]; kernel_rfl) | (rw [if_neg (by decide +kernel)]; exact ⟨rfl, rfl⟩))
    (fun os started H enc _ F => by rw [OpenClaim.pre_eq_preRow]; exact lifted os started H enc F)
end lawShelfKeeps
end Go.Proofs.YtfgjbbpkkbohhaaGreat
