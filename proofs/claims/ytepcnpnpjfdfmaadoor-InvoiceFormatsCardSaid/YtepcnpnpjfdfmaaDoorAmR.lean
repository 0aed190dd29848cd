/- Walk of the specification's Amount. -/
import Derived.Test.YtepcnpnpjfdfmaaDoorDig
import Derived.Deep.RegionHeld3
import Derived.Deep.RegionWith
import Derived.Deep.DrawnRows
import Derived.Deep.DeepCutAuto
namespace Go.Proofs.YtepcnpnpjfdfmaaDoor
open Go.RowKit Go.Sort
attribute [local go_sem ↓] Go.wp_at_zero Go.wp_at_succ

theorem Ext.both {W w1 : World} (hb : Ext W w1) : (∀ b o, b < W.heap.size → w1.cell? ⟨b, o, none⟩ = W.cell? ⟨b, o, none⟩) ∧ (∀ b o, b < W.heap.size → w1.frozen? ⟨b, o, none⟩ = W.frozen? ⟨b, o, none⟩) :=
  ⟨fun b o h => Below.cell hb (p := ⟨b, o, none⟩) h, fun b o h => Below.frozen hb (p := ⟨b, o, none⟩) h⟩
theorem strOfNums_size2 (x y : Int) : (strOfNums [x, y]).size = 2 := by
  have h := congrArg List.length (strOfNums_data [x, y])
  have e : (strOfNums [x, y]).data.toList.length = (strOfNums [x, y]).size := Array.length_toList
  rw [← e, h]
  rfl
theorem amr_end (g : List UInt8) (u : Nat) : ((⟨g.toArray⟩ : ByteArray) ++ itoS ((u / 100 : Nat) : Int) ++ ⟨#[46]⟩ ++ strOfNums [(48 : Int) + ((u % 100 / 10 : Nat) : Int), (48 : Int) + ((u % 100 % 10 : Nat) : Int)]) = ⟨(g ++ amtL u).toArray⟩ := by
  apply ba_list
  rw [ba_app, ba_app, ba_app, strOfNums_data]
  unfold itoS amtL
  rw [Lib.itoa_nonneg]
  have e1 : ((48 : Int) + ((u % 100 / 10 : Nat) : Int)).toNat = 48 + u / 10 % 10 := by omega
  have e2 : ((48 : Int) + ((u % 100 % 10 : Nat) : Int)).toNat = 48 + u % 10 := by omega
  simp only [List.map_cons, List.map_nil, e1, e2]
  simp [List.append_assoc]

set_option maxRecDepth 100000 in
set_option maxHeartbeats 4000000 in
theorem ramount_pos (u : Nat) (hu : u < 9223372036854775808) (w : World) :
    Calls Tryd.prog 14 #[.int .i64 u] w fun e w' => e = .returned (.string ⟨([] ++ amtL u).toArray⟩) ∧ Ext w w' := by
  have hz : ¬ (u : Int) < 0 := by omega
  have hq : (u : Int) / 100 = ((u / 100 : Nat) : Int) := by omega
  have hr : (u : Int) % 100 = ((u % 100 : Nat) : Int) := by omega
  have ha : ((u % 100 : Nat) : Int) / 10 = ((u % 100 / 10 : Nat) : Int) := by omega
  have hb : ((u % 100 : Nat) : Int) % 10 = ((u % 100 % 10 : Nat) : Int) := by omega
  have HE := Lib.hid (amr_end [] u)
  have HD : Hid (∀ w, Calls Tryd.prog 13 #[.int .i64 ((u / 100 : Nat) : Int)] w fun e w' => e = .returned (.string (itoS ((u / 100 : Nat) : Int))) ∧ Ext w w') := Lib.hid (fun w => digits_any _ w (by omega) (by omega))
  have z1 := Lib.itoa_length_le ((u / 100 : Nat) : Int) (by omega) (by omega)
  obtain ⟨q, hqq⟩ : ∃ q, q = u / 100 := ⟨_, rfl⟩
  obtain ⟨r, hrr⟩ : ∃ r, r = u % 100 := ⟨_, rfl⟩
  rw [← hqq] at hq HE HD z1
  rw [← hrr] at hr ha hb HE
  obtain ⟨a, haa⟩ : ∃ a, a = r / 10 := ⟨_, rfl⟩
  obtain ⟨b, hbb⟩ : ∃ b, b = r % 10 := ⟨_, rfl⟩
  rw [← haa] at ha HE
  rw [← hbb] at hb HE
  have a9 : (a : Int) ≤ 9 := by omega
  have b9 : (b : Int) ≤ 9 := by omega
  have r9 : (r : Int) ≤ 99 := by omega
  have q9 : (q : Int) ≤ 92233720368547758 := by omega
  have wa := IntWalk.i64_in (48 + (a : Int)) (by omega)
  have wb := IntWalk.i64_in (48 + (b : Int)) (by omega)
  have hcv : ∀ (W : World) (g : Nat), W.cell? ⟨g, 0, none⟩ = some (.int .u8 (48 + (a : Int))) → W.cell? ⟨g, 1, none⟩ = some (.int .u8 (48 + (b : Int))) → (convert 35 9 (.slice (some ⟨g, 0, none⟩) 2 2)).run Tryd.prog W = .ok (.string (strOfNums [48 + (a : Int), 48 + (b : Int)])) W := fun W g h h' => conv2 W g _ _ h h'
  have wa0 := IntWalk.i64_in (a : Int) (by omega)
  have htm : (r : Int).tmod 10 = (b : Int) := by rw [Int.tmod_eq_emod_of_nonneg (by omega)]; exact hb
  have ua : IntKind.u8.wrap (48 + (a : Int)) = 48 + (a : Int) := by rw [IntKind.wrap_u8]; omega
  have ub : IntKind.u8.wrap (48 + (b : Int)) = 48 + (b : Int) := by rw [IntKind.wrap_u8]; omega
  have z2 : (strOfNums [48 + (a : Int), 48 + (b : Int)]).size = 2 := strOfNums_size2 _ _
  clear hqq hrr haa hbb hu
  go_enter Tryd.func14, Tryd.ntmps14
  go_upto_region 5 with fail
  rw [hr]
  go_region_with (first
    | (go_at_call 13; refine (HD.out _).mono ?_; rintro e w1 ⟨rfl, hx⟩; obtain ⟨hc, hf⟩ := hx.both))
  all_goals go_wp2_with fail
  all_goals go_ret
  all_goals refine ⟨ret_str HE.out, ?_⟩
  all_goals (repeat' (first | assumption | exact Ext.refl _ | refine Ext.drew ?_ | refine Ext.alloc ?_ _ | refine Ext.trans ?_ (by assumption)))

set_option maxRecDepth 100000 in
set_option maxHeartbeats 4000000 in
theorem ramount_neg (u : Nat) (hu1 : 1 ≤ u) (hu : u ≤ 9223372036854775808) (w : World) :
    Calls Tryd.prog 14 #[.int .i64 (-(u : Int))] w fun e w' => e = .returned (.string ⟨([45] ++ amtL u).toArray⟩) ∧ Ext w w' := by
  have hz : -(u : Int) < 0 := by omega
  have hz2 : 0 < u := hu1
  have hq : (-(u : Int)).tdiv 100 = -((u / 100 : Nat) : Int) := tdiv_neg_nat u 100
  have hr : (-(u : Int)).tmod 100 = -((u % 100 : Nat) : Int) := tmod_neg_nat u 100
  have ha : ((u % 100 : Nat) : Int) / 10 = ((u % 100 / 10 : Nat) : Int) := by omega
  have hb : ((u % 100 : Nat) : Int) % 10 = ((u % 100 % 10 : Nat) : Int) := by omega
  have HE := Lib.hid (amr_end [45] u)
  have HD : Hid (∀ w, Calls Tryd.prog 13 #[.int .i64 ((u / 100 : Nat) : Int)] w fun e w' => e = .returned (.string (itoS ((u / 100 : Nat) : Int))) ∧ Ext w w') := Lib.hid (fun w => digits_any _ w (by omega) (by omega))
  have z1 := Lib.itoa_length_le ((u / 100 : Nat) : Int) (by omega) (by omega)
  obtain ⟨q, hqq⟩ : ∃ q, q = u / 100 := ⟨_, rfl⟩
  obtain ⟨r, hrr⟩ : ∃ r, r = u % 100 := ⟨_, rfl⟩
  rw [← hqq] at hq HE HD z1
  rw [← hrr] at hr ha hb HE
  obtain ⟨a, haa⟩ : ∃ a, a = r / 10 := ⟨_, rfl⟩
  obtain ⟨b, hbb⟩ : ∃ b, b = r % 10 := ⟨_, rfl⟩
  rw [← haa] at ha HE
  rw [← hbb] at hb HE
  have a9 : (a : Int) ≤ 9 := by omega
  have b9 : (b : Int) ≤ 9 := by omega
  have r9 : (r : Int) ≤ 99 := by omega
  have q9 : (q : Int) ≤ 92233720368547758 := by omega
  have wq := IntWalk.i64_in (-(q : Int)) (by omega)
  have wr := IntWalk.i64_in (-(r : Int)) (by omega)
  have wa := IntWalk.i64_in (48 + (a : Int)) (by omega)
  have wb := IntWalk.i64_in (48 + (b : Int)) (by omega)
  have hcv : ∀ (W : World) (g : Nat), W.cell? ⟨g, 0, none⟩ = some (.int .u8 (48 + (a : Int))) → W.cell? ⟨g, 1, none⟩ = some (.int .u8 (48 + (b : Int))) → (convert 35 9 (.slice (some ⟨g, 0, none⟩) 2 2)).run Tryd.prog W = .ok (.string (strOfNums [48 + (a : Int), 48 + (b : Int)])) W := fun W g h h' => conv2 W g _ _ h h'
  have wa0 := IntWalk.i64_in (a : Int) (by omega)
  have htm : (r : Int).tmod 10 = (b : Int) := by rw [Int.tmod_eq_emod_of_nonneg (by omega)]; exact hb
  have ua : IntKind.u8.wrap (48 + (a : Int)) = 48 + (a : Int) := by rw [IntKind.wrap_u8]; omega
  have ub : IntKind.u8.wrap (48 + (b : Int)) = 48 + (b : Int) := by rw [IntKind.wrap_u8]; omega
  have z2 : (strOfNums [48 + (a : Int), 48 + (b : Int)]).size = 2 := strOfNums_size2 _ _
  clear hqq hrr haa hbb hu hu1
  go_enter Tryd.func14, Tryd.ntmps14
  go_upto_region 5 with fail
  go_region_with (first
    | (go_at_call 13; refine (HD.out _).mono ?_; rintro e w1 ⟨rfl, hx⟩; obtain ⟨hc, hf⟩ := hx.both))
  all_goals go_wp2_with fail
  all_goals go_ret
  all_goals refine ⟨ret_str HE.out, ?_⟩
  all_goals (repeat' (first | assumption | exact Ext.refl _ | refine Ext.drew ?_ | refine Ext.alloc ?_ _ | refine Ext.trans ?_ (by assumption)))
end Go.Proofs.YtepcnpnpjfdfmaaDoor
