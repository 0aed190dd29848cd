/- Walk of quaysidebase.Digits: the decimal numeral. -/
import Derived.Test.YtepcnpnpjfdfmaaDoorAmt
namespace Go.Proofs.YtepcnpnpjfdfmaaDoor
open Go.RowKit Go.Sort

theorem itoa_small {u : Nat} (h : u < 10) : Lib.itoa (u : Int) = [UInt8.ofNat (48 + u)] := by rw [Lib.itoa_nonneg, Lib.decDigits_one h]
theorem itoa_step {u : Nat} (h : ¬ u < 10) : Lib.itoa (u : Int) = Lib.itoa ((u / 10 : Nat) : Int) ++ Lib.itoa ((u % 10 : Nat) : Int) := by
  rw [Lib.itoa_nonneg, Lib.itoa_nonneg, itoa_small (Nat.mod_lt _ (by omega)), Lib.decDigits, dif_neg h]
theorem itoa_neg1 {u : Nat} (h : 1 ≤ u) : Lib.itoa (-(u : Int)) = 45 :: Lib.itoa (u : Int) := by rw [Lib.itoa_neg u h, Lib.itoa_nonneg]
theorem itoa_negs {u : Nat} (h : ¬ u < 10) : Lib.itoa (-(u : Int)) = Lib.itoa (-((u / 10 : Nat) : Int)) ++ Lib.itoa ((u % 10 : Nat) : Int) := by
  rw [itoa_neg1 (by omega), itoa_neg1 (by omega), itoa_step h, List.cons_append]
theorem itoS_app (a b : List UInt8) : ((⟨a.toArray⟩ : ByteArray) ++ ⟨b.toArray⟩) = ⟨(a ++ b).toArray⟩ := by
  apply ba_list
  rw [ba_app]

theorem itoS_size (n : Int) (h0 : -9223372036854775808 ≤ n) (h1 : n ≤ 9223372036854775807) : (itoS n).size ≤ 21 := by
  show (Lib.itoa n).toArray.size ≤ 21
  rw [List.size_toArray]
  exact Lib.itoa_length_le n h0 h1
theorem conv1 (W : World) (g : Nat) (a : Int) (h : W.cell? ⟨g, 0, none⟩ = some (.int .u8 a)) : (convert 35 9 (.slice (some ⟨g, 0, none⟩) 1 1)).run Tryd.prog W = .ok (.string (strOfNums [a])) W := by
  refine run_convert_bytes_arg W 35 5 Tryd.underlying35 Tryd.underlying5 g 0 1 1 [a] rfl (fun i hi => ?_) 9 Tryd.underlying9
  obtain rfl : i = 0 := by omega
  exact h
theorem conv2 (W : World) (g : Nat) (a b : Int) (h : W.cell? ⟨g, 0, none⟩ = some (.int .u8 a)) (h' : W.cell? ⟨g, 1, none⟩ = some (.int .u8 b)) : (convert 35 9 (.slice (some ⟨g, 0, none⟩) 2 2)).run Tryd.prog W = .ok (.string (strOfNums [a, b])) W := by
  refine run_convert_bytes_arg W 35 5 Tryd.underlying35 Tryd.underlying5 g 0 2 2 [a, b] rfl (fun i hi => ?_) 9 Tryd.underlying9
  match i, hi with
  | 0, _ => exact h
  | 1, _ => exact h'
theorem str_one {u : Nat} (h : u < 10) : strOfNums [(48 : Int) + (u : Int)] = itoS (u : Int) := by
  rw [show itoS (u : Int) = ⟨[UInt8.ofNat (48 + u)].toArray⟩ from by unfold itoS; rw [itoa_small h]]
  apply ba_list
  rw [strOfNums_data]
  have e : ((48 : Int) + (u : Int)).toNat = 48 + u := by omega
  simp [e]

set_option maxRecDepth 100000 in
set_option maxHeartbeats 2000000 in
theorem digits_nat (u : Nat) : ∀ (w : World), u ≤ 9223372036854775807 → Calls Tryd.prog 13 #[.int .i64 u] w fun e w' => e = .returned (.string (itoS u)) ∧ Ext w w' := by
  induction u using Nat.strongRecOn with
  | _ u ih =>
    intro w hu
    by_cases h : u < 10
    · have hi : (u : Int) < 10 := by omega
      have hc := conv1 (w.alloc (.cells #[.int .u8 (48 + (u : Int))] 5)) w.heap.size (48 + (u : Int)) (by simp)
      have HS := Lib.hid (str_one h)
      clear hu ih h
      go_enter Tryd.func13, Tryd.ntmps13
      go_wp2_with fail
      go_ret
      exact ⟨ret_str HS.out, (Ext.refl w).alloc _⟩
    · have hi : ¬ (u : Int) < 10 := by omega
      have hd : (u : Int) / 10 = ((u / 10 : Nat) : Int) := by omega
      have hm : (u : Int) % 10 = ((u % 10 : Nat) : Int) := by omega
      have i1 := ih (u / 10) (by omega)
      have i2 := ih (u % 10) (by omega)
      have H1 : Hid (∀ w, Calls Tryd.prog 13 #[.int .i64 ((u / 10 : Nat) : Int)] w fun e w' => e = .returned (.string (itoS ((u / 10 : Nat) : Int))) ∧ Ext w w') := Lib.hid (fun w => i1 w (by omega))
      have H2 : Hid (∀ w, Calls Tryd.prog 13 #[.int .i64 ((u % 10 : Nat) : Int)] w fun e w' => e = .returned (.string (itoS ((u % 10 : Nat) : Int))) ∧ Ext w w') := Lib.hid (fun w => i2 w (by omega))
      have HS := Lib.hid (itoa_step h)
      obtain ⟨d, hdd⟩ : ∃ d, d = u / 10 := ⟨_, rfl⟩
      obtain ⟨m, hmm⟩ : ∃ m, m = u % 10 := ⟨_, rfl⟩
      rw [← hdd] at hd H1 HS
      rw [← hmm] at hm H2 HS
      have hub : (u : Int) ≤ 9223372036854775807 := by omega
      have z1 := itoS_size (d : Int) (by omega) (by omega)
      have z2 := itoS_size (m : Int) (by omega) (by omega)
      clear i1 i2 ih h hdd hmm hu
      go_enter Tryd.func13, Tryd.ntmps13
      go_wp2_with fail
      refine (H1.out _).mono ?_
      rintro e w1 ⟨rfl, h1⟩
      go_wp2_with fail
      refine (H2.out _).mono ?_
      rintro e w2 ⟨rfl, h2⟩
      go_wp2_with fail
      go_ret
      exact ⟨ret_str (by rw [itoS_app]; unfold itoS; rw [HS.out]), h1.trans h2⟩

theorem tdiv_neg_nat (u k : Nat) : (-(u : Int)).tdiv (k : Int) = -((u / k : Nat) : Int) := by
  rw [Int.neg_tdiv, Int.tdiv_eq_ediv_of_nonneg (by omega), Int.natCast_ediv]
theorem tmod_neg_nat (u k : Nat) : (-(u : Int)).tmod (k : Int) = -((u % k : Nat) : Int) := by
  rw [Int.neg_tmod, Int.tmod_eq_emod_of_nonneg (by omega), Int.natCast_emod]

set_option maxRecDepth 100000 in
set_option maxHeartbeats 2000000 in
theorem digits_neg (u : Nat) : ∀ (w : World), 1 ≤ u → u ≤ 9223372036854775808 → Calls Tryd.prog 13 #[.int .i64 (-(u : Int))] w fun e w' => e = .returned (.string (itoS (-(u : Int)))) ∧ Ext w w' := by
  induction u using Nat.strongRecOn with
  | _ u ih =>
    intro w h1 hu
    have hz : -(u : Int) < 0 := by omega
    have hd : (-(u : Int)).tdiv 10 = -((u / 10 : Nat) : Int) := tdiv_neg_nat u 10
    have hm : (-(u : Int)).tmod 10 = -((u % 10 : Nat) : Int) := tmod_neg_nat u 10
    obtain ⟨d, hdd⟩ : ∃ d, d = u / 10 := ⟨_, rfl⟩
    obtain ⟨m, hmm⟩ : ∃ m, m = u % 10 := ⟨_, rfl⟩
    have hwd := IntWalk.i64_in (-(d : Int)) (by omega)
    have hwm := IntWalk.i64_in (-(m : Int)) (by omega)
    by_cases h : u < 10
    · have hdz : d = 0 := by omega
      have HS := Lib.hid (itoa_neg1 h1)
      have HU := Lib.hid (show u ≤ 9223372036854775807 by omega)
      have hub : (u : Int) ≤ 10 := by omega
      have z1 := Lib.itoa_length_le (u : Int) (by omega) (by omega)
      rw [← hdd, hdz] at hd
      clear hu ih h h1 hm hdd hmm hwd hwm
      go_enter Tryd.func13, Tryd.ntmps13
      go_wp2_with fail
      refine (digits_nat u _ HU.out).mono ?_
      rintro e w1 ⟨rfl, hx⟩
      go_wp2_with fail
      go_ret
      exact ⟨ret_str (by rw [itoS_app [45]]; unfold itoS; rw [HS.out]; rfl), hx⟩
    · have H1 : Hid (∀ w, Calls Tryd.prog 13 #[.int .i64 (-((u / 10 : Nat) : Int))] w fun e w' => e = .returned (.string (itoS (-((u / 10 : Nat) : Int)))) ∧ Ext w w') := Lib.hid (fun w => ih (u / 10) (by omega) w (by omega) (by omega))
      have H2 : Hid (∀ w, Calls Tryd.prog 13 #[.int .i64 ((u % 10 : Nat) : Int)] w fun e w' => e = .returned (.string (itoS ((u % 10 : Nat) : Int))) ∧ Ext w w') := Lib.hid (fun w => digits_nat (u % 10) w (by omega))
      have HS := Lib.hid (itoa_negs h)
      have hdz : ((d : Int) == 0) = false := by simp; omega
      have hdz2 : (-(d : Int) == 0) = false := by simp; omega
      have hmb : (m : Int) ≤ 9 := by omega
      have z1 := itoS_size (-(d : Int)) (by omega) (by omega)
      have z2 := itoS_size (m : Int) (by omega) (by omega)
      rw [← hdd] at hd H1 HS
      rw [← hmm] at hm H2 HS
      clear ih h hu hdd hmm h1
      go_enter Tryd.func13, Tryd.ntmps13
      go_wp2_with fail
      refine (H1.out _).mono ?_
      rintro e w1 ⟨rfl, hx1⟩
      go_wp2_with fail
      refine (H2.out _).mono ?_
      rintro e w2 ⟨rfl, hx2⟩
      go_wp2_with fail
      go_ret
      exact ⟨ret_str (by rw [itoS_app]; unfold itoS; rw [HS.out]), hx1.trans hx2⟩

theorem digits_any (n : Int) (w : World) (h0 : -9223372036854775808 ≤ n) (h1 : n ≤ 9223372036854775807) : Calls Tryd.prog 13 #[.int .i64 n] w fun e w' => e = .returned (.string (itoS n)) ∧ Ext w w' := by
  by_cases h : n < 0
  · obtain ⟨u, rfl⟩ : ∃ u : Nat, n = -(u : Int) := ⟨n.natAbs, by omega⟩
    exact digits_neg u w (by omega) (by omega)
  · obtain ⟨u, rfl⟩ : ∃ u : Nat, n = (u : Int) := ⟨n.toNat, by omega⟩
    exact digits_nat u w (by omega)
end Go.Proofs.YtepcnpnpjfdfmaaDoor
