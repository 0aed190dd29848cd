/- Chapter 09: numbers in decimal. -/
import Derived.Test.YteamnofooicbeaaDoorRgO
import Derived.Lib.ItoaMem
import Derived.Lib.ItoaLen
namespace Go.Proofs.YteamnofooicbeaaDoor
open Go.RowKit Go.Sort
abbrev itoS (n : Int) : ByteArray := ⟨(Lib.itoa n).toArray⟩
theorem itoa_small {u : Nat} (h : u < 10) : Lib.itoa (u : Int) = [UInt8.ofNat (48 + u)] := by rw [Lib.itoa_nonneg, Lib.decDigits_one h]
theorem itoa_step {u : Nat} (h : ¬ u < 10) : Lib.itoa (u : Int) = Lib.itoa ((u / 10 : Nat) : Int) ++ Lib.itoa ((u % 10 : Nat) : Int) := by
  rw [Lib.itoa_nonneg, Lib.itoa_nonneg, itoa_small (Nat.mod_lt _ (by omega)), Lib.decDigits, dif_neg h]
theorem itoS_app (a b : List UInt8) : ((⟨a.toArray⟩ : ByteArray) ++ ⟨b.toArray⟩) = ⟨(a ++ b).toArray⟩ := by
  apply bs_ext
  rw [bs_mk, ByteArray.toList_eq]
  simp
theorem itoS_size (n : Int) (h0 : -9223372036854775808 ≤ n) (h1 : n ≤ 9223372036854775807) : (itoS n).size ≤ 21 := by
  show (Lib.itoa n).toArray.size ≤ 21
  rw [List.size_toArray]
  exact Lib.itoa_length_le n h0 h1
theorem conv1 (W : World) (g : Nat) (a : Int) (h : W.cell? ⟨g, 0, none⟩ = some (.int .u8 a)) : (convert 60 9 (.slice (some ⟨g, 0, none⟩) 1 1)).run Tryd.prog W = .ok (.string (strOfNums [a])) W := by
  refine run_convert_bytes_arg W 60 5 Tryd.underlying60 Tryd.underlying5 g 0 1 1 [a] rfl (fun i hi => ?_) 9 Tryd.underlying9
  obtain rfl : i = 0 := by omega
  exact h
theorem str_one {u : Nat} (h : u < 10) : strOfNums [(48 : Int) + (u : Int)] = itoS (u : Int) := by
  rw [show itoS (u : Int) = ⟨[UInt8.ofNat (48 + u)].toArray⟩ from by unfold itoS; rw [itoa_small h]]
  apply bs_ext
  rw [ByteArray.toList_eq, strOfNums_data]
  have e : ((48 : Int) + (u : Int)).toNat = 48 + u := by omega
  simp [e]
set_option maxRecDepth 100000 in
set_option maxHeartbeats 400000 in
theorem text_nat (u : Nat) : ∀ (w : World), u ≤ 9223372036854775807 → Calls Tryd.prog 17 #[.int .i64 u] w fun e w' => e = .returned (.string (itoS u)) ∧ Ext w w' := by
  induction u using Nat.strongRecOn with
  | _ u ih =>
    intro w hu
    have hm : (u : Int) % 10 = ((u % 10 : Nat) : Int) := by omega
    have hml : u % 10 < 10 := Nat.mod_lt _ (by omega)
    have w1' : IntKind.u8.wrap (48 + ((u % 10 : Nat) : Int)) = 48 + ((u % 10 : Nat) : Int) := by rw [IntKind.wrap_u8]; omega
    have w2' : wrap64 (48 + ((u % 10 : Nat) : Int)) = 48 + ((u % 10 : Nat) : Int) := by unfold wrap64; omega
    have hc := conv1 (w.alloc (.cells #[.int .u8 (48 + ((u % 10 : Nat) : Int))] 5)) w.heap.size (48 + ((u % 10 : Nat) : Int)) (by simp)
    rw [str_one hml] at hc
    by_cases h : u < 10
    · have hi : ¬ (10 : Int) ≤ (u : Int) := by omega
      have HS : Hid (itoS ((u % 10 : Nat) : Int) = itoS u) := Lib.hid (by rw [Nat.mod_eq_of_lt h])
      obtain ⟨m, hmm⟩ : ∃ m, u % 10 = m := ⟨_, rfl⟩
      rw [hmm] at hm w1' w2' hc HS hml
      clear hmm ih h hu
      go_enter Tryd.func17, Tryd.ntmps17
      go_wp2_with fail
      go_ret
      exact ⟨ret_str HS.out, (Ext.refl w).alloc _⟩
    · have hi : (10 : Int) ≤ (u : Int) := by omega
      have hub : (u : Int) ≤ 9223372036854775807 := by omega
      have hd : (u : Int) / 10 = ((u / 10 : Nat) : Int) := by omega
      have i1 := ih (u / 10) (by omega)
      have H1 : Hid (∀ w, Calls Tryd.prog 17 #[.int .i64 ((u / 10 : Nat) : Int)] w fun e w' => e = .returned (.string (itoS ((u / 10 : Nat) : Int))) ∧ Ext w w') := Lib.hid (fun w => i1 w (by omega))
      have HS := Lib.hid (itoa_step h)
      have z1 := itoS_size ((u / 10 : Nat) : Int) (by omega) (by omega)
      have z2 := itoS_size ((u % 10 : Nat) : Int) (by omega) (by omega)
      obtain ⟨d, hdd⟩ : ∃ d, u / 10 = d := ⟨_, rfl⟩
      obtain ⟨m, hmm⟩ : ∃ m, u % 10 = m := ⟨_, rfl⟩
      rw [hdd] at hd H1 HS z1
      rw [hmm] at hm w1' w2' hc HS hml z2
      clear i1 ih h hdd hmm hu
      go_enter Tryd.func17, Tryd.ntmps17
      go_wp2_with fail
      refine (H1.out _).mono ?_
      rintro e w2 ⟨rfl, h2⟩
      go_wp2_with fail
      go_ret
      exact ⟨ret_str (by rw [itoS_app]; unfold itoS; rw [HS.out]), ((Ext.refl w).alloc _).trans h2⟩
/-! ### what such a numeral reads as -/
def valL (l : List UInt8) : Nat := l.foldl (fun n c => 10 * n + (c.toNat - 48)) 0
theorem valL_snoc (l : List UInt8) (c : UInt8) : valL (l ++ [c]) = 10 * valL l + (c.toNat - 48) := by unfold valL; rw [List.foldl_append]; rfl
theorem byt_mk (l : List UInt8) (k : Nat) (h : k < l.length) : byt ⟨l.toArray⟩ k = (l[k]'h).toNat := by
  have hs : k < (⟨l.toArray⟩ : ByteArray).size := by rw [size_list, bs_mk]; exact h
  rw [byt_is hs]
  have h1 := at_list ⟨l.toArray⟩ k hs
  rw [bs_mk, List.getElem?_eq_getElem h] at h1
  rw [Option.some.inj h1]
theorem valP_mk (l : List UInt8) : ∀ k, k ≤ l.length → valP ⟨l.toArray⟩ k = valL (l.take k)
  | 0, _ => by simp [valP, valL]
  | k + 1, h => by
    rw [List.take_add_one, List.getElem?_eq_getElem (by omega)]
    simp only [Option.toList_some]
    rw [valL_snoc, ← valP_mk l k (by omega), ← byt_mk l k (by omega)]
    rfl
theorem digs_mk {l : List UInt8} (h : ∀ c ∈ l, 48 ≤ c.toNat ∧ c.toNat ≤ 57) : digs ⟨l.toArray⟩ = true := by
  unfold digs
  refine decide_eq_true fun i hi => ?_
  rw [size_list, bs_mk] at hi
  rw [byt_mk l i hi]
  exact h _ (List.getElem_mem hi)
theorem itoa_digs (u : Nat) : ∀ c ∈ Lib.itoa (u : Int), 48 ≤ c.toNat ∧ c.toNat ≤ 57 := by
  induction u using Nat.strongRecOn with
  | _ u ih =>
    by_cases h : u < 10
    · intro c hc
      rw [itoa_small h, List.mem_singleton] at hc
      rw [hc]
      simp
      omega
    · intro c hc
      rw [itoa_step h, List.mem_append] at hc
      rcases hc with hc | hc
      · exact ih (u / 10) (by omega) c hc
      · exact ih (u % 10) (by omega) c hc
theorem itoa_val (u : Nat) : valL (Lib.itoa (u : Int)) = u := by
  induction u using Nat.strongRecOn with
  | _ u ih =>
    by_cases h : u < 10
    · rw [itoa_small h]
      simp [valL]
      omega
    · rw [itoa_step h, itoa_small (Nat.mod_lt _ (by omega)), valL_snoc, ih (u / 10) (by omega)]
      simp
      omega
theorem itoa_len (u : Nat) : ∀ n, 1 ≤ n → u < 10 ^ n → 1 ≤ (Lib.itoa (u : Int)).length ∧ (Lib.itoa (u : Int)).length ≤ n := by
  induction u using Nat.strongRecOn with
  | _ u ih =>
    intro n hn hu
    by_cases h : u < 10
    · rw [itoa_small h]
      simp
      omega
    · obtain ⟨m, rfl⟩ : ∃ m, n = m + 1 := ⟨n - 1, by omega⟩
      have hm : 1 ≤ m := by
        rcases Nat.eq_zero_or_pos m with h0 | h0
        · subst h0; simp at hu; omega
        · exact h0
      have h1 := ih (u / 10) (by omega) m hm (by rw [Nat.pow_succ] at hu; omega)
      rw [itoa_step h, itoa_small (Nat.mod_lt _ (by omega)), List.length_append, List.length_singleton]
      omega
theorem numF_itoS {u : Nat} (h : u < 1000000000000000) : numF (itoS (u : Int)) = some u := by
  have h1 := itoa_len u 15 (by omega) h
  have hs : (itoS (u : Int)).size = (Lib.itoa (u : Int)).length := by rw [size_list, bs_mk]
  unfold numF
  rw [if_pos ⟨digs_mk (itoa_digs u), by rw [hs]; exact h1.1, by rw [hs]; exact h1.2⟩, hs, valP_mk _ _ (Nat.le_refl _), List.take_length, itoa_val]
end Go.Proofs.YteamnofooicbeaaDoor
