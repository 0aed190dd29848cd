/- Walks of the texts of numbers: strconv.FormatUint at base 10, Itoa, amount. -/
import Derived.Test.YtepcnpnpjfdfmaaDoorBld
import Derived.Lib.ItoaMem
import Derived.Lib.AppendIntMem
import Derived.Lib.ItoaLen
import Derived.Lib.LaidTab
namespace Go.Proofs.YtepcnpnpjfdfmaaDoor
open Go.RowKit Go.Sort

abbrev PowT (w : World) : Prop := Lib.TabIs Tryd.prog w "internal/strconv.uint64pow10" .u64 Lib.pow10Tab
theorem PowT.ext {w w' : World} (h : PowT w) (hx : Ext w w') : PowT w' := by
  unfold PowT Lib.TabIs World.var? at *
  cases hg : Tryd.prog.globalNamed "internal/strconv.uint64pow10" with
  | none => simp [hg] at h
  | some g =>
    simp only [hg, Option.bind_some] at h ⊢
    have hlt : g < w.heap.size := by
      rcases Nat.lt_or_ge g w.heap.size with h' | h'
      · exact h'
      · rw [Array.getElem?_eq_none h'] at h; simp at h
    rw [Below.block hx g hlt]
    exact h
abbrev decS (u : Nat) : ByteArray := ⟨(Lib.decDigits u).toArray⟩

set_option maxRecDepth 100000 in
set_option maxHeartbeats 2000000 in
theorem fuint_in (u : Nat) (hu64 : u < 18446744073709551616) (w : World) (htab : PowT w) :
    Calls Tryd.prog 29 #[.int .u64 u, .int .i64 10] w fun e w' => e = .returned (.string (decS u)) ∧ Ext w w' := by
  by_cases hs : u < 100
  · have hsi : (u : Int) < 100 := by omega
    go_enter Tryd.func29, Tryd.ntmps29
    go_wp2_with (go_at_call 31; refine (Tryd.internal_strconv_small u hs _).mono ?_; rintro e w' ⟨rfl, rfl⟩)
    go_ret
    exact ⟨rfl, Ext.refl _⟩
  · have hu1 : 1 ≤ u := by omega
    have hnd20 : Lib.nDigits u ≤ 20 := by have := Lib.numDigits_eq u hu1 hu64; split at this <;> omega
    have hsi : ¬ (u : Int) < 100 := by omega
    have hal : Tryd.prog.arrayLen 64 = 24 := by simp [Program.arrayLen, Tryd.underlying64]
    have hsl : ∀ W, (Instr.sliceAt 64 (.pointer (some ⟨w.heap.size, 0, none⟩)) none (some (.int .i64 (Lib.nDigits u : Int))) none).run Tryd.prog W = .ok (.slice (some ⟨w.heap.size, 0, none⟩) (Lib.nDigits u) 24) W := fun W => by
      rw [run_sliceAt_array_h W 64 ⟨w.heap.size, 0, none⟩ (by simp [Program.arrayLen, Program.elem, Tryd.underlying64]) .i64 (Lib.nDigits u : Int) (by omega) (by rw [hal]; omega)]
      go_simp
    have hH0 := Lib.holds_zero0 w 64 (Lib.nDigits u) (by omega)
    have hfmt := Tryd.internal_strconv_formatBase10 w.heap.size 0 24 u (Array.replicate (Lib.nDigits u) 0) (w.alloc (.cells Lib.zeros24 64)) hH0 (by rw [Array.size_replicate]; exact Lib.lt_pow_nDigits u) hu64 (by rw [Array.size_replicate]; omega)
    rw [Array.size_replicate] at hfmt
    have HH0 := Lib.hid hH0
    clear hH0 hal
    go_enter Tryd.func29, Tryd.ntmps29
    go_wp2_with (go_at_call 32; refine (Tryd.internal_strconv_numDigits u hu1 hu64 _ (Lib.tabIs_alloc htab _)).mono ?_; rintro e w' ⟨rfl, rfl⟩)
    go_at_call 33
    refine hfmt.mono ?_
    rintro e w' ⟨rfl, k, v', dk, rfl, hF⟩
    have hcv : (convert 35 9 (.slice (some ⟨w.heap.size, 0, none⟩) (Lib.nDigits u) 24)).run Tryd.prog ((putRow (fun (b : UInt8) => Value.int .u8 (b.toNat : Int)) (w.alloc (.cells Lib.zeros24 64)) w.heap.size 0 dk).drewN k) = .ok (.string (decS u)) ((putRow (fun (b : UInt8) => Value.int .u8 (b.toNat : Int)) (w.alloc (.cells Lib.zeros24 64)) w.heap.size 0 dk).drewN k) := by
      have h := run_convert_bytes_back (P := Tryd.prog) ((putRow (fun (b : UInt8) => Value.int .u8 (b.toNat : Int)) (w.alloc (.cells Lib.zeros24 64)) w.heap.size 0 dk).drewN k) 35 9 5 ⟨w.heap.size, 0, none⟩ 24 (Lib.decDigits u) Tryd.underlying35 Tryd.underlying5 Tryd.underlying9 (fun j hj => by
        rw [Lib.row_is_numeral hF j hj, Lib.add_plain, World.cell?_drewN]
        exact cell?_putRow (fun (b : UInt8) => Value.int .u8 (b.toNat : Int)) _ w.heap.size 0 _ dk HH0.out (by rw [hF.size, Array.size_replicate]) j (by rw [hF.size]; rw [Lib.decDigits_length] at hj; exact hj))
      rw [Lib.decDigits_length] at h
      exact h
    go_wp2
    go_ret
    obtain ⟨os, eo⟩ := Lib.fin_at w (.cells Lib.zeros24 64) dk k 0
    exact ⟨rfl, by rw [eo]; exact Lib.below_grow _ _ (Nat.le_refl _) _ _⟩

theorem fuint_any (u : Nat) (hu64 : u < 18446744073709551616) (w : World) (htab : PowT w) :
    Calls Tryd.prog 22 #[.int .u64 u, .int .i64 10] w fun e w' => e = .returned (.string (decS u)) ∧ Ext w w' := by
  go_enter Tryd.func22, Tryd.ntmps22
  go_wp2_with (go_at_call 29; refine (fuint_in u hu64 _ htab).mono ?_; rintro e w' ⟨rfl, hx⟩)
  go_ret
  exact ⟨rfl, hx⟩

abbrev itoS (n : Int) : ByteArray := ⟨(Lib.itoa n).toArray⟩
theorem itoa_any (n : Int) (h0 : -9223372036854775808 ≤ n) (h1 : n ≤ 9223372036854775807) (w : World) (htab : PowT w) :
    Calls Tryd.prog 10 #[.int .i64 n] w fun e w' => e = .returned (.string (itoS n)) ∧ Ext w w' :=
  (Tryd.strconv_Itoa n h0 h1 w htab).mono fun e w' ⟨he, k, os, hw⟩ => ⟨he, by rw [hw]; exact Lib.below_grow _ _ (Nat.le_refl _) _ _⟩
end Go.Proofs.YtepcnpnpjfdfmaaDoor
