/- Chapter 20: Text. -/
import Derived.Test.YtfjpaacanoocmaaPcD
namespace Go.Proofs.Ytfjpaacanoocmaa
open Go.RowKit Go.Deep Go.Sort

/-- the byte of a text at an offset -/
def txB (salt i : Nat) : Int := bits .xor .u8 (((i : Int) * 7 + (i : Int) / 256) % 256) salt
def txS (n salt : Nat) : ByteArray := strOfNums ((List.range n).map (txB salt))
set_option maxRecDepth 100000 in
theorem text_any (n salt : Nat) (hn : n < 65536) (w : World) :
    Calls Try.prog 10 #[.int .u16 n, .int .u8 salt] w fun e w' => e = .returned (.string (txS (n % 1300) salt)) ∧ Ext w w' := by
  obtain ⟨m, hm⟩ : ∃ m, m = n % 1300 := ⟨_, rfl⟩
  have hm2 : m < 1300 := by omega
  have e1 : (n : Int) % 1300 = (m : Int) := by omega
  rw [← hm]
  have hmk := fun W => run_make_row' (P := Try.prog) 38 5 (.int .u8 0) 1 Try.underlying38 (by kernel_rfl) rfl .i64 .i64 m (by omega) (by omega) W
  clear hm
  go_enter Try.func10, Try.ntmps10
  go_wp2_with fail
  go_loopw [13] (fun i wr => ∃ k : Nat, k ≤ m ∧ i = .int .i64 k ∧ wr.rowIs w.heap.size 5 m (fun j => if j < k then .int .u8 (txB salt j) else .int .u8 0) ∧ Ext w wr) (fun i _ => m - (intOf i).toNat)
  case atStart =>
    refine ⟨0, by omega, rfl, ?_, (Ext.refl w).alloc _⟩
    exact (World.rowIs_made w (.int .u8 0) m 5).congr fun j _ => by simp
  case round =>
    obtain ⟨k, hk, rfl, hR, hX⟩ := hrel
    by_cases hlt : k < m
    · have hc := hR.cell hlt
      have hfz := hR.frozen k
      rw [if_neg (Nat.lt_irrefl k)] at hc
      have hki : (k : Int) < (m : Int) := by omega
      go_wp2_with fail
      refine ⟨⟨k + 1, by omega, by go_num, ?_, hX.setCell (Nat.le_refl _) _⟩, by simp [intOf]; omega⟩
      refine (hR.set k _).congr fun j _ => ?_
      by_cases e : j = k
      · rw [if_pos e, if_pos (by omega), e]
        rfl
      · rw [if_neg e]
        by_cases e2 : j < k
        · rw [if_pos e2, if_pos (by omega)]
        · rw [if_neg e2, if_neg (by omega)]
    · obtain rfl : k = m := by omega
      have hcv := run_convert_bytes_arg (P := Try.prog) wr 38 5 Try.underlying38 Try.underlying5 w.heap.size 0 k k ((List.range k).map (txB salt)) (by simp) (fun i hi => by
        rw [Nat.zero_add, hR.cell hi, if_pos hi]
        simp [List.getD, hi]) 9 Try.underlying9
      go_wp2_with fail
      go_ret
      exact ⟨rfl, hX⟩
end Go.Proofs.Ytfjpaacanoocmaa
