/- Chapter 24: the law's own small functions: key, tag, Length, text, part. -/
import Derived.Test.YtfgjbbpkkbohhaaGreatSfW
namespace Go.Proofs.YtfgjbbpkkbohhaaGreat
open Go.RowKit Go.Deep
def keyF (n : Nat) : ByteArray := strOfNums [((97 + n % 6 : Nat) : Int)]
def tagF (n : Nat) : ByteArray := if n % 3 = 0 then ⟨#[]⟩ else if n % 3 = 1 then ⟨#[116]⟩ else ⟨#[117]⟩
def lenF (a b : Nat) : Nat := a % 6 * 170 + b % 3 * 30
def txC (a b i : Nat) : Int := ((i : Int) % 256 * 3 + (a : Int) % 6 + 16 * ((b : Int) % 3)) % 256
def textF (a b : Nat) : ByteArray := strOfNums ((List.range (lenF a b)).map (txC a b))
theorem textF_size (a b : Nat) : (textF a b).size = lenF a b := by
  unfold textF
  rw [strOfNums_size]
  simp
theorem keyF_size (n : Nat) : (keyF n).size = 1 := rfl
theorem len_le (a b : Nat) : lenF a b ≤ 910 := by unfold lenF; omega
set_option maxRecDepth 100000 in
theorem key24_any (n : Nat) (hn : n < 256) (w : World) : Calls Tryz.prog 12 #[.int .u8 n] w fun e w' => e = .returned (.string (keyF n)) ∧ Ext w w' := by
  have hb : (convert 36 9 (.slice (some ⟨w.heap.size, 0, none⟩) 1 1)).run Tryz.prog (w.alloc (.cells #[.int .u8 (97 + (n : Int) % 6)] 5)) = .ok (.string (strOfNums [97 + (n : Int) % 6])) (w.alloc (.cells #[.int .u8 (97 + (n : Int) % 6)] 5)) := run_lit_bytes (P := Tryz.prog) 36 5 9 Tryz.underlying36 Tryz.underlying5 Tryz.underlying9 [97 + (n : Int) % 6] w
  have e0 : 0 ≤ (n : Int) % 6 := by omega
  have e1 : (n : Int) % 6 ≤ 5 := by omega
  go_enter Tryz.func12, Tryz.ntmps12
  go_wp2_with fail
  go_ret
  exact ⟨ret_str (by unfold keyF; rw [show ((97 + n % 6 : Nat) : Int) = 97 + (n : Int) % 6 by omega]), (Ext.refl w).alloc _⟩
set_option maxRecDepth 100000 in
theorem tag24_any (n : Nat) (hn : n < 256) (w : World) : Calls Tryz.prog 13 #[.int .u8 n] w fun e w' => e = .returned (.string (tagF n)) ∧ Ext w w' := by
  have h3 : n % 3 = 0 ∨ n % 3 = 1 ∨ n % 3 = 2 := by omega
  go_enter Tryz.func13, Tryz.ntmps13
  rcases h3 with h | h | h
  · have e1 : (n : Int) % 3 = 0 := by omega
    go_wp2_with fail
    go_ret
    exact ⟨ret_str (by unfold tagF; rw [if_pos h]), (Ext.refl w).alloc _⟩
  · have e1 : (n : Int) % 3 = 1 := by omega
    go_wp2_with fail
    go_ret
    exact ⟨ret_str (by unfold tagF; rw [if_neg (by omega), if_pos h]), (Ext.refl w).alloc _⟩
  · have e1 : (n : Int) % 3 = 2 := by omega
    go_wp2_with fail
    go_ret
    exact ⟨ret_str (by unfold tagF; rw [if_neg (by omega), if_neg (by omega)]), (Ext.refl w).alloc _⟩
set_option maxRecDepth 100000 in
theorem length24_any (a b : Nat) (w : World) : Calls Tryz.prog 14 #[.int .u8 a, .int .u8 b] w fun e w' => e = .returned (.int .i64 (lenF a b)) ∧ w = w' := by
  have h1 : (a : Int) % 6 ≤ 5 := by omega
  have h2 : 0 ≤ (a : Int) % 6 := by omega
  have h3 : (b : Int) % 3 ≤ 2 := by omega
  have h4 : 0 ≤ (b : Int) % 3 := by omega
  go_enter Tryz.func14, Tryz.ntmps14
  go_wp2_with fail
  go_ret
  exact ⟨ret_int (by unfold lenF; omega), rfl⟩
set_option maxRecDepth 100000 in
theorem text24_any (a b : Nat) (w : World) :
    Calls Tryz.prog 17 #[.int .u8 a, .int .u8 b] w fun e w' => e = .returned (.string (textF a b)) ∧ Ext w w' := by
  have HLN := Lib.hid (length24_any a b)
  obtain ⟨m, hm⟩ : ∃ m, m = lenF a b := ⟨_, rfl⟩
  have hm2 : m ≤ 910 := by rw [hm]; exact len_le a b
  have HTX := Lib.hid (show textF a b = strOfNums ((List.range m).map (txC a b)) by rw [hm]; rfl)
  rw [← hm] at HLN
  have hmk := fun W => run_make_row' (P := Tryz.prog) 36 5 (.int .u8 0) 1 Tryz.underlying36 (by kernel_rfl) rfl .i64 .i64 m (by omega) (by omega) W
  clear hm
  go_enter Tryz.func17, Tryz.ntmps17
  go_wp2_with (go_at_call 14; refine (HLN.out _).mono ?_; rintro e w' ⟨rfl, rfl⟩)
  go_loopw [13] (fun i wr => ∃ k : Nat, k ≤ m ∧ i = .int .i64 k ∧ wr.rowIs w.heap.size 5 m (fun j => if j < k then .int .u8 (txC a b j) else .int .u8 0) ∧ Ext w wr) (fun i _ => m - (intOf i).toNat)
  case atStart =>
    refine ⟨0, by omega, rfl, ?_, (Ext.refl w).alloc _⟩
    exact (World.rowIs_made w (.int .u8 0) m 5).congr fun j _ => by simp
  case round =>
    obtain ⟨k, hk, rfl, hR, hX⟩ := hrel
    by_cases hlt : k < m
    · have hc := hR.cell hlt
      have hfz := hR.frozen k
      rw [if_neg (Nat.lt_irrefl k)] at hc
      have hki : (k : Int) < (m : Int) := by omega
      go_wp2_with fail
      refine ⟨⟨k + 1, by omega, by go_num, ?_, hX.setCell (Nat.le_refl _) _⟩, by simp [intOf]; omega⟩
      refine (hR.set k _).congr fun j _ => ?_
      by_cases e : j = k
      · rw [if_pos e, if_pos (by omega), e]
        rfl
      · rw [if_neg e]
        by_cases e2 : j < k
        · rw [if_pos e2, if_pos (by omega)]
        · rw [if_neg e2, if_neg (by omega)]
    · obtain rfl : k = m := by omega
      have hcv := run_convert_bytes_arg (P := Tryz.prog) wr 36 5 Tryz.underlying36 Tryz.underlying5 w.heap.size 0 k k ((List.range k).map (txC a b)) (by simp) (fun i hi => by
        rw [Nat.zero_add, hR.cell hi, if_pos hi]
        simp [List.getD, hi]) 9 Tryz.underlying9
      go_wp2_with fail
      go_ret
      exact ⟨ret_str HTX.out.symm, hX⟩
def partF (t : ByteArray) (i : Nat) : ByteArray := if i * 256 < t.size then pcS t i else ⟨#[]⟩
set_option maxRecDepth 100000 in
theorem part24_in (t : ByteArray) (i : Nat) (hl : t.size ≤ 65536) (hi : i * 256 < t.size) (w : World) :
    Calls Tryz.prog 16 #[.string t, .int .i64 i] w fun e w' => e = .returned (.string (pcS t i)) ∧ Ext w w' := by
  have b1 : i * 256 ≤ pto i t.size := by unfold pto; omega
  have b2 : pto i t.size ≤ t.size := by unfold pto; omega
  go_enter Tryz.func16, Tryz.ntmps16
  go_wp2_with (go_at_call 53; refine (piece9_in i t.size hl hi _).mono ?_; rintro e w' ⟨rfl, hx⟩)
  go_ret
  exact ⟨rfl, hx.alloc _⟩
end Go.Proofs.YtfgjbbpkkbohhaaGreat
