/- Chapter 09: numbers; the parts before and after a byte. -/
import Derived.Test.YteamnofooicbeaaDoorProg
import Derived.Test.YteamnofooicbeaaDoorKit
import Derived.Test.YteamnofooicbeaaDoorBase
import Derived.Test.YteamnofooicbeaaDoorSh9
import Derived.Test.YteamnofooicbeaaDoorQuiet
import Derived.Test.YteamnofooicbeaaDoorAnyD
import Derived.Handy
import Derived.Deep.CutBlock
import Derived.Deep.DeepCutAuto
namespace Go.Proofs.YteamnofooicbeaaDoor
open Go.RowKit
/-! ### Plain words -/
def byt (s : ByteArray) (k : Nat) : Nat := if h : k < s.size then (s[k]'h).toNat else 0
theorem byt_is {s : ByteArray} {k : Nat} (h : k < s.size) : byt s k = (s[k]'h).toNat := by unfold byt; rw [dif_pos h]
theorem byt_lt (s : ByteArray) (k : Nat) : byt s k < 256 := by
  unfold byt
  split
  · exact UInt8.toNat_lt _
  · omega
def digs (s : ByteArray) : Bool := decide (∀ i, i < s.size → 48 ≤ byt s i ∧ byt s i ≤ 57)
def valP (s : ByteArray) : Nat → Nat
  | 0 => 0
  | k + 1 => 10 * valP s k + (byt s k - 48)
def numF (s : ByteArray) : Option Nat := if digs s = true ∧ 1 ≤ s.size ∧ s.size ≤ 15 then some (valP s s.size) else none
theorem valP_lt {s : ByteArray} (h : digs s = true) : ∀ k, k ≤ s.size → valP s k < 10 ^ k
  | 0, _ => by simp [valP]
  | k + 1, hk => by
    have ih := valP_lt h k (by omega)
    have hd := of_decide_eq_true h k (by omega)
    have e : 10 ^ (k + 1) = 10 * 10 ^ k := by rw [Nat.pow_succ, Nat.mul_comm]
    unfold valP
    omega
theorem pow15 {k : Nat} (h : k ≤ 15) : 10 ^ k ≤ 1000000000000000 := Nat.pow_le_pow_right (by decide) h
theorem numF_lt {s : ByteArray} {n : Nat} (h : numF s = some n) : n < 1000000000000000 := by
  unfold numF at h
  split at h
  · rename_i hh
    cases h
    have h1 := valP_lt hh.1 s.size (by omega)
    have h2 := pow15 hh.2.2
    omega
  · cases h
def numV (s : ByteArray) : Int := ((numF s).getD 0 : Nat)
def numE (s : ByteArray) : Value := if (numF s).isSome then .nilIface else if digs s = true ∧ 1 ≤ s.size then errV 5 else errV 2
theorem numF_none {s : ByteArray} (h : digs s = false) : numF s = none := by
  unfold numF
  rw [if_neg (fun hh => by rw [h] at hh; cases hh.1)]
theorem digs_no {s : ByteArray} {k : Nat} (h : k < s.size) (hb : byt s k < 48 ∨ 57 < byt s k) : digs s = false := by
  unfold digs
  rw [decide_eq_false_iff_not]
  intro hh
  have := hh k h
  omega
theorem empty_yes {s : ByteArray} (h : s.size = 0) : s.toList.isEmpty = true := by
  rw [List.isEmpty_iff, ← List.length_eq_zero_iff, ByteArray.toList_eq]
  rw [Lib.size_eq] at h
  exact h
theorem empty_no {s : ByteArray} (h : 0 < s.size) : s.toList.isEmpty = false := by
  rw [Lib.size_eq] at h
  rw [ByteArray.toList_eq]
  cases hl : s.data.toList with
  | nil => rw [hl] at h; simp at h
  | cons a l => rfl
/-! ### Number -/
set_option maxRecDepth 100000 in
set_option maxHeartbeats 1000000 in
theorem number_any (s : ByteArray) (hs : (s.size : Int) ≤ 9223372036854775807) (w : World) :
    Calls Tryd.prog 76 #[.string s] w fun e w' => e = .returned (.tuple #[.int .i64 (numV s), numE s]) ∧ w = w' := by
  go_enter Tryd.func76, Tryd.ntmps76
  go_wp2_with fail
  go_loopw [9] (fun i wr => ∃ k : Nat, k ≤ s.size ∧ i = .int .i64 k ∧ w = wr ∧ Hid (∀ i, i < k → 48 ≤ byt s i ∧ byt s i ≤ 57)) (fun i _ => s.size - (intOf i).toNat)
  case atStart => exact ⟨0, by omega, rfl, rfl, Lib.hid (fun i hi => by omega)⟩
  case round =>
    obtain ⟨k, hk, rfl, rfl, HA⟩ := hrel
    by_cases hlt : k < s.size
    · have hki : (k : Int) < (s.size : Int) := by omega
      obtain ⟨c, hc⟩ : ∃ c, (s[k]'hlt).toNat = c := ⟨_, rfl⟩
      have hcb : byt s k = c := by rw [byt_is hlt]; exact hc
      have HC := Lib.hid hcb
      have HNO := Lib.hid (fun hb => digs_no (s := s) hlt hb)
      clear hcb
      rcases (show c < 48 ∨ (48 ≤ c ∧ 57 < c) ∨ (48 ≤ c ∧ c ≤ 57) by omega) with h1 | ⟨h1, h2⟩ | ⟨h1, h2⟩
      · have h1' : (c : Int) < 48 := by omega
        go_wp2_with fail
        go_ret2
        have hn := HNO.out (by rw [HC.out]; omega)
        refine ⟨?_, rfl⟩
        unfold numV numE
        rw [numF_none hn, hn]
        rfl
      · have h1' : ¬ (c : Int) < 48 := by omega
        have h2' : (57 : Int) < (c : Int) := by omega
        go_wp2_with fail
        go_ret2
        have hn := HNO.out (by rw [HC.out]; omega)
        refine ⟨?_, rfl⟩
        unfold numV numE
        rw [numF_none hn, hn]
        rfl
      · have h1' : ¬ (c : Int) < 48 := by omega
        have h2' : ¬ (57 : Int) < (c : Int) := by omega
        have HX := Lib.hid (And.intro h1 h2)
        clear h1 h2
        go_wp2_with fail
        go_roundw
        case rel =>
          refine ⟨k + 1, by omega, by go_num, by first | rfl | trivial, Lib.hid (fun i hi => ?_)⟩
          by_cases e : i = k
          · subst e; rw [HC.out]; exact HX.out
          · exact HA.out i (by omega)
        case measure => simp [intOf]; omega
    · obtain rfl : k = s.size := by omega
      have HD : Hid (digs s = true) := Lib.hid (decide_eq_true HA.out)
      rcases Nat.eq_zero_or_pos s.size with h0 | h0
      · have he := empty_yes h0
        have H0 := Lib.hid h0
        clear h0
        go_wp2_with fail
        go_ret2
        refine ⟨?_, rfl⟩
        unfold numV numE numF
        rw [if_neg (fun hh => by have := hh.2.1; rw [H0.out] at this; omega), if_neg (by simp), if_neg (fun hh => by have := hh.2; rw [H0.out] at this; omega)]
        rfl
      · have he := empty_no h0
        have H0 := Lib.hid h0
        clear h0
        by_cases h15 : s.size ≤ 15
        · have h15' : ¬ (15 : Int) < (s.size : Int) := by omega
          have HF : Hid (numF s = some (valP s s.size)) := Lib.hid (by unfold numF; rw [if_pos ⟨HD.out, H0.out, h15⟩])
          have H15 := Lib.hid h15
          go_wp2_with fail
          go_loopw [4, 33] (fun nv i wr => ∃ k : Nat, k ≤ s.size ∧ i = .int .i64 k ∧ nv = .int .i64 (valP s k : Nat) ∧ w = wr) (fun _ i _ => s.size - (intOf i).toNat)
          case atStart => exact ⟨0, by omega, rfl, rfl, rfl⟩
          case round =>
            obtain ⟨k, hk, rfl, rfl, rfl⟩ := hrel
            by_cases hlt : k < s.size
            · have hki : (k : Int) < (s.size : Int) := by omega
              obtain ⟨c, hc⟩ : ∃ c, (s[k]'hlt).toNat = c := ⟨_, rfl⟩
              have hcb : byt s k = c := by rw [byt_is hlt]; exact hc
              have HC := Lib.hid hcb
              have hd := of_decide_eq_true HD.out k hlt
              rw [hcb] at hd
              obtain ⟨v, hv⟩ : ∃ v, valP s k = v := ⟨_, rfl⟩
              have hvl : v < 1000000000000000 := by rw [← hv]; have h1 := valP_lt HD.out k hk; have h2 := pow15 (show k ≤ 15 by omega); omega
              have HV : Hid (valP s (k + 1) = 10 * v + (c - 48)) := Lib.hid (by rw [← hv, ← hcb]; rfl)
              have w1 : IntKind.u8.wrap ((c : Int) - 48) = (c : Int) - 48 := by rw [IntKind.wrap_u8]; omega
              have w1' : wrap64 ((c : Int) - 48) = (c : Int) - 48 := by unfold wrap64; omega
              have w2 : wrap64 (10 * (v : Int)) = 10 * (v : Int) := by unfold wrap64; omega
              have w3 : wrap64 (10 * (v : Int) + ((c : Int) - 48)) = 10 * (v : Int) + ((c : Int) - 48) := by unfold wrap64; omega
              have HD2 := Lib.hid hd
              clear hd hcb
              rw [hv]
              clear hv hvl
              go_wp2_with fail
              go_roundw
              case rel =>
                refine ⟨k + 1, by omega, by go_num, ?_, by first | rfl | trivial⟩
                rw [HV.out]
                have := HD2.out
                rw [w3]
                go_num
              case measure => simp [intOf]; omega
            · obtain rfl : k = s.size := by omega
              go_wp2_with fail
              go_ret2
              refine ⟨?_, rfl⟩
              unfold numV numE
              rw [HF.out]
              rfl
        · have h15' : (15 : Int) < (s.size : Int) := by omega
          go_wp2_with fail
          go_ret2
          refine ⟨?_, rfl⟩
          unfold numV numE numF
          rw [if_neg (fun hh => h15 hh.2.2), if_neg (by simp), if_pos ⟨HD.out, H0.out⟩]
          rfl
theorem numE_isNil (s : ByteArray) : (numE s = .nilIface ∧ (numF s).isSome = true) ∨ (∃ k, numE s = errV k ∧ (numF s).isSome = false) := by
  unfold numE
  cases h : (numF s).isSome with
  | true => exact .inl ⟨by simp, rfl⟩
  | false =>
    right
    simp only [Bool.false_eq_true, if_false]
    split
    · exact ⟨5, rfl, trivial⟩
    · exact ⟨2, rfl, trivial⟩
set_option maxRecDepth 100000 in
theorem numr_any (s : ByteArray) (hs : (s.size : Int) ≤ 9223372036854775807) (w : World) :
    Calls Tryd.prog 51 #[.string s] w fun e w' => e = .returned (.tuple #[.int .i64 (numV s), .bool (numF s).isSome]) ∧ Ext w w' := by
  have HN := Lib.hid (number_any s hs w)
  rcases numE_isNil s with ⟨h1, h2⟩ | ⟨k, h1, h2⟩
  · rw [h1] at HN
    rw [h2]
    clear h1 h2
    go_enter Tryd.func51, Tryd.ntmps51
    go_upto_region 2 with (go_at_call 76; refine HN.out.mono ?_; rintro e w' ⟨rfl, rfl⟩)
    refine wp_region_quiet_lit (by kernel_rfl) (by kernel_rfl) ?_
    repeat (go_big_quiet_step (fail))
    refine wpQuiet_nil ?_
    rintro _ ⟨nq, rfl⟩
    go_wp2_with fail
    go_ret2
    exact ⟨rfl, (Ext.refl w).drewN nq⟩
  · rw [h1] at HN
    rw [h2]
    clear h1 h2
    go_enter Tryd.func51, Tryd.ntmps51
    go_upto_region 2 with (go_at_call 76; refine HN.out.mono ?_; rintro e w' ⟨rfl, rfl⟩)
    refine wp_region_quiet_lit (by kernel_rfl) (by kernel_rfl) ?_
    repeat (go_big_quiet_step (fail))
    refine wpQuiet_nil ?_
    rintro _ ⟨nq, rfl⟩
    go_wp2_with fail
    go_ret2
    exact ⟨rfl, (Ext.refl w).drewN nq⟩
end Go.Proofs.YteamnofooicbeaaDoor
