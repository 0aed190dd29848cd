/- Chapter 09: the reference's digits, value, cut. -/
import Derived.Test.YteamnofooicbeaaDoorRgA
namespace Go.Proofs.YteamnofooicbeaaDoor
open Go.RowKit
set_option maxRecDepth 100000 in
set_option maxHeartbeats 1000000 in
theorem digits_any (s : ByteArray) (hs : (s.size : Int) ≤ 9223372036854775807) (w : World) :
    Calls Tryd.prog 53 #[.string s] w fun e w' => e = .returned (.bool (numF s).isSome) ∧ w = w' := by
  go_enter Tryd.func53, Tryd.ntmps53
  go_wp2_with fail
  go_loopw [6] (fun i wr => ∃ k : Nat, k ≤ s.size ∧ i = .int .i64 k ∧ w = wr ∧ Hid (∀ i, i < k → 48 ≤ byt s i ∧ byt s i ≤ 57)) (fun i _ => s.size - (intOf i).toNat)
  case atStart => exact ⟨0, by omega, rfl, rfl, Lib.hid (fun i hi => by omega)⟩
  case round =>
    obtain ⟨k, hk, rfl, rfl, HA⟩ := hrel
    by_cases hlt : k < s.size
    · have hki : (k : Int) < (s.size : Int) := by omega
      obtain ⟨c, hc⟩ : ∃ c, (s[k]'hlt).toNat = c := ⟨_, rfl⟩
      have hcb : byt s k = c := by rw [byt_is hlt]; exact hc
      have HC := Lib.hid hcb
      have HNO := Lib.hid (fun hb => numF_none (digs_no (s := s) hlt hb))
      clear hcb
      rcases (show c < 48 ∨ (48 ≤ c ∧ 57 < c) ∨ (48 ≤ c ∧ c ≤ 57) by omega) with h1 | ⟨h1, h2⟩ | ⟨h1, h2⟩
      · have h1' : (c : Int) < 48 := by omega
        go_wp2_with fail
        go_ret
        exact ⟨by rw [HNO.out (by rw [HC.out]; omega)]; rfl, rfl⟩
      · have h1' : ¬ (c : Int) < 48 := by omega
        have h2' : (57 : Int) < (c : Int) := by omega
        go_wp2_with fail
        go_ret
        exact ⟨by rw [HNO.out (by rw [HC.out]; omega)]; rfl, rfl⟩
      · have h1' : ¬ (c : Int) < 48 := by omega
        have h2' : ¬ (57 : Int) < (c : Int) := by omega
        have HX := Lib.hid (And.intro h1 h2)
        clear h1 h2
        go_wp2_with fail
        go_roundw
        case rel =>
          refine ⟨k + 1, by omega, by go_num, by first | rfl | trivial, Lib.hid (fun i hi => ?_)⟩
          by_cases e : i = k
          · subst e; rw [HC.out]; exact HX.out
          · exact HA.out i (by omega)
        case measure => simp [intOf]; omega
    · obtain rfl : k = s.size := by omega
      have HD : Hid (digs s = true) := Lib.hid (decide_eq_true HA.out)
      by_cases h1 : 1 ≤ s.size
      · have h1' : (1 : Int) ≤ (s.size : Int) := by omega
        by_cases h2 : s.size ≤ 15
        · have h2' : (s.size : Int) ≤ 15 := by omega
          have HF : Hid (numF s = some (valP s s.size)) := Lib.hid (by unfold numF; rw [if_pos ⟨HD.out, h1, h2⟩])
          go_wp2_with fail
          go_ret
          exact ⟨by rw [HF.out]; rfl, rfl⟩
        · have h2' : ¬ (s.size : Int) ≤ 15 := by omega
          have HF : Hid (numF s = none) := Lib.hid (by unfold numF; rw [if_neg (fun hh => h2 hh.2.2)])
          go_wp2_with fail
          go_ret
          exact ⟨by rw [HF.out]; rfl, rfl⟩
      · have h1' : ¬ (1 : Int) ≤ (s.size : Int) := by omega
        have HF : Hid (numF s = none) := Lib.hid (by unfold numF; rw [if_neg (fun hh => h1 hh.2.1)])
        go_wp2_with fail
        go_ret
        exact ⟨by rw [HF.out]; rfl, rfl⟩
set_option maxRecDepth 100000 in
set_option maxHeartbeats 1000000 in
theorem value_any (s : ByteArray) {n : Nat} (hn : numF s = some n) (w : World) :
    Calls Tryd.prog 54 #[.string s] w fun e w' => e = .returned (.int .i64 n) ∧ w = w' := by
  obtain ⟨hd, h15, rfl⟩ : digs s = true ∧ s.size ≤ 15 ∧ valP s s.size = n := by
    unfold numF at hn
    split at hn
    · rename_i hh
      cases hn
      exact ⟨hh.1, hh.2.2, rfl⟩
    · cases hn
  have HD := Lib.hid hd
  clear hn hd
  go_enter Tryd.func54, Tryd.ntmps54
  go_wp2_with fail
  go_loopw [3, 7] (fun nv i wr => ∃ k : Nat, k ≤ s.size ∧ i = .int .i64 k ∧ nv = .int .i64 (valP s k : Nat) ∧ w = wr) (fun _ i _ => s.size - (intOf i).toNat)
  case atStart => exact ⟨0, by omega, rfl, rfl, rfl⟩
  case round =>
    obtain ⟨k, hk, rfl, rfl, rfl⟩ := hrel
    by_cases hlt : k < s.size
    · have hki : (k : Int) < (s.size : Int) := by omega
      obtain ⟨c, hc⟩ : ∃ c, (s[k]'hlt).toNat = c := ⟨_, rfl⟩
      have hcb : byt s k = c := by rw [byt_is hlt]; exact hc
      have HC := Lib.hid hcb
      have hd := of_decide_eq_true HD.out k hlt
      rw [hcb] at hd
      obtain ⟨v, hv⟩ : ∃ v, valP s k = v := ⟨_, rfl⟩
      have hvl : v < 1000000000000000 := by rw [← hv]; have h1 := valP_lt HD.out k hk; have h2 := pow15 (show k ≤ 15 by omega); omega
      have HV : Hid (valP s (k + 1) = 10 * v + (c - 48)) := Lib.hid (by rw [← hv, ← hcb]; rfl)
      have w1 : IntKind.u8.wrap ((c : Int) - 48) = (c : Int) - 48 := by rw [IntKind.wrap_u8]; omega
      have w1' : wrap64 ((c : Int) - 48) = (c : Int) - 48 := by unfold wrap64; omega
      have w2 : wrap64 (10 * (v : Int)) = 10 * (v : Int) := by unfold wrap64; omega
      have w3 : wrap64 (10 * (v : Int) + ((c : Int) - 48)) = 10 * (v : Int) + ((c : Int) - 48) := by unfold wrap64; omega
      have HD2 := Lib.hid hd
      clear hd hcb
      rw [hv]
      clear hv hvl
      go_wp2_with fail
      go_roundw
      case rel =>
        refine ⟨k + 1, by omega, by go_num, ?_, by first | rfl | trivial⟩
        rw [HV.out]
        have := HD2.out
        rw [w3]
        go_num
      case measure => simp [intOf]; omega
    · obtain rfl : k = s.size := by omega
      go_wp2_with fail
      go_ret
      exact ⟨rfl, rfl⟩
/-! ### the first byte of a kind -/
def cutF (s : ByteArray) (c : UInt8) : ByteArray × ByteArray × Bool := (⟨(Lib.cut s.data.toList [c]).1.toArray⟩, ⟨(Lib.cut s.data.toList [c]).2.1.toArray⟩, (Lib.cut s.data.toList [c]).2.2)
theorem bs_ext {a b : ByteArray} (h : a.toList = b.toList) : a = b := ba_eq (by rw [h]; simp)
theorem bs_mk (l : List UInt8) : (⟨l.toArray⟩ : ByteArray).toList = l := by rw [ByteArray.toList_eq]
theorem byt_list (s : ByteArray) (k : Nat) (h : k < s.size) : s.data.toList[k]? = some (s[k]'h) := by
  rw [Lib.size_eq] at h
  rw [List.getElem?_eq_getElem h]
  simp
  rfl
theorem occ_one (l : List UInt8) (c : UInt8) (i : Nat) : Lib.occAt l [c] i = (l[i]? == some c) := by
  unfold Lib.occAt
  cases h : l.drop i with
  | nil =>
    have : l[i]? = none := by rw [List.drop_eq_nil_iff] at h; exact List.getElem?_eq_none h
    rw [this]
    rfl
  | cons a r =>
    have : l[i]? = some a := by
      have h1 := congrArg (·[0]?) h
      simpa using h1
    rw [this]
    have e : (c == a) = (a == c) := by rw [Bool.eq_iff_iff, beq_iff_eq, beq_iff_eq]; exact eq_comm
    simp [List.isPrefixOf, e]
theorem index_at {l : List UInt8} {c : UInt8} {i : Nat} (hi : l[i]? = some c) (hb : ∀ j, j < i → l[j]? ≠ some c) : Lib.index l [c] = i := by
  rcases Lib.index_spec l [c] with ⟨h1, h2⟩ | ⟨k, h1, h2, h3, h4⟩
  · have hil := (List.getElem?_eq_some_iff.1 hi).1
    have := h2 i (by omega)
    rw [occ_one, hi] at this
    simp at this
  · rw [h1]
    rw [occ_one] at h3
    rcases Nat.lt_trichotomy k i with h | h | h
    · exact absurd (eq_of_beq h3) (hb k h)
    · rw [h]
    · have := h4 i h
      rw [occ_one, hi] at this
      simp at this
theorem cutF_at {s : ByteArray} {c : UInt8} {i : Nat} (hi : i < s.size) (hc : s[i]'hi = c) (hb : ∀ j, (h : j < s.size) → j < i → s[j]'h ≠ c) : cutF s c = (s.extract 0 i, s.extract (i + 1) s.size, true) := by
  have h1 : Lib.index s.data.toList [c] = i := index_at (by rw [byt_list s i hi, hc]) (fun j hj => by
    rw [byt_list s j (by omega)]
    intro e
    cases e
    exact hb j (by omega) hj rfl)
  unfold cutF Lib.cut
  rw [h1, if_pos (by omega)]
  refine Prod.ext ?_ (Prod.ext ?_ rfl)
  · exact bs_ext (by rw [Lib.extract_toList, bs_mk]; simp)
  · exact bs_ext (by rw [Lib.extract_toList, bs_mk, List.take_of_length_le (l := s.data.toList.drop (i + 1)) (by rw [List.length_drop, ← Lib.size_eq]; omega)]; simp)
theorem cutF_no {s : ByteArray} {c : UInt8} (hb : ∀ j, (h : j < s.size) → s[j]'h ≠ c) : cutF s c = (s, ⟨#[]⟩, false) := by
  have h1 : Lib.index s.data.toList [c] = -1 := by
    rcases Lib.index_spec s.data.toList [c] with ⟨h1, h2⟩ | ⟨k, h1, h2, h3, h4⟩
    · exact h1
    · rw [occ_one] at h3
      have h5 := eq_of_beq h3
      have hk := (List.getElem?_eq_some_iff.1 h5).1
      rw [← Lib.size_eq] at hk
      rw [byt_list s k hk] at h5
      exact absurd (Option.some.inj h5) (hb k hk)
  unfold cutF Lib.cut
  rw [h1, if_neg (by omega)]
set_option maxRecDepth 100000 in
set_option maxHeartbeats 1000000 in
theorem cut_any (s : ByteArray) (c : UInt8) (hs : (s.size : Int) ≤ 9223372036854775807) (w : World) :
    Calls Tryd.prog 52 #[.string s, .int .u8 c.toNat] w fun e w' => e = .returned (.tuple #[.string (cutF s c).1, .string (cutF s c).2.1, .bool (cutF s c).2.2]) ∧ Ext w w' := by
  obtain ⟨cn, hcn⟩ : ∃ n, c.toNat = n := ⟨_, rfl⟩
  have HCN := Lib.hid hcn
  rw [hcn]
  clear hcn
  go_enter Tryd.func52, Tryd.ntmps52
  go_wp2_with fail
  go_loopw [10] (fun i wr => ∃ k : Nat, k ≤ s.size ∧ i = .int .i64 k ∧ w = wr ∧ Hid (∀ i, (h : i < s.size) → i < k → s[i]'h ≠ c)) (fun i _ => s.size - (intOf i).toNat)
  case atStart => exact ⟨0, by omega, rfl, rfl, Lib.hid (fun i _ hi => by omega)⟩
  case round =>
    obtain ⟨k, hk, rfl, rfl, HA⟩ := hrel
    by_cases hlt : k < s.size
    · have hki : (k : Int) < (s.size : Int) := by omega
      obtain ⟨d, hd⟩ : ∃ d, (s[k]'hlt).toNat = d := ⟨_, rfl⟩
      have HD := Lib.hid hd
      have hk1 : (k : Int) + 1 ≤ (s.size : Int) := by omega
      by_cases hdc : d = cn
      · have HF : Hid (cutF s c = (s.extract 0 k, s.extract (k + 1) s.size, true)) := Lib.hid (cutF_at hlt (UInt8.toNat_inj.1 (by rw [HD.out, HCN.out]; exact hdc)) (fun j h hj => HA.out j h hj))
        have hdc' : ((d : Int) == (cn : Int)) = true := by simp [hdc]
        clear hdc
        go_upto_region 5 with fail
        refine wp_region_quiet_lit (by kernel_rfl) (by kernel_rfl) ?_
        repeat (go_big_quiet_step (fail))
        refine wpQuiet_nil ?_
        rintro _ ⟨nq, rfl⟩
        go_wp2_with fail
        go_ret3
        rw [HF.out]
        exact ⟨rfl, (Ext.refl w).drewN nq⟩
      · have hdc' : ((d : Int) == (cn : Int)) = false := by simp; omega
        have HDC := Lib.hid hdc
        go_wp2_with fail
        go_roundw
        case rel =>
          refine ⟨k + 1, by omega, by go_num, by first | rfl | trivial, Lib.hid (fun i h hi => ?_)⟩
          by_cases e : i = k
          · subst e
            intro hh
            have h1 := HD.out
            rw [hh, HCN.out] at h1
            exact HDC.out h1.symm
          · exact HA.out i h (by omega)
        case measure => simp [intOf]; omega
    · obtain rfl : k = s.size := by omega
      have HF : Hid (cutF s c = (s, ⟨#[]⟩, false)) := Lib.hid (cutF_no (fun j h => HA.out j h h))
      go_wp2_with fail
      go_ret3
      rw [HF.out]
      exact ⟨rfl, Ext.refl w⟩
end Go.Proofs.YteamnofooicbeaaDoor
