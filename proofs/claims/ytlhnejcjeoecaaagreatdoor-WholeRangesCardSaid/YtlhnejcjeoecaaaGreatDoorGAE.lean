/- Chapter 09: numbers; the parts before and after a byte. Chapter 09: the reference's digits, value, cut. Chapter 09: the elements of a list of ranges. Chapter 09: the reference's element. Chapter 09: control bytes, trimmed strings, the parts of a list. Chapter 09: the reference's Trim. Chapter 09: lines and occurrences: strings.Cut at CR LF, CutPrefix, Contains; the reference's line and holds. Chapter 09: the reference's line and holds; strings.Contains. Chapter 09: the reference's holds; the reader's skip and line (program). Chapter 09: what may be a boundary (program and reference). -/
import Derived.Test.YtlhnejcjeoecaaaGreatDoorProg
import Derived.Test.YtlhnejcjeoecaaaGreatDoorGAA
import Derived.Test.YtlhnejcjeoecaaaGreatDoorSh9
import Derived.Test.YtlhnejcjeoecaaaGreatDoorGAB
import Derived.Handy
import Derived.Deep.CutBlock
import Derived.Deep.DeepCutAuto
import Derived.Deep.RegionWith
namespace Go.Proofs.YtlhnejcjeoecaaaGreatDoor
open Go.RowKit
/-! ### Plain words -/
def byt (s : ByteArray) (k : Nat) : Nat := if h : k < s.size then (s[k]'h).toNat else 0
theorem byt_is {s : ByteArray} {k : Nat} (h : k < s.size) : byt s k = (s[k]'h).toNat := by unfold byt; rw [dif_pos h]
theorem byt_lt (s : ByteArray) (k : Nat) : byt s k < 256 := by
  unfold byt
  split
  · exact UInt8.toNat_lt _
  · omega
def digs (s : ByteArray) : Bool := decide (∀ i, i < s.size → 48 ≤ byt s i ∧ byt s i ≤ 57)
def valP (s : ByteArray) : Nat → Nat
  | 0 => 0
  | k + 1 => 10 * valP s k + (byt s k - 48)
def numF (s : ByteArray) : Option Nat := if digs s = true ∧ 1 ≤ s.size ∧ s.size ≤ 15 then some (valP s s.size) else none
theorem valP_lt {s : ByteArray} (h : digs s = true) : ∀ k, k ≤ s.size → valP s k < 10 ^ k
  | 0, _ => by simp [valP]
  | k + 1, hk => by
    have ih := valP_lt h k (by omega)
    have hd := of_decide_eq_true h k (by omega)
    have e : 10 ^ (k + 1) = 10 * 10 ^ k := by rw [Nat.pow_succ, Nat.mul_comm]
    unfold valP
    omega
theorem pow15 {k : Nat} (h : k ≤ 15) : 10 ^ k ≤ 1000000000000000 := Nat.pow_le_pow_right (by decide) h
theorem numF_lt {s : ByteArray} {n : Nat} (h : numF s = some n) : n < 1000000000000000 := by
  unfold numF at h
  split at h
  · rename_i hh
    cases h
    have h1 := valP_lt hh.1 s.size (by omega)
    have h2 := pow15 hh.2.2
    omega
  · cases h
def numV (s : ByteArray) : Int := ((numF s).getD 0 : Nat)
def numE (s : ByteArray) : Value := if (numF s).isSome then .nilIface else if digs s = true ∧ 1 ≤ s.size then errV 5 else errV 2
theorem numF_none {s : ByteArray} (h : digs s = false) : numF s = none := by
  unfold numF
  rw [if_neg (fun hh => by rw [h] at hh; cases hh.1)]
theorem digs_no {s : ByteArray} {k : Nat} (h : k < s.size) (hb : byt s k < 48 ∨ 57 < byt s k) : digs s = false := by
  unfold digs
  rw [decide_eq_false_iff_not]
  intro hh
  have := hh k h
  omega
theorem empty_yes {s : ByteArray} (h : s.size = 0) : s.toList.isEmpty = true := by
  rw [List.isEmpty_iff, ← List.length_eq_zero_iff, ByteArray.toList_eq]
  rw [Lib.size_eq] at h
  exact h
theorem empty_no {s : ByteArray} (h : 0 < s.size) : s.toList.isEmpty = false := by
  rw [Lib.size_eq] at h
  rw [ByteArray.toList_eq]
  cases hl : s.data.toList with
  | nil => rw [hl] at h; simp at h
  | cons a l => rfl
/-! ### Number -/
set_option maxRecDepth 100000 in
set_option maxHeartbeats 1000000 in
theorem number_any (s : ByteArray) (hs : (s.size : Int) ≤ 9223372036854775807) (w : World) :
    Calls Tryz.prog 59 #[.string s] w fun e w' => e = .returned (.tuple #[.int .i64 (numV s), numE s]) ∧ w = w' := by
  go_enter Tryz.func59, Tryz.ntmps59
  go_wp2_with fail
  go_loopw [9] (fun i wr => ∃ k : Nat, k ≤ s.size ∧ i = .int .i64 k ∧ w = wr ∧ Hid (∀ i, i < k → 48 ≤ byt s i ∧ byt s i ≤ 57)) (fun i _ => s.size - (intOf i).toNat)
  case atStart => exact ⟨0, by omega, rfl, rfl, Lib.hid (fun i hi => by omega)⟩
  case round =>
    obtain ⟨k, hk, rfl, rfl, HA⟩ := hrel
    by_cases hlt : k < s.size
    · have hki : (k : Int) < (s.size : Int) := by omega
      obtain ⟨c, hc⟩ : ∃ c, (s[k]'hlt).toNat = c := ⟨_, rfl⟩
      have hcb : byt s k = c := by rw [byt_is hlt]; exact hc
      have HC := Lib.hid hcb
      have HNO := Lib.hid (fun hb => digs_no (s := s) hlt hb)
      clear hcb
      rcases (show c < 48 ∨ (48 ≤ c ∧ 57 < c) ∨ (48 ≤ c ∧ c ≤ 57) by omega) with h1 | ⟨h1, h2⟩ | ⟨h1, h2⟩
      · have h1' : (c : Int) < 48 := by omega
        go_wp2_with fail
        go_ret2
        have hn := HNO.out (by rw [HC.out]; omega)
        refine ⟨?_, rfl⟩
        unfold numV numE
        rw [numF_none hn, hn]
        rfl
      · have h1' : ¬ (c : Int) < 48 := by omega
        have h2' : (57 : Int) < (c : Int) := by omega
        go_wp2_with fail
        go_ret2
        have hn := HNO.out (by rw [HC.out]; omega)
        refine ⟨?_, rfl⟩
        unfold numV numE
        rw [numF_none hn, hn]
        rfl
      · have h1' : ¬ (c : Int) < 48 := by omega
        have h2' : ¬ (57 : Int) < (c : Int) := by omega
        have HX := Lib.hid (And.intro h1 h2)
        clear h1 h2
        go_wp2_with fail
        go_roundw
        case rel =>
          refine ⟨k + 1, by omega, by go_num, by first | rfl | trivial, Lib.hid (fun i hi => ?_)⟩
          by_cases e : i = k
          · subst e; rw [HC.out]; exact HX.out
          · exact HA.out i (by omega)
        case measure => simp [intOf]; omega
    · obtain rfl : k = s.size := by omega
      have HD : Hid (digs s = true) := Lib.hid (decide_eq_true HA.out)
      rcases Nat.eq_zero_or_pos s.size with h0 | h0
      · have he := empty_yes h0
        have H0 := Lib.hid h0
        clear h0
        go_wp2_with fail
        go_ret2
        refine ⟨?_, rfl⟩
        unfold numV numE numF
        rw [if_neg (fun hh => by have := hh.2.1; rw [H0.out] at this; omega), if_neg (by simp), if_neg (fun hh => by have := hh.2; rw [H0.out] at this; omega)]
        rfl
      · have he := empty_no h0
        have H0 := Lib.hid h0
        clear h0
        by_cases h15 : s.size ≤ 15
        · have h15' : ¬ (15 : Int) < (s.size : Int) := by omega
          have HF : Hid (numF s = some (valP s s.size)) := Lib.hid (by unfold numF; rw [if_pos ⟨HD.out, H0.out, h15⟩])
          have H15 := Lib.hid h15
          go_wp2_with fail
          go_loopw [4, 33] (fun nv i wr => ∃ k : Nat, k ≤ s.size ∧ i = .int .i64 k ∧ nv = .int .i64 (valP s k : Nat) ∧ w = wr) (fun _ i _ => s.size - (intOf i).toNat)
          case atStart => exact ⟨0, by omega, rfl, rfl, rfl⟩
          case round =>
            obtain ⟨k, hk, rfl, rfl, rfl⟩ := hrel
            by_cases hlt : k < s.size
            · have hki : (k : Int) < (s.size : Int) := by omega
              obtain ⟨c, hc⟩ : ∃ c, (s[k]'hlt).toNat = c := ⟨_, rfl⟩
              have hcb : byt s k = c := by rw [byt_is hlt]; exact hc
              have HC := Lib.hid hcb
              have hd := of_decide_eq_true HD.out k hlt
              rw [hcb] at hd
              obtain ⟨v, hv⟩ : ∃ v, valP s k = v := ⟨_, rfl⟩
              have hvl : v < 1000000000000000 := by rw [← hv]; have h1 := valP_lt HD.out k hk; have h2 := pow15 (show k ≤ 15 by omega); omega
              have HV : Hid (valP s (k + 1) = 10 * v + (c - 48)) := Lib.hid (by rw [← hv, ← hcb]; rfl)
              have w1 : IntKind.u8.wrap ((c : Int) - 48) = (c : Int) - 48 := by rw [IntKind.wrap_u8]; omega
              have w1' : wrap64 ((c : Int) - 48) = (c : Int) - 48 := by unfold wrap64; omega
              have w2 : wrap64 (10 * (v : Int)) = 10 * (v : Int) := by unfold wrap64; omega
              have w3 : wrap64 (10 * (v : Int) + ((c : Int) - 48)) = 10 * (v : Int) + ((c : Int) - 48) := by unfold wrap64; omega
              have HD2 := Lib.hid hd
              clear hd hcb
              rw [hv]
              clear hv hvl
              go_wp2_with fail
              go_roundw
              case rel =>
                refine ⟨k + 1, by omega, by go_num, ?_, by first | rfl | trivial⟩
                rw [HV.out]
                have := HD2.out
                rw [w3]
                go_num
              case measure => simp [intOf]; omega
            · obtain rfl : k = s.size := by omega
              go_wp2_with fail
              go_ret2
              refine ⟨?_, rfl⟩
              unfold numV numE
              rw [HF.out]
              rfl
        · have h15' : (15 : Int) < (s.size : Int) := by omega
          go_wp2_with fail
          go_ret2
          refine ⟨?_, rfl⟩
          unfold numV numE numF
          rw [if_neg (fun hh => h15 hh.2.2), if_neg (by simp), if_pos ⟨HD.out, H0.out⟩]
          rfl
theorem numE_isNil (s : ByteArray) : (numE s = .nilIface ∧ (numF s).isSome = true) ∨ (∃ k, numE s = errV k ∧ (numF s).isSome = false) := by
  unfold numE
  cases h : (numF s).isSome with
  | true => exact .inl ⟨by simp, rfl⟩
  | false =>
    right
    simp only [Bool.false_eq_true, if_false]
    split
    · exact ⟨5, rfl, trivial⟩
    · exact ⟨2, rfl, trivial⟩
set_option maxRecDepth 100000 in
theorem numr_any (s : ByteArray) (hs : (s.size : Int) ≤ 9223372036854775807) (w : World) :
    Calls Tryz.prog 44 #[.string s] w fun e w' => e = .returned (.tuple #[.int .i64 (numV s), .bool (numF s).isSome]) ∧ Ext w w' := by
  have HN := Lib.hid (number_any s hs w)
  rcases numE_isNil s with ⟨h1, h2⟩ | ⟨k, h1, h2⟩
  · rw [h1] at HN
    rw [h2]
    clear h1 h2
    go_enter Tryz.func44, Tryz.ntmps44
    go_upto_region 2 with (go_at_call 59; refine HN.out.mono ?_; rintro e w' ⟨rfl, rfl⟩)
    refine wp_region_quiet_lit (by kernel_rfl) (by kernel_rfl) ?_
    repeat (go_big_quiet_step (fail))
    refine wpQuiet_nil ?_
    rintro _ ⟨nq, rfl⟩
    go_wp2_with fail
    go_ret2
    exact ⟨rfl, (Ext.refl w).drewN nq⟩
  · rw [h1] at HN
    rw [h2]
    clear h1 h2
    go_enter Tryz.func44, Tryz.ntmps44
    go_upto_region 2 with (go_at_call 59; refine HN.out.mono ?_; rintro e w' ⟨rfl, rfl⟩)
    refine wp_region_quiet_lit (by kernel_rfl) (by kernel_rfl) ?_
    repeat (go_big_quiet_step (fail))
    refine wpQuiet_nil ?_
    rintro _ ⟨nq, rfl⟩
    go_wp2_with fail
    go_ret2
    exact ⟨rfl, (Ext.refl w).drewN nq⟩
end Go.Proofs.YtlhnejcjeoecaaaGreatDoor
namespace Go.Proofs.YtlhnejcjeoecaaaGreatDoor
open Go.RowKit
/-! ### the first byte of a kind -/
def cutF (s : ByteArray) (c : UInt8) : ByteArray × ByteArray × Bool := (⟨(Lib.cut s.data.toList [c]).1.toArray⟩, ⟨(Lib.cut s.data.toList [c]).2.1.toArray⟩, (Lib.cut s.data.toList [c]).2.2)
theorem bs_ext {a b : ByteArray} (h : a.toList = b.toList) : a = b := ba_eq (by rw [h]; simp)
theorem bs_mk (l : List UInt8) : (⟨l.toArray⟩ : ByteArray).toList = l := by rw [ByteArray.toList_eq]
theorem byt_list (s : ByteArray) (k : Nat) (h : k < s.size) : s.data.toList[k]? = some (s[k]'h) := by
  rw [Lib.size_eq] at h
  rw [List.getElem?_eq_getElem h]
  simp
  rfl
theorem occ_one (l : List UInt8) (c : UInt8) (i : Nat) : Lib.occAt l [c] i = (l[i]? == some c) := by
  unfold Lib.occAt
  cases h : l.drop i with
  | nil =>
    have : l[i]? = none := by rw [List.drop_eq_nil_iff] at h; exact List.getElem?_eq_none h
    rw [this]
    rfl
  | cons a r =>
    have : l[i]? = some a := by
      have h1 := congrArg (·[0]?) h
      simpa using h1
    rw [this]
    have e : (c == a) = (a == c) := by rw [Bool.eq_iff_iff, beq_iff_eq, beq_iff_eq]; exact eq_comm
    simp [List.isPrefixOf, e]
theorem index_at {l : List UInt8} {c : UInt8} {i : Nat} (hi : l[i]? = some c) (hb : ∀ j, j < i → l[j]? ≠ some c) : Lib.index l [c] = i := by
  rcases Lib.index_spec l [c] with ⟨h1, h2⟩ | ⟨k, h1, h2, h3, h4⟩
  · have hil := (List.getElem?_eq_some_iff.1 hi).1
    have := h2 i (by omega)
    rw [occ_one, hi] at this
    simp at this
  · rw [h1]
    rw [occ_one] at h3
    rcases Nat.lt_trichotomy k i with h | h | h
    · exact absurd (eq_of_beq h3) (hb k h)
    · rw [h]
    · have := h4 i h
      rw [occ_one, hi] at this
      simp at this
theorem cutF_at {s : ByteArray} {c : UInt8} {i : Nat} (hi : i < s.size) (hc : s[i]'hi = c) (hb : ∀ j, (h : j < s.size) → j < i → s[j]'h ≠ c) : cutF s c = (s.extract 0 i, s.extract (i + 1) s.size, true) := by
  have h1 : Lib.index s.data.toList [c] = i := index_at (by rw [byt_list s i hi, hc]) (fun j hj => by
    rw [byt_list s j (by omega)]
    intro e
    cases e
    exact hb j (by omega) hj rfl)
  unfold cutF Lib.cut
  rw [h1, if_pos (by omega)]
  refine Prod.ext ?_ (Prod.ext ?_ rfl)
  · exact bs_ext (by rw [Lib.extract_toList, bs_mk]; simp)
  · exact bs_ext (by rw [Lib.extract_toList, bs_mk, List.take_of_length_le (l := s.data.toList.drop (i + 1)) (by rw [List.length_drop, ← Lib.size_eq]; omega)]; simp)
theorem cutF_no {s : ByteArray} {c : UInt8} (hb : ∀ j, (h : j < s.size) → s[j]'h ≠ c) : cutF s c = (s, ⟨#[]⟩, false) := by
  have h1 : Lib.index s.data.toList [c] = -1 := by
    rcases Lib.index_spec s.data.toList [c] with ⟨h1, h2⟩ | ⟨k, h1, h2, h3, h4⟩
    · exact h1
    · rw [occ_one] at h3
      have h5 := eq_of_beq h3
      have hk := (List.getElem?_eq_some_iff.1 h5).1
      rw [← Lib.size_eq] at hk
      rw [byt_list s k hk] at h5
      exact absurd (Option.some.inj h5) (hb k hk)
  unfold cutF Lib.cut
  rw [h1, if_neg (by omega)]
end Go.Proofs.YtlhnejcjeoecaaaGreatDoor
namespace Go.Proofs.YtlhnejcjeoecaaaGreatDoor
open Go.RowKit
theorem row_laid (w : World) (e : TypeId) (xs : List Value) : RowB (w.alloc (.cells xs.toArray e)) w.heap.size e xs :=
  ⟨xs.toArray, (0, 0), [], by show (w.heap.push _)[w.heap.size]? = _; simp, fun j h1 h2 => by simp at h2, by simp⟩
/-- a library variable that the searches read -/
def MaxL (w : World) : Prop := ∃ m, w.cell? ⟨0, 0, none⟩ = some (.int .i64 m)
theorem MaxL.ext {w w' : World} (h : MaxL w) (hx : Ext w w') : MaxL w' := let ⟨m, hm⟩ := h; ⟨m, hx.cell hm⟩
theorem scut_any (s : ByteArray) (c : UInt8) (hs : s.size < 4294967281) (w : World) (hM : MaxL w) :
    Calls Tryz.prog 43 #[.string s, .string ⟨#[c]⟩] w fun e w' => e = .returned (.tuple #[.string (cutF s c).1, .string (cutF s c).2.1, .bool (cutF s c).2.2]) ∧ Ext w w' := by
  obtain ⟨m, hm⟩ := hM
  refine (Any.strings_Cut (P := Tryz.prog) (ρ := Tryz.laysM145_ren) { Tryz.laysM145 with } s ⟨#[c]⟩ m w hs hm).mono ?_
  rintro e w' ⟨rfl, n, rfl⟩
  exact ⟨rfl, (Ext.refl w).drewN n⟩
theorem cutF_size (s : ByteArray) (c : UInt8) : (cutF s c).1.size ≤ s.size ∧ (cutF s c).2.1.size ≤ s.size := by
  unfold cutF Lib.cut
  simp only
  rw [Lib.size_eq, Lib.size_eq, Lib.size_eq]
  split
  · simp only [List.length_take, List.length_drop]
    omega
  · simp
theorem rng_cells {w : World} {g : Nat} {T : TypeId} {a b : Int} (h : RowB w g T [.int .i64 a, .int .i64 b]) : w.cell? ⟨g, 0, none⟩ = some (.int .i64 a) ∧ w.cell? ⟨g, 1, none⟩ = some (.int .i64 b) ∧ w.frozen? ⟨g, 0, none⟩ = false ∧ w.frozen? ⟨g, 1, none⟩ = false :=
  ⟨h.cell (j := 0) rfl, h.cell (j := 1) rfl, h.frozen (j := 0) (by simp), h.frozen (j := 1) (by simp)⟩
theorem ext_set2 {a w : World} (h : Ext a w) {g : Nat} (hg : a.heap.size ≤ g) (v0 v1 : Value) : Ext a ((w.setCell ⟨g, 0, none⟩ v0).setCell ⟨g, 1, none⟩ v1) :=
  (h.setCell (p := ⟨g, 0, none⟩) hg v0).setCell (p := ⟨g, 1, none⟩) hg v1
def elF (s : ByteArray) (len : Int) : Option (Int × Int) :=
  if (cutF s 45).2.2 = true then
    if (cutF s 45).1.size = 0 then (numF (cutF s 45).2.1).map fun y => (max 0 (len - (y : Int)), len)
    else match numF (cutF s 45).1 with
      | none => none
      | some x => if (cutF s 45).2.1.size = 0 then some ((x : Int), len)
        else match numF (cutF s 45).2.1 with
          | none => none
          | some y => if y < x then none else some ((x : Int), min len ((y : Int) + 1))
  else none
theorem numF_empty {s : ByteArray} (h : s.size = 0) : numF s = none := by
  unfold numF
  rw [if_neg (fun hh => by have := hh.2.1; omega)]
theorem numr_some {s : ByteArray} {n : Nat} (hn : numF s = some n) (hs : (s.size : Int) ≤ 9223372036854775807) (w : World) :
    Calls Tryz.prog 44 #[.string s] w fun e w' => e = .returned (.tuple #[.int .i64 n, .bool true]) ∧ Ext w w' := by
  have h := numr_any s hs w
  unfold numV at h
  rw [hn] at h
  exact h
theorem numr_none {s : ByteArray} (hn : numF s = none) (hs : (s.size : Int) ≤ 9223372036854775807) (w : World) :
    Calls Tryz.prog 44 #[.string s] w fun e w' => e = .returned (.tuple #[.int .i64 0, .bool false]) ∧ Ext w w' := by
  have h := numr_any s hs w
  unfold numV at h
  rw [hn] at h
  exact h
set_option maxRecDepth 100000 in
set_option maxHeartbeats 1000000 in
theorem element_any (s : ByteArray) (len : Int) (h0 : 0 ≤ len) (h1 : len ≤ 9223372036854775807) (hs : s.size ≤ 100000) (w : World) (hM : MaxL w) :
    Calls Tryz.prog 25 #[.string s, .int .i64 len] w fun e w' => (∃ f t ok, e = .returned (.tuple #[.agg #[.int .i64 f, .int .i64 t], .bool ok]) ∧ ok = (elF s len).isSome ∧ ∀ p, elF s len = some p → p = (f, t)) ∧ Ext w w' := by
  obtain ⟨hz1, hz2⟩ := cutF_size s 45
  have HCU := Lib.hid (fun W (hW : Ext w W) => scut_any s 45 (by omega) W (hM.ext hW))
  unfold elF
  obtain ⟨⟨a, b, ok⟩, hcu⟩ : ∃ p, cutF s 45 = p := ⟨_, rfl⟩
  rw [hcu] at HCU hz1 hz2 ⊢
  simp only at HCU hz1 hz2 ⊢
  have hsa : (a.size : Int) ≤ 9223372036854775807 := by omega
  have hsb : (b.size : Int) ≤ 9223372036854775807 := by omega
  clear hcu hz1 hz2 hM
  cases ok with
  | false =>
    rw [if_neg (by simp)]
    go_enter Tryz.func25, Tryz.ntmps25
    obtain ⟨wa, hwa⟩ : ∃ wa, wa = w.alloc (.cells #[.int .i64 0, .int .i64 0] 27) := ⟨_, rfl⟩
    have XA : Ext w wa := by rw [hwa]; exact (Ext.refl w).alloc _
    have HT : Hid (RowB wa w.heap.size 27 [.int .i64 0, .int .i64 0]) := Lib.hid (by rw [hwa]; exact row_laid _ _ _)
    go_upto_region 1 with fail
    rw [← hwa]
    clear hwa
    obtain ⟨g, hg⟩ : ∃ g, w.heap.size = g := ⟨_, rfl⟩
    have HG := Lib.hid hg
    rw [hg] at HT ⊢
    clear hg
    go_upto_region 2 with (go_at_call 43; refine (HCU.out _ XA).mono ?_; rintro e w1 ⟨rfl, hx1⟩)
    obtain ⟨t0, t1, f0, f1⟩ := rng_cells (HT.out.ext hx1)
    go_wp2_with fail
    have hr := ((HT.out.ext hx1).set 0 (.int .i64 0) (by simp)).set 1 (.int .i64 0) (by simp)
    obtain ⟨r0, r1, -, -⟩ := rng_cells hr
    exact bodyPost_ret (v := .tuple #[.agg #[.int .i64 0, .int .i64 0], .bool false]) (by simp [results, Tryz.results25, go_sem, r0, r1]) rfl ⟨⟨_, _, _, rfl, rfl, fun p hp => by cases hp⟩, ext_set2 (XA.trans hx1) (by have := HG.out; omega) _ _⟩
  | true =>
    rw [if_pos rfl]
    by_cases ha0 : a.size = 0
    · have hae := empty_yes ha0
      rw [if_pos ha0]
      clear ha0
      cases hb : numF b with
      | none =>
        have HB := Lib.hid (fun W => numr_none hb hsb W)
        clear hb
        have w1' : wrap64 len = len := by unfold wrap64; omega
        go_enter Tryz.func25, Tryz.ntmps25
        obtain ⟨wa, hwa⟩ : ∃ wa, wa = w.alloc (.cells #[.int .i64 0, .int .i64 0] 27) := ⟨_, rfl⟩
        have XA : Ext w wa := by rw [hwa]; exact (Ext.refl w).alloc _
        have HT : Hid (RowB wa w.heap.size 27 [.int .i64 0, .int .i64 0]) := Lib.hid (by rw [hwa]; exact row_laid _ _ _)
        go_upto_region 1 with fail
        rw [← hwa]
        clear hwa
        obtain ⟨g, hg⟩ : ∃ g, w.heap.size = g := ⟨_, rfl⟩
        have HG := Lib.hid hg
        rw [hg] at HT ⊢
        clear hg
        go_upto_region 2 with (go_at_call 43; refine (HCU.out _ XA).mono ?_; rintro e w1 ⟨rfl, hx1⟩)
        go_upto_region 5 with (go_at_call 44; refine (HB.out _).mono ?_; rintro e w2 ⟨rfl, hx2⟩)
        obtain ⟨t0, t1, f0, f1⟩ := rng_cells (HT.out.ext (hx1.trans hx2))
        go_wp2_with fail
        have hr := ((HT.out.ext (hx1.trans hx2)).set 0 (.int .i64 (max 0 len)) (by simp)).set 1 (.int .i64 len) (by simp)
        obtain ⟨r0, r1, -, -⟩ := rng_cells hr
        exact bodyPost_ret (v := .tuple #[.agg #[.int .i64 (max 0 len), .int .i64 len], .bool false]) (by simp [results, Tryz.results25, go_sem, r0, r1]) rfl ⟨⟨_, _, _, rfl, rfl, fun p hp => by cases hp⟩, ext_set2 (XA.trans (hx1.trans hx2)) (by have := HG.out; omega) _ _⟩
      | some y =>
        have HB := Lib.hid (fun W => numr_some hb hsb W)
        have hy := numF_lt hb
        clear hb
        have w1' : wrap64 (len - (y : Int)) = len - (y : Int) := by unfold wrap64; omega
        go_enter Tryz.func25, Tryz.ntmps25
        obtain ⟨wa, hwa⟩ : ∃ wa, wa = w.alloc (.cells #[.int .i64 0, .int .i64 0] 27) := ⟨_, rfl⟩
        have XA : Ext w wa := by rw [hwa]; exact (Ext.refl w).alloc _
        have HT : Hid (RowB wa w.heap.size 27 [.int .i64 0, .int .i64 0]) := Lib.hid (by rw [hwa]; exact row_laid _ _ _)
        go_upto_region 1 with fail
        rw [← hwa]
        clear hwa
        obtain ⟨g, hg⟩ : ∃ g, w.heap.size = g := ⟨_, rfl⟩
        have HG := Lib.hid hg
        rw [hg] at HT ⊢
        clear hg
        go_upto_region 2 with (go_at_call 43; refine (HCU.out _ XA).mono ?_; rintro e w1 ⟨rfl, hx1⟩)
        go_upto_region 5 with (go_at_call 44; refine (HB.out _).mono ?_; rintro e w2 ⟨rfl, hx2⟩)
        obtain ⟨t0, t1, f0, f1⟩ := rng_cells (HT.out.ext (hx1.trans hx2))
        go_wp2_with fail
        have hr := ((HT.out.ext (hx1.trans hx2)).set 0 (.int .i64 (max 0 (len - (y : Int)))) (by simp)).set 1 (.int .i64 len) (by simp)
        obtain ⟨r0, r1, -, -⟩ := rng_cells hr
        exact bodyPost_ret (v := .tuple #[.agg #[.int .i64 (max 0 (len - (y : Int))), .int .i64 len], .bool true]) (by simp [results, Tryz.results25, go_sem, r0, r1]) rfl ⟨⟨_, _, _, rfl, rfl, fun p hp => by cases hp; rfl⟩, ext_set2 (XA.trans (hx1.trans hx2)) (by have := HG.out; omega) _ _⟩
    · have hae := empty_no (show 0 < a.size by omega)
      rw [if_neg ha0]
      clear ha0
      cases ha : numF a with
      | none =>
        have HA := Lib.hid (fun W => numr_none ha hsa W)
        have HB := Lib.hid (fun W => numr_any b hsb W)
        obtain ⟨vb, hvb⟩ : ∃ v, numV b = v := ⟨_, rfl⟩
        obtain ⟨ob, hob⟩ : ∃ v, (numF b).isSome = v := ⟨_, rfl⟩
        rw [hvb, hob] at HB
        clear ha hvb hob
        go_enter Tryz.func25, Tryz.ntmps25
        obtain ⟨wa, hwa⟩ : ∃ wa, wa = w.alloc (.cells #[.int .i64 0, .int .i64 0] 27) := ⟨_, rfl⟩
        have XA : Ext w wa := by rw [hwa]; exact (Ext.refl w).alloc _
        have HT : Hid (RowB wa w.heap.size 27 [.int .i64 0, .int .i64 0]) := Lib.hid (by rw [hwa]; exact row_laid _ _ _)
        go_upto_region 1 with fail
        rw [← hwa]
        clear hwa
        obtain ⟨g, hg⟩ : ∃ g, w.heap.size = g := ⟨_, rfl⟩
        have HG := Lib.hid hg
        rw [hg] at HT ⊢
        clear hg
        go_upto_region 2 with (go_at_call 43; refine (HCU.out _ XA).mono ?_; rintro e w1 ⟨rfl, hx1⟩)
        go_upto_region 5 with (go_at_call 44; refine (HB.out _).mono ?_; rintro e w2 ⟨rfl, hx2⟩)
        go_upto_region 8 with (go_at_call 44; refine (HA.out _).mono ?_; rintro e w3 ⟨rfl, hx3⟩)
        obtain ⟨t0, t1, f0, f1⟩ := rng_cells (HT.out.ext ((hx1.trans hx2).trans hx3))
        go_wp2_with fail
        have hr := ((HT.out.ext ((hx1.trans hx2).trans hx3)).set 0 (.int .i64 0) (by simp)).set 1 (.int .i64 0) (by simp)
        obtain ⟨r0, r1, -, -⟩ := rng_cells hr
        exact bodyPost_ret (v := .tuple #[.agg #[.int .i64 0, .int .i64 0], .bool false]) (by simp [results, Tryz.results25, go_sem, r0, r1]) rfl ⟨⟨_, _, _, rfl, rfl, fun p hp => by cases hp⟩, ext_set2 (XA.trans ((hx1.trans hx2).trans hx3)) (by have := HG.out; omega) _ _⟩
      | some x =>
        have HA := Lib.hid (fun W => numr_some ha hsa W)
        have hx := numF_lt ha
        clear ha
        simp only
        by_cases hb0 : b.size = 0
        · have hbe := empty_yes hb0
          rw [if_pos hb0]
          have HB := Lib.hid (fun W => numr_none (numF_empty hb0) hsb W)
          clear hb0
          go_enter Tryz.func25, Tryz.ntmps25
          obtain ⟨wa, hwa⟩ : ∃ wa, wa = w.alloc (.cells #[.int .i64 0, .int .i64 0] 27) := ⟨_, rfl⟩
          have XA : Ext w wa := by rw [hwa]; exact (Ext.refl w).alloc _
          have HT : Hid (RowB wa w.heap.size 27 [.int .i64 0, .int .i64 0]) := Lib.hid (by rw [hwa]; exact row_laid _ _ _)
          go_upto_region 1 with fail
          rw [← hwa]
          clear hwa
          obtain ⟨g, hg⟩ : ∃ g, w.heap.size = g := ⟨_, rfl⟩
          have HG := Lib.hid hg
          rw [hg] at HT ⊢
          clear hg
          go_upto_region 2 with (go_at_call 43; refine (HCU.out _ XA).mono ?_; rintro e w1 ⟨rfl, hx1⟩)
          go_upto_region 5 with (go_at_call 44; refine (HB.out _).mono ?_; rintro e w2 ⟨rfl, hx2⟩)
          go_upto_region 8 with (go_at_call 44; refine (HA.out _).mono ?_; rintro e w3 ⟨rfl, hx3⟩)
          obtain ⟨t0, t1, f0, f1⟩ := rng_cells (HT.out.ext ((hx1.trans hx2).trans hx3))
          go_wp2_with fail
          have hr := ((HT.out.ext ((hx1.trans hx2).trans hx3)).set 0 (.int .i64 (x : Int)) (by simp)).set 1 (.int .i64 len) (by simp)
          obtain ⟨r0, r1, -, -⟩ := rng_cells hr
          exact bodyPost_ret (v := .tuple #[.agg #[.int .i64 (x : Int), .int .i64 len], .bool true]) (by simp [results, Tryz.results25, go_sem, r0, r1]) rfl ⟨⟨_, _, _, rfl, rfl, fun p hp => by cases hp; rfl⟩, ext_set2 (XA.trans ((hx1.trans hx2).trans hx3)) (by have := HG.out; omega) _ _⟩
        · have hbe := empty_no (show 0 < b.size by omega)
          rw [if_neg hb0]
          clear hb0
          cases hb : numF b with
          | none =>
            have HB := Lib.hid (fun W => numr_none hb hsb W)
            clear hb
            go_enter Tryz.func25, Tryz.ntmps25
            obtain ⟨wa, hwa⟩ : ∃ wa, wa = w.alloc (.cells #[.int .i64 0, .int .i64 0] 27) := ⟨_, rfl⟩
            have XA : Ext w wa := by rw [hwa]; exact (Ext.refl w).alloc _
            have HT : Hid (RowB wa w.heap.size 27 [.int .i64 0, .int .i64 0]) := Lib.hid (by rw [hwa]; exact row_laid _ _ _)
            go_upto_region 1 with fail
            rw [← hwa]
            clear hwa
            obtain ⟨g, hg⟩ : ∃ g, w.heap.size = g := ⟨_, rfl⟩
            have HG := Lib.hid hg
            rw [hg] at HT ⊢
            clear hg
            go_upto_region 2 with (go_at_call 43; refine (HCU.out _ XA).mono ?_; rintro e w1 ⟨rfl, hx1⟩)
            go_upto_region 5 with (go_at_call 44; refine (HB.out _).mono ?_; rintro e w2 ⟨rfl, hx2⟩)
            go_upto_region 8 with (go_at_call 44; refine (HA.out _).mono ?_; rintro e w3 ⟨rfl, hx3⟩)
            obtain ⟨t0, t1, f0, f1⟩ := rng_cells (HT.out.ext ((hx1.trans hx2).trans hx3))
            go_wp2_with fail
            have hr := ((HT.out.ext ((hx1.trans hx2).trans hx3)).set 0 (.int .i64 0) (by simp)).set 1 (.int .i64 0) (by simp)
            obtain ⟨r0, r1, -, -⟩ := rng_cells hr
            exact bodyPost_ret (v := .tuple #[.agg #[.int .i64 0, .int .i64 0], .bool false]) (by simp [results, Tryz.results25, go_sem, r0, r1]) rfl ⟨⟨_, _, _, rfl, rfl, fun p hp => by cases hp⟩, ext_set2 (XA.trans ((hx1.trans hx2).trans hx3)) (by have := HG.out; omega) _ _⟩
          | some y =>
            have HB := Lib.hid (fun W => numr_some hb hsb W)
            have hy := numF_lt hb
            clear hb
            simp only
            by_cases hyx : y < x
            · rw [if_pos hyx]
              have hyx' : (y : Int) < (x : Int) := by omega
              go_enter Tryz.func25, Tryz.ntmps25
              obtain ⟨wa, hwa⟩ : ∃ wa, wa = w.alloc (.cells #[.int .i64 0, .int .i64 0] 27) := ⟨_, rfl⟩
              have XA : Ext w wa := by rw [hwa]; exact (Ext.refl w).alloc _
              have HT : Hid (RowB wa w.heap.size 27 [.int .i64 0, .int .i64 0]) := Lib.hid (by rw [hwa]; exact row_laid _ _ _)
              go_upto_region 1 with fail
              rw [← hwa]
              clear hwa
              obtain ⟨g, hg⟩ : ∃ g, w.heap.size = g := ⟨_, rfl⟩
              have HG := Lib.hid hg
              rw [hg] at HT ⊢
              clear hg
              go_upto_region 2 with (go_at_call 43; refine (HCU.out _ XA).mono ?_; rintro e w1 ⟨rfl, hx1⟩)
              go_upto_region 5 with (go_at_call 44; refine (HB.out _).mono ?_; rintro e w2 ⟨rfl, hx2⟩)
              go_upto_region 8 with (go_at_call 44; refine (HA.out _).mono ?_; rintro e w3 ⟨rfl, hx3⟩)
              obtain ⟨t0, t1, f0, f1⟩ := rng_cells (HT.out.ext ((hx1.trans hx2).trans hx3))
              go_wp2_with fail
              have hr := ((HT.out.ext ((hx1.trans hx2).trans hx3)).set 0 (.int .i64 0) (by simp)).set 1 (.int .i64 0) (by simp)
              obtain ⟨r0, r1, -, -⟩ := rng_cells hr
              exact bodyPost_ret (v := .tuple #[.agg #[.int .i64 0, .int .i64 0], .bool false]) (by simp [results, Tryz.results25, go_sem, r0, r1]) rfl ⟨⟨_, _, _, rfl, rfl, fun p hp => by cases hp⟩, ext_set2 (XA.trans ((hx1.trans hx2).trans hx3)) (by have := HG.out; omega) _ _⟩
            · rw [if_neg hyx]
              have hyx' : ¬ (y : Int) < (x : Int) := by omega
              have w1' : wrap64 ((y : Int) + 1) = (y : Int) + 1 := by unfold wrap64; omega
              clear hyx
              go_enter Tryz.func25, Tryz.ntmps25
              obtain ⟨wa, hwa⟩ : ∃ wa, wa = w.alloc (.cells #[.int .i64 0, .int .i64 0] 27) := ⟨_, rfl⟩
              have XA : Ext w wa := by rw [hwa]; exact (Ext.refl w).alloc _
              have HT : Hid (RowB wa w.heap.size 27 [.int .i64 0, .int .i64 0]) := Lib.hid (by rw [hwa]; exact row_laid _ _ _)
              go_upto_region 1 with fail
              rw [← hwa]
              clear hwa
              obtain ⟨g, hg⟩ : ∃ g, w.heap.size = g := ⟨_, rfl⟩
              have HG := Lib.hid hg
              rw [hg] at HT ⊢
              clear hg
              go_upto_region 2 with (go_at_call 43; refine (HCU.out _ XA).mono ?_; rintro e w1 ⟨rfl, hx1⟩)
              go_upto_region 5 with (go_at_call 44; refine (HB.out _).mono ?_; rintro e w2 ⟨rfl, hx2⟩)
              go_upto_region 8 with (go_at_call 44; refine (HA.out _).mono ?_; rintro e w3 ⟨rfl, hx3⟩)
              obtain ⟨t0, t1, f0, f1⟩ := rng_cells (HT.out.ext ((hx1.trans hx2).trans hx3))
              go_wp2_with fail
              have hr := ((HT.out.ext ((hx1.trans hx2).trans hx3)).set 0 (.int .i64 (x : Int)) (by simp)).set 1 (.int .i64 (min len ((y : Int) + 1))) (by simp)
              obtain ⟨r0, r1, -, -⟩ := rng_cells hr
              exact bodyPost_ret (v := .tuple #[.agg #[.int .i64 (x : Int), .int .i64 (min len ((y : Int) + 1))], .bool true]) (by simp [results, Tryz.results25, go_sem, r0, r1]) rfl ⟨⟨_, _, _, rfl, rfl, fun p hp => by cases hp; rfl⟩, ext_set2 (XA.trans ((hx1.trans hx2).trans hx3)) (by have := HG.out; omega) _ _⟩
end Go.Proofs.YtlhnejcjeoecaaaGreatDoor
namespace Go.Proofs.YtlhnejcjeoecaaaGreatDoor
open Go.RowKit
end Go.Proofs.YtlhnejcjeoecaaaGreatDoor
namespace Go.Proofs.YtlhnejcjeoecaaaGreatDoor
open Go.RowKit
def ctl (c : Nat) : Bool := (decide (c < 32) && !decide (c = 9)) || decide (c = 127)
def cleanF (s : ByteArray) : Bool := decide (∀ i, i < s.size → ctl (byt s i) = false)
theorem cleanF_no {s : ByteArray} {k : Nat} (h : k < s.size) (hb : ctl (byt s k) = true) : cleanF s = false := by
  unfold cleanF
  rw [decide_eq_false_iff_not]
  intro hh
  rw [hh k h] at hb
  cases hb
set_option maxRecDepth 100000 in
theorem control_any (c : Nat) (hc : c < 256) (w : World) : Calls Tryz.prog 78 #[.int .u8 c] w fun e w' => e = .returned (.bool (ctl c)) ∧ w = w' := by
  have hcs : (c < 32 ∧ c ≠ 9) ∨ (c = 9) ∨ (32 ≤ c ∧ c = 127) ∨ (32 ≤ c ∧ c ≠ 127) := by omega
  rcases hcs with ⟨h1, h2⟩ | h1 | ⟨h1, h2⟩ | ⟨h1, h2⟩
  · have HR : Hid (ctl c = true) := Lib.hid (by unfold ctl; simp [h1, h2])
    have h1' : (c : Int) < 32 := by omega
    have h2' : ((c : Int) != 9) = true := by simp; omega
    clear h1 h2
    go_enter Tryz.func78, Tryz.ntmps78
    go_wp2_with fail
    go_ret
    exact ⟨by rw [HR.out]; rfl, rfl⟩
  · subst h1
    go_enter Tryz.func78, Tryz.ntmps78
    go_wp2_with fail
    go_ret
    exact ⟨rfl, rfl⟩
  · subst h2
    go_enter Tryz.func78, Tryz.ntmps78
    go_wp2_with fail
    go_ret
    exact ⟨rfl, rfl⟩
  · have HR : Hid (ctl c = false) := Lib.hid (by unfold ctl; simp [h2]; omega)
    have h1' : ¬ (c : Int) < 32 := by omega
    have h2' : ((c : Int) == 127) = false := by simp; omega
    clear h1 h2
    go_enter Tryz.func78, Tryz.ntmps78
    go_wp2_with fail
    go_ret
    exact ⟨by rw [HR.out]; rfl, rfl⟩
set_option maxRecDepth 100000 in
theorem clean_any (s : ByteArray) (hs : (s.size : Int) ≤ 9223372036854775807) (w : World) : Calls Tryz.prog 57 #[.string s] w fun e w' => e = .returned (.bool (cleanF s)) ∧ w = w' := by
  go_enter Tryz.func57, Tryz.ntmps57
  go_wp2_with fail
  go_loopw [6] (fun i wr => ∃ k : Nat, k ≤ s.size ∧ i = .int .i64 k ∧ w = wr ∧ Hid (∀ i, i < k → ctl (byt s i) = false)) (fun i _ => s.size - (intOf i).toNat)
  case atStart => exact ⟨0, by omega, rfl, rfl, Lib.hid (fun i hi => by omega)⟩
  case round =>
    obtain ⟨k, hk, rfl, rfl, HA⟩ := hrel
    by_cases hlt : k < s.size
    · have hki : (k : Int) < (s.size : Int) := by omega
      obtain ⟨c, hc⟩ : ∃ c, (s[k]'hlt).toNat = c := ⟨_, rfl⟩
      have hcb : byt s k = c := by rw [byt_is hlt]; exact hc
      have HC := Lib.hid hcb
      have hc256 : c < 256 := by rw [← hcb]; exact byt_lt s k
      have HNO := Lib.hid (fun hb => cleanF_no (s := s) hlt hb)
      have HCT := Lib.hid (fun W => control_any c hc256 W)
      obtain ⟨x, hx⟩ : ∃ x, ctl c = x := ⟨_, rfl⟩
      rw [hx] at HCT
      have HX := Lib.hid hx
      clear hcb hx hc256
      cases x with
      | true =>
        go_wp2_with (go_at_call 78; refine (HCT.out _).mono ?_; rintro e w' ⟨rfl, rfl⟩)
        go_ret
        exact ⟨by rw [HNO.out (by rw [HC.out]; exact HX.out)]; rfl, rfl⟩
      | false =>
        go_wp2_with (go_at_call 78; refine (HCT.out _).mono ?_; rintro e w' ⟨rfl, rfl⟩)
        go_roundw
        case rel =>
          refine ⟨k + 1, by omega, by go_num, by first | rfl | trivial, Lib.hid (fun i hi => ?_)⟩
          by_cases e : i = k
          · subst e; rw [HC.out]; exact HX.out
          · exact HA.out i (by omega)
        case measure => simp [intOf]; omega
    · obtain rfl : k = s.size := by omega
      have HD : Hid (cleanF s = true) := Lib.hid (decide_eq_true HA.out)
      go_wp2_with fail
      go_ret
      exact ⟨by rw [HD.out]; rfl, rfl⟩
/-! ### Trim -/
def trimF (s : ByteArray) : ByteArray := ⟨(Lib.trimS s.data.toList [32, 9]).toArray⟩
theorem strim_any (s : ByteArray) (hs : s.size ≤ 9223372036854775807) (w : World) :
    Calls Tryz.prog 50 #[.string s, .string ⟨#[32, 9]⟩] w fun e w' => e = .returned (.string (trimF s)) ∧ Ext w w' :=
  Any.strings_Trim_laid Tryz.lays160 (by kernel_rfl) s ⟨#[32, 9]⟩ w hs (by decide) (ascii_of_all (by decide))
theorem trimF_size (s : ByteArray) : (trimF s).size ≤ s.size := by
  unfold trimF Lib.trimS Lib.trimLeftS Lib.trimRightS
  rw [Lib.size_eq, Lib.size_eq]
  have h1 : ∀ (p : UInt8 → Bool) (l : List UInt8), (l.dropWhile p).length ≤ l.length := fun p l => (List.dropWhile_sublist p).length_le
  have h2 := h1 (([32, 9] : List UInt8).contains ·) (s.data.toList.reverse.dropWhile (([32, 9] : List UInt8).contains ·)).reverse
  have h3 := h1 (([32, 9] : List UInt8).contains ·) s.data.toList.reverse
  simp only [List.length_reverse] at h2 h3
  exact Nat.le_trans h2 h3
end Go.Proofs.YtlhnejcjeoecaaaGreatDoor
namespace Go.Proofs.YtlhnejcjeoecaaaGreatDoor
open Go.RowKit
def strSz (v : Value) : Nat := match v with | .string x => x.size | _ => 0
def blk (b : UInt8) : Bool := ([32, 9] : List UInt8).contains b
theorem blk_nat (b : UInt8) : blk b = (decide (b.toNat = 32) || decide (b.toNat = 9)) := by
  unfold blk
  rw [Bool.eq_iff_iff]
  simp only [List.contains_cons, List.contains_nil, Bool.or_false, Bool.or_eq_true, beq_iff_eq, decide_eq_true_eq]
  rw [← UInt8.toNat_inj, ← UInt8.toNat_inj]
  rfl
theorem trim_char {l : List UInt8} {i m : Nat} (him : i + m ≤ l.length) (h1 : ∀ j b, j < i → l[j]? = some b → blk b = true) (h2 : ∀ j b, i + m ≤ j → l[j]? = some b → blk b = true)
    (h3 : 0 < m → (∀ b, l[i]? = some b → blk b = false) ∧ ∀ b, l[i + m - 1]? = some b → blk b = false) : Lib.trimS l [32, 9] = (l.drop i).take m := by
  unfold Lib.trimS
  rcases Nat.eq_zero_or_pos m with h0 | h0
  · subst h0
    rw [Lib.trimRightS_take l [32, 9] 0 (Nat.zero_le _) (fun j b _ hb => ?_) (fun b h => absurd h (by omega))]
    · simp [Lib.trimLeftS]
    · rcases Nat.lt_or_ge j i with h | h
      · exact h1 j b h hb
      · exact h2 j b (by omega) hb
  · obtain ⟨h4, h5⟩ := h3 h0
    rw [Lib.trimRightS_take l [32, 9] (i + m) him (fun j b hj hb => h2 j b hj hb) (fun b _ hb => h5 b hb)]
    rw [Lib.trimLeftS_drop (l.take (i + m)) [32, 9] i (by rw [List.length_take]; omega) (fun j b hj hb => ?_) (fun b hb => ?_)]
    · rw [List.drop_take]
      congr 1
      omega
    · rw [List.getElem?_take_of_lt (by omega)] at hb
      exact h1 j b hj hb
    · rw [List.getElem?_take_of_lt (by omega)] at hb
      exact h4 b hb
theorem size_list (x : ByteArray) : x.size = x.toList.length := by rw [Lib.size_eq, ByteArray.toList_eq]
theorem at_list (x : ByteArray) (k : Nat) (h : k < x.size) : x.toList[k]? = some (x[k]'h) := by rw [ByteArray.toList_eq]; exact byt_list x k h
theorem ext_list (x : ByteArray) (a b : Nat) : (x.extract a b).toList = (x.toList.drop a).take (b - a) := by rw [Lib.extract_toList, ByteArray.toList_eq]
end Go.Proofs.YtlhnejcjeoecaaaGreatDoor
namespace Go.Proofs.YtlhnejcjeoecaaaGreatDoor
open Go.RowKit
theorem index_gen {l p : List UInt8} {i : Nat} (hi : Lib.occAt l p i = true) (hil : i ≤ l.length) (hb : ∀ j, j < i → Lib.occAt l p j = false) : Lib.index l p = i := by
  rcases Lib.index_spec l p with ⟨h1, h2⟩ | ⟨k, h1, h2, h3, h4⟩
  · rw [h2 i hil] at hi
    cases hi
  · rw [h1]
    rcases Nat.lt_trichotomy k i with h | h | h
    · rw [hb k h] at h3; cases h3
    · rw [h]
    · rw [h4 i h] at hi; cases hi
theorem index_not {l p : List UInt8} (h : ∀ j, j ≤ l.length → Lib.occAt l p j = false) : Lib.index l p = -1 := by
  rcases Lib.index_spec l p with ⟨h1, _⟩ | ⟨k, h1, h2, h3, _⟩
  · exact h1
  · rw [h k h2] at h3; cases h3
theorem occ_two (l : List UInt8) (i : Nat) : Lib.occAt l [13, 10] i = true ↔ l[i]? = some 13 ∧ l[i + 1]? = some 10 := by
  unfold Lib.occAt
  rw [show l[i]? = (l.drop i)[0]? by rw [List.getElem?_drop, Nat.add_zero], show l[i + 1]? = (l.drop i)[1]? by rw [List.getElem?_drop]]
  cases l.drop i with
  | nil => simp
  | cons a r =>
    cases r with
    | nil => simp
    | cons b r =>
      show ([13, 10] : List UInt8).isPrefixOf (a :: b :: r) = true ↔ some a = some 13 ∧ some b = some 10
      simp only [List.isPrefixOf, Bool.and_true, Bool.and_eq_true, beq_iff_eq, Option.some.injEq]
      exact ⟨fun h => ⟨h.1.symm, h.2.symm⟩, fun h => ⟨h.1.symm, h.2.symm⟩⟩
/-- a text around its first CR LF -/
def cutB (s : ByteArray) : ByteArray × ByteArray × Bool := (⟨(Lib.cut s.data.toList [13, 10]).1.toArray⟩, ⟨(Lib.cut s.data.toList [13, 10]).2.1.toArray⟩, (Lib.cut s.data.toList [13, 10]).2.2)
theorem scutB_any (s : ByteArray) (hs : s.size < 4294967281) (w : World) (hM : MaxL w) :
    Calls Tryz.prog 43 #[.string s, .string ⟨#[13, 10]⟩] w fun e w' => e = .returned (.tuple #[.string (cutB s).1, .string (cutB s).2.1, .bool (cutB s).2.2]) ∧ ∃ n, w' = w.drewN n := by
  obtain ⟨m, hm⟩ := hM
  exact Any.strings_Cut (P := Tryz.prog) (ρ := Tryz.laysM145_ren) { Tryz.laysM145 with } s ⟨#[13, 10]⟩ m w hs hm
theorem cutB_at {s : ByteArray} {i : Nat} (hi : i + 1 < s.size) (h1 : byt s i = 13) (h2 : byt s (i + 1) = 10) (hb : ∀ j, j < i → ¬ (byt s j = 13 ∧ byt s (j + 1) = 10)) : cutB s = (s.extract 0 i, s.extract (i + 2) s.size, true) := by
  have key : ∀ j, j + 1 < s.size → (Lib.occAt s.data.toList [13, 10] j = true ↔ byt s j = 13 ∧ byt s (j + 1) = 10) := by
    intro j hj
    rw [occ_two, byt_list s j (by omega), byt_list s (j + 1) hj, byt_is (by omega : j < s.size), byt_is hj]
    simp only [Option.some.injEq]
    constructor
    · rintro ⟨e1, e2⟩; rw [e1, e2]; exact ⟨rfl, rfl⟩
    · rintro ⟨e1, e2⟩; exact ⟨UInt8.toNat_inj.1 e1, UInt8.toNat_inj.1 e2⟩
  have hx : Lib.index s.data.toList [13, 10] = i := index_gen ((key i hi).2 ⟨h1, h2⟩) (by rw [← Lib.size_eq]; omega) (fun j hj => by
    rw [← Bool.not_eq_true, key j (by omega)]
    exact hb j hj)
  unfold cutB Lib.cut
  rw [hx, if_pos (by omega)]
  refine Prod.ext ?_ (Prod.ext ?_ rfl)
  · exact bs_ext (by rw [Lib.extract_toList, bs_mk]; simp)
  · exact bs_ext (by rw [Lib.extract_toList, bs_mk, List.take_of_length_le (l := s.data.toList.drop (i + 2)) (by rw [List.length_drop, ← Lib.size_eq]; omega)]; simp)
theorem cutB_no {s : ByteArray} (hb : ∀ j, j + 1 < s.size → ¬ (byt s j = 13 ∧ byt s (j + 1) = 10)) : cutB s = (s, ⟨#[]⟩, false) := by
  have hx : Lib.index s.data.toList [13, 10] = -1 := index_not (fun j _ => by
    rw [← Bool.not_eq_true, occ_two]
    rintro ⟨e1, e2⟩
    have hj := (List.getElem?_eq_some_iff.1 e2).1
    rw [← Lib.size_eq] at hj
    rw [byt_list s j (by omega)] at e1
    rw [byt_list s (j + 1) hj] at e2
    refine hb j hj ?_
    rw [byt_is (by omega : j < s.size), byt_is hj, Option.some.inj e1, Option.some.inj e2]
    exact ⟨rfl, rfl⟩)
  unfold cutB Lib.cut
  rw [hx, if_neg (by omega)]
/-- whether a text begins with another -/
def pfxB (p s : ByteArray) : Bool := Lib.hasPrefix s.data.toList p.data.toList
theorem pfxB_size {p s : ByteArray} (h : pfxB p s = true) : p.size ≤ s.size := by
  have h1 := (List.isPrefixOf_iff_prefix.1 h).length_le
  rw [Lib.size_eq, Lib.size_eq]
  exact h1
theorem pfxB_cut (p s : ByteArray) : ((s.extract 0 p.size).toList == p.toList) = pfxB p s := by
  rw [Lib.extract_toList, List.drop_zero, ByteArray.toList_eq, Bool.eq_iff_iff, beq_iff_eq]
  show s.data.toList.take (p.size - 0) = p.data.toList ↔ p.data.toList.isPrefixOf s.data.toList = true
  rw [List.isPrefixOf_iff_prefix, Nat.sub_zero, Lib.size_eq]
  constructor
  · intro e
    rw [← e]
    exact List.take_prefix _ _
  · intro hp
    exact (List.prefix_iff_eq_take.1 hp).symm
/-- CutPrefix -/
theorem spfxB_any (s p : ByteArray) (w : World) : Calls Tryz.prog 23 #[.string s, .string p] w fun e w' => (∃ x, e = .returned (.tuple #[.string x, .bool (pfxB p s)]) ∧ x.size ≤ s.size ∧ (pfxB p s = true → x = s.extract p.size s.size)) ∧ w = w' := by
  refine (Any.strings_CutPrefix Tryz.lays103 s p w).mono ?_
  rintro e w' ⟨rfl, rfl⟩
  refine ⟨⟨_, rfl, ?_, fun hp => ?_⟩, rfl⟩
  · unfold Lib.trimPrefix
    rw [Lib.size_eq, Lib.size_eq]
    split <;> simp
  · have hp2 : Lib.hasPrefix s.data.toList p.data.toList = true := hp
    refine bs_ext ?_
    rw [bs_mk, Lib.extract_toList]
    unfold Lib.trimPrefix
    rw [if_pos hp2, List.take_of_length_le (by rw [List.length_drop, ← Lib.size_eq]; exact Nat.le_refl _), Lib.size_eq]
/-- the reference's line -/
def lineF (p s : ByteArray) : ByteArray × ByteArray × Bool :=
  if pfxB p s = true then
    if (cutB (s.extract p.size s.size)).2.2 = true then cutB (s.extract p.size s.size) else (⟨#[]⟩, ⟨#[]⟩, false)
  else (⟨#[]⟩, ⟨#[]⟩, false)
end Go.Proofs.YtlhnejcjeoecaaaGreatDoor
namespace Go.Proofs.YtlhnejcjeoecaaaGreatDoor
open Go.RowKit
theorem lineF_no {p s : ByteArray} (h : pfxB p s = false) : lineF p s = (⟨#[]⟩, ⟨#[]⟩, false) := by unfold lineF; rw [h]; rfl
theorem lineF_at {p s : ByteArray} (h : pfxB p s = true) {t : ByteArray} (ht : s.extract p.size s.size = t) {i : Nat} (hi : i + 1 < t.size) (h1 : byt t i = 13) (h2 : byt t (i + 1) = 10) (hb : ∀ j, j < i → ¬ (byt t j = 13 ∧ byt t (j + 1) = 10)) : lineF p s = (t.extract 0 i, t.extract (i + 2) t.size, true) := by
  unfold lineF
  rw [h, if_pos rfl, ht, cutB_at hi h1 h2 hb, if_pos rfl]
theorem lineF_none {p s : ByteArray} (h : pfxB p s = true) {t : ByteArray} (ht : s.extract p.size s.size = t) (hb : ∀ j, j + 1 < t.size → ¬ (byt t j = 13 ∧ byt t (j + 1) = 10)) : lineF p s = (⟨#[]⟩, ⟨#[]⟩, false) := by
  unfold lineF
  rw [h, if_pos rfl, ht, cutB_no hb, if_neg (by simp)]
theorem scontains_any (s p : ByteArray) (hs : s.size < 4294967281) (w : World) (hM : MaxL w) :
    Calls Tryz.prog 36 #[.string s, .string p] w fun e w' => e = .returned (.bool (Lib.contains s.data.toList p.data.toList)) ∧ w' = w := by
  obtain ⟨m, hm⟩ := hM
  exact Any.strings_Contains (P := Tryz.prog) (ρ := Tryz.laysM144_ren) { Tryz.laysM144 with } s p m w hs hm
end Go.Proofs.YtlhnejcjeoecaaaGreatDoor
namespace Go.Proofs.YtlhnejcjeoecaaaGreatDoor
open Go.RowKit
/-- whether a text holds another -/
def holdF (s p : ByteArray) : Bool := Lib.contains s.data.toList p.data.toList
theorem holdF_at {s p : ByteArray} {i : Nat} (hi : i ≤ s.size) (h : Lib.occAt s.data.toList p.data.toList i = true) : holdF s p = true := by
  unfold holdF Lib.contains
  rw [decide_eq_true_iff]
  rcases Lib.index_spec s.data.toList p.data.toList with ⟨_, h2⟩ | ⟨k, h1, _⟩
  · rw [h2 i (by rw [← Lib.size_eq]; exact hi)] at h
    cases h
  · rw [h1]; omega
theorem holdF_no {s p : ByteArray} (h : ∀ j, j + p.size ≤ s.size → Lib.occAt s.data.toList p.data.toList j = false) : holdF s p = false := by
  unfold holdF Lib.contains
  rw [index_not (fun j hjl => ?_)]
  · rfl
  · by_cases hj : j + p.size ≤ s.size
    · exact h j hj
    · rw [← Bool.not_eq_true]
      intro ho
      have h1 := (List.isPrefixOf_iff_prefix.1 ho).length_le
      rw [List.length_drop, ← Lib.size_eq, ← Lib.size_eq] at h1
      rw [← Lib.size_eq] at hjl
      omega
theorem occ_cut (s p : ByteArray) (i : Nat) : ((s.extract i (i + p.size)).toList == p.toList) = Lib.occAt s.data.toList p.data.toList i := by
  rw [Lib.extract_toList, ByteArray.toList_eq, Bool.eq_iff_iff, beq_iff_eq]
  unfold Lib.occAt
  rw [List.isPrefixOf_iff_prefix, Nat.add_sub_cancel_left, Lib.size_eq]
  constructor
  · intro e
    rw [← e]
    exact List.take_prefix _ _
  · intro hp
    exact (List.prefix_iff_eq_take.1 hp).symm
set_option maxRecDepth 100000 in
theorem skip_any {w : World} {g : Nat} {s : ByteArray} {b : Bool} (h : RowB w g 79 [.string s, .bool b]) (p : ByteArray) :
    Calls Tryz.prog 33 #[.pointer (some ⟨g, 0, none⟩), .string p] w fun e w' => e = .returned (.tuple #[]) ∧ ∃ x, x.size ≤ s.size ∧ (pfxB p s = true → x = s.extract p.size s.size) ∧ w' = (w.setCell ⟨g, 0, none⟩ (.string x)).setCell ⟨g, 1, none⟩ (.bool (b || !pfxB p s)) := by
  have HS := Lib.hid (fun W => spfxB_any s p W)
  obtain ⟨c, hc⟩ : ∃ c, pfxB p s = c := ⟨_, rfl⟩
  rw [hc] at HS ⊢
  have c0 := h.cell (j := 0) rfl
  have c1 := h.cell (j := 1) rfl
  have f0 := h.frozen (j := 0) (by simp)
  have f1 := h.frozen (j := 1) (by simp)
  clear hc
  go_enter Tryz.func33, Tryz.ntmps33
  go_upto_region 1 with (go_at_call 23; refine (HS.out _).mono ?_; rintro e w1 ⟨⟨x, rfl, hx1, hx2⟩, rfl⟩)
  have HX := Lib.hid (And.intro hx1 hx2)
  clear hx1 hx2
  cases b with
  | true =>
    go_wp2_with fail
    go_returns
    first | exact ⟨rfl, x, HX.out.1, HX.out.2, rfl⟩ | exact ⟨rfl, x, HX.out.1, HX.out.2 trivial, rfl⟩ | exact ⟨rfl, x, HX.out.1, by simp, rfl⟩
  | false =>
    cases c with
    | true =>
      go_wp2_with fail
      go_returns
      first | exact ⟨rfl, x, HX.out.1, HX.out.2, rfl⟩ | exact ⟨rfl, x, HX.out.1, HX.out.2 trivial, rfl⟩ | exact ⟨rfl, x, HX.out.1, by simp, rfl⟩
    | false =>
      go_wp2_with fail
      go_returns
      first | exact ⟨rfl, x, HX.out.1, HX.out.2, rfl⟩ | exact ⟨rfl, x, HX.out.1, HX.out.2 trivial, rfl⟩ | exact ⟨rfl, x, HX.out.1, by simp, rfl⟩
set_option maxRecDepth 100000 in
theorem line_any {w : World} {g : Nat} {s : ByteArray} {b : Bool} (h : RowB w g 79 [.string s, .bool b]) (hs : s.size ≤ 100000) (hM : MaxL w) :
    Calls Tryz.prog 34 #[.pointer (some ⟨g, 0, none⟩)] w fun e w' => e = .returned (.string (cutB s).1) ∧ ∃ n, w' = ((w.drewN n).setCell ⟨g, 0, none⟩ (.string (cutB s).2.1)).setCell ⟨g, 1, none⟩ (.bool (b || !(cutB s).2.2)) := by
  have HS := Lib.hid (scutB_any s (by omega) w hM)
  obtain ⟨⟨y, x, c⟩, hc⟩ : ∃ r, cutB s = r := ⟨_, rfl⟩
  rw [hc] at HS ⊢
  simp only at HS ⊢
  have H := Lib.hid h
  have c0 := h.cell (j := 0) rfl
  clear hc
  go_enter Tryz.func34, Tryz.ntmps34
  go_upto_region 2 with (go_at_call 43; refine HS.out.mono ?_; rintro e w1 ⟨rfl, n, rfl⟩)
  have hr : RowB (w.drewN n) g 79 [.string s, .bool b] := H.out.ext ((Ext.refl w).drewN n)
  clear c0
  have c0 := hr.cell (j := 0) rfl
  have c1 := hr.cell (j := 1) rfl
  have f0 := hr.frozen (j := 0) (by simp)
  have f1 := hr.frozen (j := 1) (by simp)
  clear h hr
  cases b with
  | true =>
    go_wp2_with fail
    go_ret
    exact ⟨rfl, n, rfl⟩
  | false =>
    cases c with
    | true =>
      go_wp2_with fail
      go_ret
      exact ⟨rfl, n, rfl⟩
    | false =>
      go_wp2_with fail
      go_ret
      exact ⟨rfl, n, rfl⟩
end Go.Proofs.YtlhnejcjeoecaaaGreatDoor
namespace Go.Proofs.YtlhnejcjeoecaaaGreatDoor
open Go.RowKit
def alB (c : Nat) : Prop := (48 ≤ c ∧ c ≤ 57) ∨ (97 ≤ c ∧ c ≤ 122) ∨ (65 ≤ c ∧ c ≤ 90)
instance (c : Nat) : Decidable (alB c) := by unfold alB; infer_instance
def bndF (s : ByteArray) : Bool := decide ((∀ i, i < s.size → alB (byt s i)) ∧ 1 ≤ s.size ∧ s.size ≤ 40)
theorem bnd_no {s : ByteArray} {k : Nat} (h : k < s.size) (hb : ¬ alB (byt s k)) : bndF s = false := decide_eq_false (fun hh => hb (hh.1 k h))
set_option maxRecDepth 100000 in
set_option maxHeartbeats 1000000 in
theorem delimiter_any (s : ByteArray) (hs : (s.size : Int) ≤ 9223372036854775807) (w : World) :
    Calls Tryz.prog 30 #[.string s] w fun e w' => e = .returned (.bool (bndF s)) ∧ w = w' := by
  go_enter Tryz.func30, Tryz.ntmps30
  go_wp2_with fail
  go_loopw [7] (fun i wr => ∃ k : Nat, k ≤ s.size ∧ i = .int .i64 k ∧ w = wr ∧ Hid (∀ i, i < k → alB (byt s i))) (fun i _ => s.size - (intOf i).toNat)
  case atStart => exact ⟨0, by omega, rfl, rfl, Lib.hid (fun i hi => by omega)⟩
  case round =>
    obtain ⟨k, hk, rfl, rfl, HA⟩ := hrel
    by_cases hlt : k < s.size
    · have hki : (k : Int) < (s.size : Int) := by omega
      obtain ⟨c, hc⟩ : ∃ c, (s[k]'hlt).toNat = c := ⟨_, rfl⟩
      have hcb : byt s k = c := by rw [byt_is hlt]; exact hc
      have HC := Lib.hid hcb
      have HNO := Lib.hid (fun hb => bnd_no (s := s) hlt hb)
      clear hcb
      rcases (show (c < 48) ∨ (48 ≤ c ∧ c ≤ 57) ∨ (58 ≤ c ∧ c ≤ 64) ∨ (65 ≤ c ∧ c ≤ 90) ∨ (91 ≤ c ∧ c ≤ 96) ∨ (97 ≤ c ∧ c ≤ 122) ∨ (123 ≤ c) by omega) with h1 | h1 | h1 | h1 | h1 | h1 | h1
      · have p0 : (c : Int) < 48 := by omega
        have p1 : ¬ (57 : Int) < (c : Int) := by omega
        have p2 : (c : Int) < 97 := by omega
        have p3 : ¬ (122 : Int) < (c : Int) := by omega
        have p4 : (c : Int) < 65 := by omega
        have p5 : ¬ (90 : Int) < (c : Int) := by omega
        have HX : Hid (¬ alB c) := Lib.hid (by unfold alB; omega)
        clear h1
        go_wp2_with fail
        go_ret
        exact ⟨by rw [HNO.out (by rw [HC.out]; exact HX.out)]; rfl, rfl⟩
      · have p0 : ¬ (c : Int) < 48 := by omega
        have p1 : ¬ (57 : Int) < (c : Int) := by omega
        have p2 : (c : Int) < 97 := by omega
        have p3 : ¬ (122 : Int) < (c : Int) := by omega
        have p4 : (c : Int) < 65 := by omega
        have p5 : ¬ (90 : Int) < (c : Int) := by omega
        have HX : Hid (alB c) := Lib.hid (by unfold alB; omega)
        clear h1
        go_wp2_with fail
        go_roundw
        case rel =>
          refine ⟨k + 1, by omega, by go_num, by first | rfl | trivial, Lib.hid (fun i hi => ?_)⟩
          by_cases e : i = k
          · subst e; rw [HC.out]; exact HX.out
          · exact HA.out i (by omega)
        case measure => simp [intOf]; omega
      · have p0 : ¬ (c : Int) < 48 := by omega
        have p1 : (57 : Int) < (c : Int) := by omega
        have p2 : (c : Int) < 97 := by omega
        have p3 : ¬ (122 : Int) < (c : Int) := by omega
        have p4 : (c : Int) < 65 := by omega
        have p5 : ¬ (90 : Int) < (c : Int) := by omega
        have HX : Hid (¬ alB c) := Lib.hid (by unfold alB; omega)
        clear h1
        go_wp2_with fail
        go_ret
        exact ⟨by rw [HNO.out (by rw [HC.out]; exact HX.out)]; rfl, rfl⟩
      · have p0 : ¬ (c : Int) < 48 := by omega
        have p1 : (57 : Int) < (c : Int) := by omega
        have p2 : (c : Int) < 97 := by omega
        have p3 : ¬ (122 : Int) < (c : Int) := by omega
        have p4 : ¬ (c : Int) < 65 := by omega
        have p5 : ¬ (90 : Int) < (c : Int) := by omega
        have HX : Hid (alB c) := Lib.hid (by unfold alB; omega)
        clear h1
        go_wp2_with fail
        go_roundw
        case rel =>
          refine ⟨k + 1, by omega, by go_num, by first | rfl | trivial, Lib.hid (fun i hi => ?_)⟩
          by_cases e : i = k
          · subst e; rw [HC.out]; exact HX.out
          · exact HA.out i (by omega)
        case measure => simp [intOf]; omega
      · have p0 : ¬ (c : Int) < 48 := by omega
        have p1 : (57 : Int) < (c : Int) := by omega
        have p2 : (c : Int) < 97 := by omega
        have p3 : ¬ (122 : Int) < (c : Int) := by omega
        have p4 : ¬ (c : Int) < 65 := by omega
        have p5 : (90 : Int) < (c : Int) := by omega
        have HX : Hid (¬ alB c) := Lib.hid (by unfold alB; omega)
        clear h1
        go_wp2_with fail
        go_ret
        exact ⟨by rw [HNO.out (by rw [HC.out]; exact HX.out)]; rfl, rfl⟩
      · have p0 : ¬ (c : Int) < 48 := by omega
        have p1 : (57 : Int) < (c : Int) := by omega
        have p2 : ¬ (c : Int) < 97 := by omega
        have p3 : ¬ (122 : Int) < (c : Int) := by omega
        have p4 : ¬ (c : Int) < 65 := by omega
        have p5 : (90 : Int) < (c : Int) := by omega
        have HX : Hid (alB c) := Lib.hid (by unfold alB; omega)
        clear h1
        go_wp2_with fail
        go_roundw
        case rel =>
          refine ⟨k + 1, by omega, by go_num, by first | rfl | trivial, Lib.hid (fun i hi => ?_)⟩
          by_cases e : i = k
          · subst e; rw [HC.out]; exact HX.out
          · exact HA.out i (by omega)
        case measure => simp [intOf]; omega
      · have p0 : ¬ (c : Int) < 48 := by omega
        have p1 : (57 : Int) < (c : Int) := by omega
        have p2 : ¬ (c : Int) < 97 := by omega
        have p3 : (122 : Int) < (c : Int) := by omega
        have p4 : ¬ (c : Int) < 65 := by omega
        have p5 : (90 : Int) < (c : Int) := by omega
        have HX : Hid (¬ alB c) := Lib.hid (by unfold alB; omega)
        clear h1
        go_wp2_with fail
        go_ret
        exact ⟨by rw [HNO.out (by rw [HC.out]; exact HX.out)]; rfl, rfl⟩
    · obtain rfl : k = s.size := by omega
      by_cases h1 : 1 ≤ s.size
      · have h1' : (1 : Int) ≤ (s.size : Int) := by omega
        by_cases h2 : s.size ≤ 40
        · have h2' : (s.size : Int) ≤ 40 := by omega
          have HF : Hid (bndF s = true) := Lib.hid (decide_eq_true ⟨HA.out, h1, h2⟩)
          go_wp2_with fail
          go_ret
          exact ⟨by rw [HF.out]; rfl, rfl⟩
        · have h2' : ¬ (s.size : Int) ≤ 40 := by omega
          have HF : Hid (bndF s = false) := Lib.hid (decide_eq_false (fun h => h2 h.2.2))
          go_wp2_with fail
          go_ret
          exact ⟨by rw [HF.out]; rfl, rfl⟩
      · have h1' : ¬ (1 : Int) ≤ (s.size : Int) := by omega
        have HF : Hid (bndF s = false) := Lib.hid (decide_eq_false (fun h => h1 h.2.1))
        go_wp2_with fail
        go_ret
        exact ⟨by rw [HF.out]; rfl, rfl⟩
end Go.Proofs.YtlhnejcjeoecaaaGreatDoor
