/- Walk of invoice.amount; what it is. -/
import Derived.Test.YtepcnpnpjfdfmaaDoorFmt
namespace Go.Proofs.YtepcnpnpjfdfmaaDoor
open Go.RowKit Go.Sort

/-- the hundredth parts and the rest of them, as text -/
def amtL (u : Nat) : List UInt8 := Lib.decDigits (u / 100) ++ [46, UInt8.ofNat (48 + u / 10 % 10), UInt8.ofNat (48 + u % 10)]
def sgnL (c : Int) : List UInt8 := if c < 0 then [45] else []
abbrev amtS (c : Int) : ByteArray := ⟨(sgnL c ++ amtL c.natAbs).toArray⟩
theorem dec_big {u : Nat} (h : 100 ≤ u) : Lib.decDigits u = Lib.decDigits (u / 100) ++ [UInt8.ofNat (48 + u / 10 % 10), UInt8.ofNat (48 + u % 10)] := by
  rw [Lib.decDigits, dif_neg (by omega), Lib.decDigits, dif_neg (by omega), Nat.div_div_eq_div_mul, List.append_assoc]
  rfl
theorem ba_list {a b : ByteArray} (h : a.data.toList = b.data.toList) : a = b := ByteArray.ext (Array.toList_inj.1 h)
theorem decS_size (u : Nat) : (decS u).size = Lib.nDigits u := by
  show (Lib.decDigits u).toArray.size = _
  rw [List.size_toArray, Lib.decDigits_length]

theorem ba_app (a b : ByteArray) : (a ++ b).data.toList = a.data.toList ++ b.data.toList := by simp
theorem ba_app_size (a b : ByteArray) : (a ++ b).size = a.size + b.size := by simp
def strSz (v : Value) : Nat := match v with | .string s => s.size | _ => 0
theorem pad_amt {L : List UInt8} {k u : Nat} (h : L = List.replicate k 48 ++ Lib.decDigits u) (hk : k = 0 ∨ L.length ≤ 3) (h3 : 3 ≤ L.length) : L.take (L.length - 2) ++ [46] ++ L.drop (L.length - 2) = amtL u := by
  have hlen : L.length = k + Lib.nDigits u := by rw [h, List.length_append, List.length_replicate, Lib.decDigits_length]
  have hn0 := Lib.nDigits_pos u
  unfold amtL
  by_cases h1 : u < 10
  · have hd := Lib.decDigits_one h1
    have hn := Lib.nDigits_small h1
    obtain rfl : k = 2 := by omega
    have e0 : Lib.decDigits (u / 100) = [48] := by rw [show u / 100 = 0 by omega]; exact Lib.decDigits_one (by omega)
    rw [hlen, hn, e0, h, hd, show u / 10 % 10 = 0 by omega, show u % 10 = u by omega]
    rfl
  · by_cases h2 : u < 100
    · have hd := Lib.decDigits_two h1 h2
      have hn : Lib.nDigits u = 2 := by rw [← Lib.decDigits_length, hd]; rfl
      obtain rfl : k = 1 := by omega
      have e0 : Lib.decDigits (u / 100) = [48] := by rw [show u / 100 = 0 by omega]; exact Lib.decDigits_one (by omega)
      rw [hlen, hn, e0, h, hd, show u / 10 % 10 = u / 10 by omega]
      rfl
    · have hd := dec_big (u := u) (by omega)
      have hn : Lib.nDigits u = Lib.nDigits (u / 100) + 2 := by rw [← Lib.decDigits_length, hd, List.length_append, Lib.decDigits_length]; rfl
      have hp := Lib.nDigits_pos (u / 100)
      obtain rfl : k = 0 := by omega
      have hL : L.length - 2 = (Lib.decDigits (u / 100)).length := by rw [hlen, hn, Lib.decDigits_length]; omega
      rw [hL, h, hd]
      simp
theorem amt_end {s : ByteArray} {k u : Nat} {g : List UInt8} (h : s.data.toList = List.replicate k 48 ++ Lib.decDigits u) (hk : k = 0 ∨ s.size ≤ 3) (h3 : 3 ≤ s.size) :
    ((⟨g.toArray⟩ ++ s.extract 0 (s.size - 2)) ++ ⟨#[46]⟩ ++ s.extract (s.size - 2) s.size : ByteArray).data.toList = (⟨(g ++ amtL u).toArray⟩ : ByteArray).data.toList := by
  have hl : s.data.toList.length = s.size := Array.length_toList
  have hp := pad_amt h (by rw [hl]; exact hk) (by rw [hl]; exact h3)
  rw [hl] at hp
  rw [ba_app, ba_app, ba_app]
  show _ = g ++ amtL u
  rw [← hp]
  have e1 : (s.extract 0 (s.size - 2)).data.toList = s.data.toList.take (s.size - 2) := by simp [ByteArray.data_extract]
  have e2 : (s.extract (s.size - 2) s.size).data.toList = s.data.toList.drop (s.size - 2) := by
    rw [ByteArray.data_extract, Array.toList_extract, List.extract_eq_take_drop, List.take_of_length_le]
    rw [List.length_drop, hl]
    exact Nat.le_refl _
  rw [e1, e2]
  simp [List.append_assoc]

set_option maxRecDepth 100000 in
set_option maxHeartbeats 2000000 in
theorem amount_pos (u : Nat) (hu : u < 9223372036854775808) (w : World) (htab : PowT w) :
    Calls Tryd.prog 11 #[.int .i64 u] w fun e w' => e = .returned (.string ⟨([] ++ amtL u).toArray⟩) ∧ Ext w w' := by
    have hz : ¬ (u : Int) < 0 := by omega
    have hub : (u : Int) ≤ 9223372036854775807 := by omega
    go_enter Tryd.func11, Tryd.ntmps11
    go_wp2_with (go_at_call 22; refine (fuint_any u (by omega) _ htab).mono ?_; rintro e w1 ⟨rfl, h1⟩)
    go_loop [5] (fun s5 => ∃ (s : ByteArray) (k : Nat), s5 = .string s ∧ Hid (s.data.toList = List.replicate k 48 ++ Lib.decDigits u ∧ (k = 0 ∨ s.size ≤ 3)) ∧ s.size ≤ 23) (fun s5 => (3 - (strSz s5 : Int)).toNat)
    case atStart => exact ⟨decS u, 0, rfl, Lib.hid ⟨rfl, .inl rfl⟩, by rw [decS_size]; have := Lib.nDigits_le20 u (by omega); omega⟩
    case round =>
      obtain ⟨s, k, rfl, HI, hs23⟩ := hrel
      by_cases h3 : s.size < 3
      · have h3' : (s.size : Int) < 3 := by omega
        go_wp2_with fail
        go_round
        case rel => exact ⟨⟨#[48]⟩ ++ s, k + 1, rfl, Lib.hid ⟨by have h := HI.out.1; rw [ba_app, h]; rfl, .inr (by rw [ba_app_size]; show 1 + s.size ≤ 3; omega)⟩, by rw [ba_app_size]; show 1 + s.size ≤ 23; omega⟩
        case measure => simp only [strSz]; rw [ba_app_size]; show (3 - ((1 + s.size : Nat) : Int)).toNat < _; omega
      · have h3' : ¬ (s.size : Int) < 3 := by omega
        have hw := IntWalk.i64_in ((s.size : Int) - 2) (by omega)
        have h2 : (2 : Int) ≤ (s.size : Int) := by omega
        have h2n : (s.size : Int) - 2 ≤ (s.size : Int) := by omega
        have h2z : (0 : Int) ≤ (s.size : Int) - 2 := by omega
        have h2t : ((s.size : Int) - 2).toNat = s.size - 2 := by omega
        go_wp2_with fail
        go_quiet (fail)
        go_wp2_with fail
        go_ret
        exact ⟨ret_str (ba_list (amt_end HI.out.1 HI.out.2 (by omega))), h1.drewN _⟩

set_option maxRecDepth 100000 in
set_option maxHeartbeats 2000000 in
theorem amount_neg (u : Nat) (hu1 : 1 ≤ u) (hu : u ≤ 9223372036854775808) (w : World) (htab : PowT w) :
    Calls Tryd.prog 11 #[.int .i64 (-(u : Int))] w fun e w' => e = .returned (.string ⟨([45] ++ amtL u).toArray⟩) ∧ Ext w w' := by
    have hz : -(u : Int) < 0 := by omega
    have hz2 : (0 : Int) < (u : Int) := by omega
    have hz3 : 0 < u := hu1
    have HU := Lib.hid hu
    have hwr : IntKind.u64.wrap (-IntKind.u64.wrap (-(u : Int))) = (u : Int) := by rw [IntKind.wrap_u64, IntKind.wrap_u64]; omega
    clear hu
    go_enter Tryd.func11, Tryd.ntmps11
    go_wp2_with (go_at_call 22; refine (fuint_any u (by have := HU.out; omega) _ htab).mono ?_; rintro e w1 ⟨rfl, h1⟩)
    go_loop [5] (fun s5 => ∃ (s : ByteArray) (k : Nat), s5 = .string s ∧ Hid (s.data.toList = List.replicate k 48 ++ Lib.decDigits u ∧ (k = 0 ∨ s.size ≤ 3)) ∧ s.size ≤ 23) (fun s5 => (3 - (strSz s5 : Int)).toNat)
    case atStart => exact ⟨decS u, 0, rfl, Lib.hid ⟨rfl, .inl rfl⟩, by rw [decS_size]; have := Lib.nDigits_le20 u (by have := HU.out; omega); omega⟩
    case round =>
      obtain ⟨s, k, rfl, HI, hs23⟩ := hrel
      by_cases h3 : s.size < 3
      · have h3' : (s.size : Int) < 3 := by omega
        go_wp2_with fail
        go_round
        case rel => exact ⟨⟨#[48]⟩ ++ s, k + 1, rfl, Lib.hid ⟨by have h := HI.out.1; rw [ba_app, h]; rfl, .inr (by rw [ba_app_size]; show 1 + s.size ≤ 3; omega)⟩, by rw [ba_app_size]; show 1 + s.size ≤ 23; omega⟩
        case measure => simp only [strSz]; rw [ba_app_size]; show (3 - ((1 + s.size : Nat) : Int)).toNat < _; omega
      · have h3' : ¬ (s.size : Int) < 3 := by omega
        have hw := IntWalk.i64_in ((s.size : Int) - 2) (by omega)
        have h2 : (2 : Int) ≤ (s.size : Int) := by omega
        have h2n : (s.size : Int) - 2 ≤ (s.size : Int) := by omega
        have h2z : (0 : Int) ≤ (s.size : Int) - 2 := by omega
        have h2t : ((s.size : Int) - 2).toNat = s.size - 2 := by omega
        go_wp2_with fail
        go_quiet (fail)
        go_wp2_with fail
        go_ret
        exact ⟨ret_str (ba_list (amt_end HI.out.1 HI.out.2 (by omega))), h1.drewN _⟩
end Go.Proofs.YtepcnpnpjfdfmaaDoor
