/- Walk of the specification's Format. -/
import Derived.Test.YtepcnpnpjfdfmaaDoorBill
namespace Go.Proofs.YtepcnpnpjfdfmaaDoor
open Go.RowKit Go.Sort

theorem digits_is {n : Int} {s : ByteArray} (hs : s = itoS n) (hn : okI n) (w : World) : Calls Tryd.prog 13 #[.int .i64 n] w fun e w' => e = .returned (.string s) ∧ Ext w w' := by
  rw [hs]
  exact digits_any n w hn.1 hn.2
theorem ramount_is {n : Int} {s : ByteArray} (hs : s = amtS n) (hn : okI n) (w : World) : Calls Tryd.prog 14 #[.int .i64 n] w fun e w' => e = .returned (.string s) ∧ Ext w w' := by
  rw [hs]
  exact ramount_any n hn w
theorem line_end (s : ByteArray) (T H B C : Nat → Int) (k : Nat) (h : s = ⟨(bodyL T H B C k).toArray⟩) {st sh sb sc : ByteArray} (e1 : st = itoS (T k)) (e2 : sh = itoS (H k)) (e3 : sb = itoS (B k)) (e4 : sc = amtS (C k)) :
    (s ++ ⟨#[116, 101, 110, 97, 110, 116, 32]⟩ ++ st ++ ⟨#[58, 32]⟩ ++ sh ++ ⟨#[32, 104, 105, 116, 115, 44, 32]⟩ ++ sb ++ ⟨#[32, 98, 121, 116, 101, 115, 44, 32]⟩ ++ sc ++ ⟨#[10]⟩ : ByteArray) = ⟨(bodyL T H B C (k + 1)).toArray⟩ := by
  subst h e1 e2 e3 e4
  apply ba_list
  simp only [ba_app]
  rw [show bodyL T H B C (k + 1) = bodyL T H B C k ++ lineL (T k) (H k) (B k) (C k) from rfl]
  unfold lineL
  simp [List.append_assoc]
theorem bill_end (s : ByteArray) (T H B C : Nat → Int) (k : Nat) (total : Int) (h : s = ⟨(bodyL T H B C k).toArray⟩) {sc : ByteArray} (e4 : sc = amtS total) :
    (s ++ ⟨#[116, 111, 116, 97, 108, 32]⟩ ++ sc ++ ⟨#[10]⟩ : ByteArray) = ⟨(billL T H B C k total).toArray⟩ := by
  subst h e4
  apply ba_list
  simp only [ba_app]
  unfold billL
  simp [List.append_assoc]
theorem ba_len {s : ByteArray} {l : List UInt8} (h : s = ⟨l.toArray⟩) : s.size = l.length := by
  subst h
  exact List.size_toArray

set_option maxRecDepth 100000 in
set_option maxHeartbeats 8000000 in
theorem rformat_any (w : World) (p : Option Addr) (n cap : Nat) (T H B C : Nat → Int) (hl : Lines w p n cap T H B C) (hn : n ≤ 100) (total : Int) (ht : okI total) :
    Calls Tryd.prog 6 #[.slice p n cap, .int .i64 total] w fun e w' => e = .returned (.string ⟨(billL T H B C n total).toArray⟩) ∧ Ext w w' := by
  have hx := hl.le
  have hm := hl.lim
  go_enter Tryd.func6, Tryd.ntmps6
  go_wp2_with fail
  go_loopw [5, 9] (fun s5 i wr => ∃ (k : Nat) (s : ByteArray), k ≤ n ∧ i = .int .i64 k ∧ s5 = .string s ∧ Hid (s = ⟨(bodyL T H B C k).toArray⟩) ∧ Ext w wr) (fun _ i _ => n - (intOf i).toNat)
  case atStart => exact ⟨0, ⟨#[]⟩, by omega, rfl, rfl, Lib.hid rfl, Ext.refl _⟩
  case round =>
    obtain ⟨k, s, hk, rfl, rfl, HS, hX⟩ := hrel
    have hsl := ba_len HS.out
    have hbl := bodyL_len n hl.ok k hk
    have hss : s.size ≤ 11200 := by rw [hsl]; omega
    clear hsl hbl
    by_cases hlt : k < n
    · obtain ⟨a, hp, c1, c2, c3, c4⟩ := hl.cell k hlt
      obtain ⟨o1, o2, o3, o4⟩ := hl.ok k hlt
      subst hp
      obtain ⟨t, htt⟩ : ∃ t, t = T k := ⟨_, rfl⟩
      obtain ⟨h, hh⟩ : ∃ h, h = H k := ⟨_, rfl⟩
      obtain ⟨b, hb⟩ : ∃ b, b = B k := ⟨_, rfl⟩
      obtain ⟨c, hc⟩ : ∃ c, c = C k := ⟨_, rfl⟩
      rw [← htt] at c1 o1
      rw [← hh] at c2 o2
      rw [← hb] at c3 o3
      rw [← hc] at c4 o4
      obtain ⟨st, est⟩ : ∃ s, s = itoS t := ⟨_, rfl⟩
      obtain ⟨sh, esh⟩ : ∃ s, s = itoS h := ⟨_, rfl⟩
      obtain ⟨sb, esb⟩ : ∃ s, s = itoS b := ⟨_, rfl⟩
      obtain ⟨sc, esc⟩ : ∃ s, s = amtS c := ⟨_, rfl⟩
      have z1 : st.size ≤ 21 := by rw [ba_len est]; exact Lib.itoa_length_le t o1.1 o1.2
      have z2 : sh.size ≤ 21 := by rw [ba_len esh]; exact Lib.itoa_length_le h o2.1 o2.2
      have z3 : sb.size ≤ 21 := by rw [ba_len esb]; exact Lib.itoa_length_le b o3.1 o3.2
      have z4 : sc.size ≤ 24 := by rw [ba_len esc]; exact amtS_size c o4
      have HE := Lib.hid (line_end s T H B C k HS.out (st := st) (sh := sh) (sb := sb) (sc := sc) (by rw [est, htt]) (by rw [esh, hh]) (by rw [esb, hb]) (by rw [esc, hc]))
      have d1 : ∀ m : Wd wr, m.val.cell? (a.add (k * 4)) = some (.int .i64 t) := fun m => (hX.trans m.ext).cell c1
      have d2 : ∀ m : Wd wr, m.val.cell? ⟨(a.add (k * 4)).block, (a.add (k * 4)).off + 1, none⟩ = some (.int .i64 h) := fun m => (hX.trans m.ext).cell c2
      have d3 : ∀ m : Wd wr, m.val.cell? ⟨(a.add (k * 4)).block, (a.add (k * 4)).off + 2, none⟩ = some (.int .i64 b) := fun m => (hX.trans m.ext).cell c3
      have d4 : ∀ m : Wd wr, m.val.cell? ⟨(a.add (k * 4)).block, (a.add (k * 4)).off + 3, none⟩ = some (.int .i64 c) := fun m => (hX.trans m.ext).cell c4
      have E1 := Lib.hid est
      have E2 := Lib.hid esh
      have E3 := Lib.hid esb
      have E4 := Lib.hid esc
      have O := Lib.hid (And.intro o1 (And.intro o2 (And.intro o3 o4)))
      have hki : (k : Int) < (n : Int) := by omega
      clear htt hh hb hc est esh esb esc o1 o2 o3 o4 c1 c2 c3 c4
      go_wp2_with fail
      refine wp_region_wd (by kernel_rfl) (by kernel_rfl) ?_
      repeat (go_big_quiet_step (first
        | (go_at_call_of 13 (Value.int .i64 t); exact Calls.wd_of (digits_is E1.out O.out.1 _))
        | (go_at_call_of 13 (Value.int .i64 h); exact Calls.wd_of (digits_is E2.out O.out.2.1 _))
        | (go_at_call_of 13 (Value.int .i64 b); exact Calls.wd_of (digits_is E3.out O.out.2.2.1 _))
        | (go_at_call 14; exact Calls.wd_of (ramount_is E4.out O.out.2.2.2 _))))
      refine wpQuiet_nil ?_
      rintro _ ⟨nq, rfl⟩
      go_wp2_with fail
      go_roundw
      case rel => exact ⟨k + 1, _, by omega, by go_num, rfl, HE, hX.trans nq.ext⟩
      case measure => simp [intOf]; omega
    · obtain rfl : k = n := by omega
      obtain ⟨sc, esc⟩ : ∃ s, s = amtS total := ⟨_, rfl⟩
      have z4 : sc.size ≤ 24 := by rw [ba_len esc]; exact amtS_size total ht
      have HE := Lib.hid (bill_end s T H B C k total HS.out esc)
      have E4 := Lib.hid esc
      clear esc
      go_wp2_with (go_at_call 14; refine (ramount_is E4.out ht _).mono ?_; rintro e w2 ⟨rfl, h2⟩)
      go_ret
      exact ⟨ret_str HE.out, hX.trans h2⟩
end Go.Proofs.YtepcnpnpjfdfmaaDoor
