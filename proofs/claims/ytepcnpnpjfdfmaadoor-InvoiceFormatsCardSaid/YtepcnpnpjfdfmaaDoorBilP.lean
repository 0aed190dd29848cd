/- Walk of invoice.Format. -/
import Derived.Test.YtepcnpnpjfdfmaaDoorBilS
namespace Go.Proofs.YtepcnpnpjfdfmaaDoor
open Go.RowKit Go.Sort

theorem bld_ext {B b : Nat} {bs : List Value} {w w' : World} (h : Lib.IsBuilder 37 5 B b bs w) (he : Ext w w') : Lib.IsBuilder 37 5 B b bs w' := by
  have one : ∀ p, Lib.BuilderAt 37 5 B b p bs w → Lib.BuilderAt 37 5 B b p bs w' := by
    rintro p ⟨hB, v, hb, ⟨hl, ho⟩, hne⟩
    refine ⟨hB, v, (Below.block he b (Array.getElem?_eq_some_iff.1 hb).1).trans hb, ⟨hl, ?_⟩, hne⟩
    rcases ho with h | ⟨g, cap, cur, hv, hg, hh, r⟩
    · exact .inl h
    · exact .inr ⟨g, cap, cur, hv, hg, (Below.block he g (Array.getElem?_eq_some_iff.1 hh).1).trans hh, r⟩
  exact h.imp (one _) (one _)
theorem ba_lit (a : Array UInt8) : (ByteArray.mk a).size = a.size := rfl
theorem cells_app (l : List UInt8) (s : ByteArray) : Lib.byteCells l ++ Lib.strCells s = Lib.byteCells (l ++ s.data.toList) := by
  unfold Lib.byteCells Lib.strCells
  rw [List.map_append]
theorem itoa_is {n : Int} {s : ByteArray} (hs : s = itoS n) (hn : okI n) (w : World) (ht : PowT w) : Calls Tryd.prog 10 #[.int .i64 n] w fun e w' => e = .returned (.string s) ∧ Ext w w' := by
  rw [hs]
  exact itoa_any n hn.1 hn.2 w ht
theorem amount_is {n : Int} {s : ByteArray} (hs : s = amtS n) (hn : okI n) (w : World) (ht : PowT w) : Calls Tryd.prog 11 #[.int .i64 n] w fun e w' => e = .returned (.string s) ∧ Ext w w' := by
  rw [hs]
  exact amount_any n hn w ht
theorem line_one (T H B C : Nat → Int) (k : Nat) {st sh sb sc : ByteArray} (e1 : st = itoS (T k)) (e2 : sh = itoS (H k)) (e3 : sb = itoS (B k)) (e4 : sc = amtS (C k)) :
    bodyL T H B C k ++ (⟨#[116, 101, 110, 97, 110, 116, 32]⟩ ++ st ++ ⟨#[58, 32]⟩ ++ sh ++ ⟨#[32, 104, 105, 116, 115, 44, 32]⟩ ++ sb ++ ⟨#[32, 98, 121, 116, 101, 115, 44, 32]⟩ ++ sc ++ ⟨#[10]⟩ : ByteArray).data.toList = bodyL T H B C (k + 1) := by
  subst e1 e2 e3 e4
  simp only [ba_app]
  rw [show bodyL T H B C (k + 1) = bodyL T H B C k ++ lineL (T k) (H k) (B k) (C k) from rfl]
  unfold lineL
  simp [List.append_assoc]
theorem bill_one (T H B C : Nat → Int) (k : Nat) (total : Int) {sc : ByteArray} (e4 : sc = amtS total) :
    bodyL T H B C k ++ (⟨#[116, 111, 116, 97, 108, 32]⟩ ++ sc ++ ⟨#[10]⟩ : ByteArray).data.toList = billL T H B C k total := by
  subst e4
  simp only [ba_app]
  unfold billL
  simp [List.append_assoc]

set_option maxRecDepth 100000 in
set_option maxHeartbeats 8000000 in
theorem format_any (w : World) (p : Option Addr) (n cap : Nat) (T H B C : Nat → Int) (hl : Lines w p n cap T H B C) (hn : n ≤ 100) (total : Int) (ht : okI total) (htab : PowT w) :
    Calls Tryd.prog 5 #[.slice p n cap, .int .i64 total] w fun e w' => e = .returned (.string ⟨(billL T H B C n total).toArray⟩) ∧ Ext w w' := by
  have hx := hl.le
  have hm := hl.lim
  go_enter Tryd.func5, Tryd.ntmps5
  go_wp2_with fail
  go_loopw [10] (fun i wr => ∃ k : Nat, k ≤ n ∧ i = .int .i64 k ∧ Hid (Lib.IsBuilder 37 5 w.heap.size w.heap.size (Lib.byteCells (bodyL T H B C k)) wr) ∧ Ext w wr) (fun i _ => n - (intOf i).toNat)
  case atStart => exact ⟨0, by omega, rfl, Lib.hid (Lib.fresh_isBuilder _ _ w), (Ext.refl _).alloc _⟩
  case round =>
    obtain ⟨k, hk, rfl, HBd, hX⟩ := hrel
    have hbl := bodyL_len n hl.ok k hk
    by_cases hlt : k < n
    · obtain ⟨a, hp, c1, c2, c3, c4⟩ := hl.cell k hlt
      obtain ⟨o1, o2, o3, o4⟩ := hl.ok k hlt
      subst hp
      obtain ⟨t, htt⟩ : ∃ t, t = T k := ⟨_, rfl⟩
      obtain ⟨h, hh⟩ : ∃ h, h = H k := ⟨_, rfl⟩
      obtain ⟨b, hb⟩ : ∃ b, b = B k := ⟨_, rfl⟩
      obtain ⟨c, hc⟩ : ∃ c, c = C k := ⟨_, rfl⟩
      rw [← htt] at c1 o1
      rw [← hh] at c2 o2
      rw [← hb] at c3 o3
      rw [← hc] at c4 o4
      replace c1 := hX.cell c1
      replace c2 := hX.cell c2
      replace c3 := hX.cell c3
      replace c4 := hX.cell c4
      obtain ⟨st, est⟩ : ∃ s, s = itoS t := ⟨_, rfl⟩
      obtain ⟨sh, esh⟩ : ∃ s, s = itoS h := ⟨_, rfl⟩
      obtain ⟨sb, esb⟩ : ∃ s, s = itoS b := ⟨_, rfl⟩
      obtain ⟨sc, esc⟩ : ∃ s, s = amtS c := ⟨_, rfl⟩
      have z1 : st.size ≤ 21 := by rw [ba_len est]; exact Lib.itoa_length_le t o1.1 o1.2
      have z2 : sh.size ≤ 21 := by rw [ba_len esh]; exact Lib.itoa_length_le h o2.1 o2.2
      have z3 : sb.size ≤ 21 := by rw [ba_len esb]; exact Lib.itoa_length_le b o3.1 o3.2
      have z4 : sc.size ≤ 24 := by rw [ba_len esc]; exact amtS_size c o4
      have HE := Lib.hid (line_one T H B C k (st := st) (sh := sh) (sb := sb) (sc := sc) (by rw [est, htt]) (by rw [esh, hh]) (by rw [esb, hb]) (by rw [esc, hc]))
      have HBL := Lib.hid (show (bodyL T H B C k).length ≤ 11200 by omega)
      have d1 : ∀ m : Wd (wr.alloc (.cells #[.int .i64 t, .int .i64 h, .int .i64 b, .int .i64 c] 39)), m.val.cell? ⟨wr.heap.size, 0, none⟩ = some (.int .i64 t) := fun m => m.ext.cell (by simp)
      have d2 : ∀ m : Wd (wr.alloc (.cells #[.int .i64 t, .int .i64 h, .int .i64 b, .int .i64 c] 39)), m.val.cell? ⟨wr.heap.size, 1, none⟩ = some (.int .i64 h) := fun m => m.ext.cell (by simp)
      have d3 : ∀ m : Wd (wr.alloc (.cells #[.int .i64 t, .int .i64 h, .int .i64 b, .int .i64 c] 39)), m.val.cell? ⟨wr.heap.size, 2, none⟩ = some (.int .i64 b) := fun m => m.ext.cell (by simp)
      have d4 : ∀ m : Wd (wr.alloc (.cells #[.int .i64 t, .int .i64 h, .int .i64 b, .int .i64 c] 39)), m.val.cell? ⟨wr.heap.size, 3, none⟩ = some (.int .i64 c) := fun m => m.ext.cell (by simp)
      have HP : Hid (∀ m : Wd (wr.alloc (.cells #[.int .i64 t, .int .i64 h, .int .i64 b, .int .i64 c] 39)), PowT m.val) := Lib.hid (fun m => htab.ext (hX.trans (((Ext.refl wr).alloc _).trans m.ext)))
      have HBB : Hid (∀ m : Wd (wr.alloc (.cells #[.int .i64 t, .int .i64 h, .int .i64 b, .int .i64 c] 39)), Lib.IsBuilder 37 5 w.heap.size w.heap.size (Lib.byteCells (bodyL T H B C k)) m.val ∧ Ext w m.val) := Lib.hid (fun m => ⟨bld_ext HBd.out (((Ext.refl wr).alloc _).trans m.ext), hX.trans (((Ext.refl wr).alloc _).trans m.ext)⟩)
      have E1 := Lib.hid est
      have E2 := Lib.hid esh
      have E3 := Lib.hid esb
      have E4 := Lib.hid esc
      have O := Lib.hid (And.intro o1 (And.intro o2 (And.intro o3 o4)))
      have hki : (k : Int) < (n : Int) := by omega
      clear htt hh hb hc est esh esb esc o1 o2 o3 o4 hbl
      go_wp2_with fail
      refine wp_region_wd_tail 20 (by kernel_rfl) (by kernel_rfl) ?_
      simp only [List.take_succ_cons, List.take_zero, List.drop_succ_cons, List.drop_zero]
      repeat (go_big_quiet_step (first
        | (go_at_call_of 10 (Value.int .i64 t); exact Calls.wd_of (itoa_is E1.out O.out.1 _ (HP.out _)))
        | (go_at_call_of 10 (Value.int .i64 h); exact Calls.wd_of (itoa_is E2.out O.out.2.1 _ (HP.out _)))
        | (go_at_call_of 10 (Value.int .i64 b); exact Calls.wd_of (itoa_is E3.out O.out.2.2.1 _ (HP.out _)))
        | (go_at_call 11; exact Calls.wd_of (amount_is E4.out O.out.2.2.2 _ (HP.out _)))))
      refine wpQuiet_nil ?_
      rintro _ ⟨nq, rfl⟩
      go_wp2_with (go_at_call 9; go_must (refine (write_str w.heap.size w.heap.size _ _ _ (HBB.out nq).1 (by rw [Lib.byteCells_length]; have := HBL.out; simp [ba_lit]; omega) (HBB.out nq).2.size).mono ?_); rintro e w5 ⟨rfl, hb5, hbel⟩)
      rw [cells_app, HE.out] at hb5
      go_roundw
      case rel => exact ⟨k + 1, by omega, by go_num, Lib.hid (.inr hb5), Below.trans (HBB.out nq).2 hbel⟩
      case measure => simp [intOf]; omega
    · obtain rfl : k = n := by omega
      obtain ⟨sc, esc⟩ : ∃ s, s = amtS total := ⟨_, rfl⟩
      have z4 : sc.size ≤ 24 := by rw [ba_len esc]; exact amtS_size total ht
      have HE := Lib.hid (bill_one T H B C k total esc)
      have E4 := Lib.hid esc
      have HBL := Lib.hid (show (bodyL T H B C k).length ≤ 11200 by omega)
      clear esc hbl
      go_wp2_with (go_at_call 11; refine (amount_is E4.out ht _ (htab.ext hX)).mono ?_; rintro e w2 ⟨rfl, h2⟩)
      refine (write_str w.heap.size w.heap.size _ _ _ (bld_ext HBd.out h2) (by rw [Lib.byteCells_length]; have := HBL.out; simp [ba_lit]; omega) (hX.trans h2).size).mono ?_
      rintro e w5 ⟨rfl, hb5, hbel⟩
      rw [cells_app, HE.out] at hb5
      have hX5 : Ext w w5 := Below.trans (hX.trans h2) hbel
      go_wp2_with (go_at_call 12; refine (Tryd.Builder_String_any w.heap.size w.heap.size _ _ (.inr hb5) hX5.size).mono ?_; rintro e w6 ⟨rfl, hbel6⟩)
      go_ret
      exact ⟨rfl, Below.trans hX5 hbel6⟩
end Go.Proofs.YtepcnpnpjfdfmaaDoor
