/- Chapter 20: held. -/
import Derived.Test.YtfjpaacanoocmaaPcL
import Derived.Laws.BitsLemmas
namespace Go.Proofs.Ytfjpaacanoocmaa
open Go.RowKit Go.Deep Go.Sort

/-- the pieces that bits choose -/
def hD (t : ByteArray) (bits i : Nat) : Option ByteArray := if bits / 2 ^ (i % 8) % 2 = 1 then some (pcS t i) else none
def hK (t : ByteArray) (bits k i : Nat) : Option ByteArray := if i < k then hD t bits i else none
theorem bit_test (bits k : Nat) (h : bits < 256) : (Go.bits .and .u8 ((bits : Int) / 2 ^ (k % 8)) 1 == 1) = decide (bits / 2 ^ (k % 8) % 2 = 1) := by
  have e : ((bits : Int) / 2 ^ (k % 8)) = ((bits / 2 ^ (k % 8) : Nat) : Int) := by simp
  have hle : bits / 2 ^ (k % 8) < 256 := Nat.lt_of_le_of_lt (Nat.div_le_self _ _) h
  rw [e]
  generalize bits / 2 ^ (k % 8) = x at hle
  have := bits_mask .u8 8 (by decide) wraps_u8 1 (by decide) (x : Int) (by omega) (by omega)
  have h2 : Go.bits .and .u8 (x : Int) 1 = (x : Int) % 2 := this
  rw [h2]
  by_cases hx : x % 2 = 1
  · rw [decide_eq_true hx, beq_iff_eq]; omega
  · rw [decide_eq_false hx, beq_eq_false_iff_ne]; omega
theorem bytes_of_row {w : World} {g : Nat} {e : TypeId} {s : ByteArray} (h : RowB w g e (s.data.toList.map fun b => Value.int .u8 b.toNat)) : BytesAt w g s := by
  intro i hi
  have hi2 : i < s.data.toList.length := by simpa using hi
  refine h.cell ?_
  rw [List.getElem?_map, List.getElem?_eq_getElem hi2]
  have hi3 : i < (byteIs s).length := by rw [byteIs_length]; exact hi
  rw [List.getD_eq_getElem?_getD, List.getElem?_eq_getElem hi3]
  simp [byteIs]
theorem hK_hit {t : ByteArray} {bits k : Nat} (h : bits / 2 ^ (k % 8) % 2 = 1) : hK t bits (k + 1) = upd (hK t bits k) k (some (pcS t k)) := by
  funext j
  unfold upd hK
  by_cases e : j = k
  · subst e
    rw [if_pos rfl, if_pos (by omega)]
    unfold hD
    rw [if_pos h]
  · rw [if_neg e]
    by_cases e2 : j < k
    · rw [if_pos e2, if_pos (by omega)]
    · rw [if_neg e2, if_neg (by omega)]
theorem hK_miss {t : ByteArray} {bits k : Nat} (h : ¬ bits / 2 ^ (k % 8) % 2 = 1) : hK t bits (k + 1) = hK t bits k := by
  funext j
  unfold hK
  by_cases e : j = k
  · subst e
    rw [if_pos (by omega), if_neg (by omega)]
    unfold hD
    rw [if_neg h]
  · by_cases e2 : j < k
    · rw [if_pos e2, if_pos (by omega)]
    · rw [if_neg e2, if_neg (by omega)]
theorem BodyAt.more {w : World} {B B' b l len : Nat} {A : Nat → Prop} {tag : ByteArray} {D : Nat → Option ByteArray} (h : BodyAt w B A b l tag len D) (hb : B' ≤ B) : BodyAt w B' A b l tag len D := by
  obtain ⟨f, hf, hp⟩ := h.row
  refine ⟨Nat.le_trans hb h.hb, Nat.le_trans hb h.hl, h.ne, h.av, h.c0, h.c1, h.c2, f, hf, fun i hi => ?_⟩
  have := hp i hi
  cases hD : D i with
  | none => rw [hD] at this; exact this
  | some s =>
    rw [hD] at this
    obtain ⟨g, cap, h1, h2, h3, h4, h5, h6⟩ := this
    exact ⟨g, cap, h1, h2, ⟨by omega, h3.2⟩, h4, h5, h6⟩
set_option maxRecDepth 100000 in
set_option maxHeartbeats 4000000 in
theorem held_ok (tag t : ByteArray) (bits : Nat) (hl : t.size ≤ 65536) (hb8 : bits < 256) (w : World) :
    Calls Try.prog 11 #[.string tag, .string t, .int .u8 bits] w fun e w' => ∃ b l d s, e = .returned (.tuple #[.pointer (some ⟨b, 0, none⟩), refV tag t.size d s, .bool true]) ∧ Ext w w' ∧ BodyAt w' w.heap.size (fun _ => False) b l tag t.size (hD t bits) ∧ RefAt w' d s t.size (hD t bits) ∧ (d ≠ l ∧ s ≠ l) := by
  obtain ⟨len, hlen⟩ : ∃ len, t.size = len := ⟨_, rfl⟩
  have HL := Lib.hid hlen
  rw [hlen] at hl ⊢
  have hn : npc len ≤ 256 := by unfold npc; omega
  go_enter Try.func11, Try.ntmps11
  obtain ⟨rb, hrb⟩ : ∃ rb, rb = w.heap.size := ⟨_, rfl⟩
  have R0 : RowB (w.alloc (.cells #[.string ⟨#[]⟩, .int .i64 0, .slice none 0 0, .slice none 0 0] 29)) rb 29 [.string ⟨#[]⟩, .int .i64 0, .slice none 0 0, .slice none 0 0] := by rw [hrb]; exact RowB.laid w _ _
  have HRB := Lib.hid hrb
  go_upto_region 1 with fail
  rw [← hrb]
  clear hrb
  have X0 : Ext w (w.alloc (.cells #[.string ⟨#[]⟩, .int .i64 0, .slice none 0 0, .slice none 0 0] 29)) := (Ext.refl w).alloc _
  obtain ⟨w0, hw0⟩ : ∃ w0, w0 = w.alloc (.cells #[.string ⟨#[]⟩, .int .i64 0, .slice none 0 0, .slice none 0 0] 29) := ⟨_, rfl⟩
  have hB0 : w0.heap.size = rb + 1 := by rw [hw0, HRB.out]; simp
  rw [← hw0] at X0 R0 ⊢
  clear hw0
  go_upto_region 3 with (first | (go_at_call 25; refine (new_ok tag len hl _ (fun _ => False) (fun _ h => h.elim)).mono ?_; rintro e w1 ⟨b, l, rfl, hx1, hB1⟩) | (go_at_call 26; refine (rnew_any tag len hl _).mono ?_; rintro e w2 ⟨d, s, rfl, hx2, hN, hA2⟩))
  obtain ⟨mb, hmb⟩ : ∃ mb, mb = w2.heap.size := ⟨_, rfl⟩
  have RM : RowB (w2.alloc (.cells #[.string tag, .int .i64 len, .slice (some ⟨d, 0, none⟩) (npc len) (npc len), .slice (some ⟨s, 0, none⟩) (npc len) (npc len)] 29)) mb 29 [.string tag, .int .i64 len, .slice (some ⟨d, 0, none⟩) (npc len) (npc len), .slice (some ⟨s, 0, none⟩) (npc len) (npc len)] := by rw [hmb]; exact RowB.laid w2 _ _
  have X23 : Ext w2 (w2.alloc (.cells #[.string tag, .int .i64 len, .slice (some ⟨d, 0, none⟩) (npc len) (npc len), .slice (some ⟨s, 0, none⟩) (npc len) (npc len)] 29)) := (Ext.refl w2).alloc _
  have hds := hA2.data.lt
  have hss := hA2.there.lt
  rw [← hmb] at hds hss ⊢
  have hm1 : w1.heap.size ≤ mb := by rw [hmb]; exact hx2.size
  obtain ⟨w3, hw3⟩ : ∃ w3, w3 = w2.alloc (.cells #[.string tag, .int .i64 len, .slice (some ⟨d, 0, none⟩) (npc len) (npc len), .slice (some ⟨s, 0, none⟩) (npc len) (npc len)] 29) := ⟨_, rfl⟩
  rw [← hw3] at RM X23 ⊢
  clear hw3 hmb
  have hlw : l < w1.heap.size := hB1.row.elim fun f hf => hf.1.lt
  have hB3 := (hB1.avoid (fun k => k = rb ∨ k = mb) (fun k hk => by rcases hk with rfl | rfl <;> omega)).ext (hx2.trans X23)
  have hA3 := hA2.ext X23
  have X13 : Ext w0 w3 := hx1.trans (hx2.trans X23)
  have R3 := R0.ext X13
  have X3 := X0.trans X13
  have hdl : d ≠ l ∧ s ≠ l ∧ d ≠ mb ∧ s ≠ mb ∧ rb < d ∧ rb < s := by have := hx1.size; omega
  have hmw : w.heap.size ≤ mb ∧ w.heap.size ≤ rb ∧ rb ≠ mb := by have := HRB.out; have := hx1.size; omega
  have HA3 := Lib.hid hA3
  have HB3 := Lib.hid hB3
  have HR3 := Lib.hid R3
  have HRM := Lib.hid RM
  have m3 := RM.cell (j := 3) rfl
  clear hA3 hB3 R3 RM hN hA2 hB1 R0 hds hss hx1 hx2 X23
  go_wp2_with fail
  go_loopw [30] (fun i wr => ∃ k d s : Nat, k ≤ npc len ∧ i = .int .i64 k ∧ RowB wr mb 29 [.string tag, .int .i64 len, .slice (some ⟨d, 0, none⟩) (npc len) (npc len), .slice (some ⟨s, 0, none⟩) (npc len) (npc len)] ∧ RowB wr rb 29 [.string ⟨#[]⟩, .int .i64 0, .slice none 0 0, .slice none 0 0] ∧ BodyAt wr w0.heap.size (fun k => k = rb ∨ k = mb) b l tag len (hK t bits k) ∧ RefAt wr d s len (hK t bits k) ∧ (d ≠ l ∧ s ≠ l ∧ d ≠ mb ∧ s ≠ mb ∧ rb < d ∧ rb < s) ∧ Ext w wr) (fun i _ => npc len - (intOf i).toNat)
  case atStart =>
    have e : (fun _ => none) = hK t bits 0 := by funext j; unfold hK; rw [if_neg (by omega)]
    exact ⟨0, d, s, by omega, rfl, HRM.out, HR3.out, by rw [← e]; exact HB3.out, by rw [← e]; exact HA3.out, hdl, X3⟩
  case round =>
    clear hdl HA3 HB3 HR3 HRM m3
    obtain ⟨k, d, s, hk, rfl, hM, hR, hB, hA, hdl, hX⟩ := hrel
    by_cases hlt : k < npc len
    · have hk6 : (k : Int) < 256 := by omega
      have ht := bit_test bits k hb8
      by_cases hbit : bits / 2 ^ (k % 8) % 2 = 1
      · rw [decide_eq_true hbit] at ht
        have hk2 : k * 256 < len := by unfold npc at hlt; omega
        obtain ⟨p, hp⟩ : ∃ p, pcS t k = p := ⟨_, rfl⟩
        have HP := Lib.hid hp
        have hpz : p.size = pto k len - k * 256 := by rw [← hp, pcS_size t k (by omega), hlen]
        have HPZ := Lib.hid hpz
        have HKS := hK_hit (t := t) hbit
        rw [hp] at HKS
        have HKK := Lib.hid HKS
        have hnone : hK t bits k k = none := by unfold hK; rw [if_neg (by omega)]
        have HNN := Lib.hid hnone
        have HM := Lib.hid hM
        have HR := Lib.hid hR
        have HB := Lib.hid hB
        have HA := Lib.hid hA
        have HI2 := Lib.hid hk2
        have hlbm : l ≠ mb ∧ l ≠ rb := ⟨fun e => hB.av.2 (.inr e), fun e => hB.av.2 (.inl e)⟩
        have HX := Lib.hid hX
        clear hbit hp hpz HKS hnone hM hR hB hA hk2
        go_upto_region 11 with (first
          | (go_at_call 14; refine (piece_any t k (by rw [HL.out]; exact hl) (by rw [HL.out]; exact HI2.out) _).mono ?_; rw [HP.out]; rintro e w4 ⟨rfl, hx4⟩)
          | (refine wpList_bytes_of_string _ rfl 9 38 5 _ rfl Try.underlying9 Try.underlying38 Try.underlying5 p rfl ?_; intro w5 cap hx5 hr5 hc5)
          | (go_at_call 16; refine (put_ok (HB.out.ext (hx4.trans hx5)) hl k hlt _ cap p (bytes_of_row hr5) HPZ.out HNN.out (fun k' hk' => by have h1 := HM.out.lt; have h2 := HR.out.lt; have h3 := (hx4.trans hx5).size; rcases hk' with rfl | rfl <;> omega)).mono ?_; rintro e w6 ⟨rfl, hb6, hk6, hB6⟩))
        have X45 := hx4.trans hx5
        have hM6 : RowB w6 mb 29 [.string tag, .int .i64 len, .slice (some ⟨d, 0, none⟩) (npc len) (npc len), .slice (some ⟨s, 0, none⟩) (npc len) (npc len)] := (HM.out.ext X45).kept (hk6.2 mb (HM.out.ext X45).lt hlbm.1.symm)
        have hR6 := (HR.out.ext X45).kept (hk6.2 rb (HR.out.ext X45).lt hlbm.2.symm)
        have hA6 : RefAt w6 d s len (hK t bits k) := ⟨(HA.out.ext X45).data.of_block (hk6.2 d (HA.out.ext X45).data.lt hdl.1), (HA.out.ext X45).there.of_block (hk6.2 s (HA.out.ext X45).there.lt hdl.2.1)⟩
        have hX6 : Ext w w6 := Below.trans (HX.out.trans X45) (Below.mono hb6 X0.size)
        rw [← HKK.out] at hB6
        have HM6 := Lib.hid hM6
        have HR6 := Lib.hid hR6
        have HA6 := Lib.hid hA6
        have HB6 := Lib.hid hB6
        have HX6 := Lib.hid hX6
        have m0 := hM6.cell (j := 0) rfl
        have m1 := hM6.cell (j := 1) rfl
        have m2 := hM6.cell (j := 2) rfl
        have m3 := hM6.cell (j := 3) rfl
        have hlw6 : l < w6.heap.size := hB6.row.elim fun f hf => hf.1.lt
        clear hM6 hR6 hA6 hB6 hX6 hb6 hk6 hr5 hx4 hx5 X45 hc5
        go_region_with (first
          | (go_at_call 14; refine (piece_any t k (by rw [HL.out]; exact hl) (by rw [HL.out]; exact HI2.out) _).mono ?_; rw [HP.out]; rintro e w7 ⟨rfl, hx7'⟩; have hx7 : Ext w6 w7 := (Ext.refl w6).drew.trans hx7'; have n0 := (HM6.out.ext hx7).cell (j := 0) rfl; have n1 := (HM6.out.ext hx7).cell (j := 1) rfl; have n2 := (HM6.out.ext hx7).cell (j := 2) rfl; have n3 := (HM6.out.ext hx7).cell (j := 3) rfl)
          | (go_at_call 32; refine (rput_ok (HA6.out.ext hx7) hl k hlt p HPZ.out HNN.out).mono ?_; rintro e w8 ⟨d', s', rfl, hx8, hN8, hA8⟩; have X78 := hx7.trans hx8; have hM8 := HM6.out.ext X78; have g0 := hM8.cell (j := 0) rfl; have g1 := hM8.cell (j := 1) rfl; have g2 := hM8.cell (j := 2) rfl; have g3 := hM8.cell (j := 3) rfl; have f0 := hM8.frozen (j := 0) (by simp); have f1 := hM8.frozen (j := 1) (by simp); have f2 := hM8.frozen (j := 2) (by simp); have f3 := hM8.frozen (j := 3) (by simp)))
        all_goals go_wp2_with fail
        all_goals refine ⟨⟨k + 1, d', s', by omega, by go_num, (((hM8.set 0 _ (by simp)).set 1 _ (by simp)).set 2 _ (by simp)).set 3 _ (by simp), ((((HR6.out.ext X78).kept (blk_setCell_other _ _ _ _ hmw.2.2)).kept (blk_setCell_other _ _ _ _ hmw.2.2)).kept (blk_setCell_other _ _ _ _ hmw.2.2)).kept (blk_setCell_other _ _ _ _ hmw.2.2), (HB6.out.ext X78).kept (m := mb) ((((Kept.refl mb w8).set 0 _).set 1 _).set 2 _ |>.set 3 _) (.inr rfl), ?_, ?_, (((HX6.out.trans X78).setCell hmw.1 _).setCell hmw.1 _ |>.setCell hmw.1 _).setCell hmw.1 _⟩, by simp [intOf]; omega⟩
        all_goals have hz67 := hx7.size
        all_goals have hmb6 := HM6.out.lt
        all_goals have hd1 : d' ≠ mb := by omega
        all_goals have hd2 : s' ≠ mb := by omega
        · rw [HKK.out]
          exact ⟨(((hA8.data.setOther hd1 _).setOther hd1 _).setOther hd1 _).setOther hd1 _, (((hA8.there.setOther hd2 _).setOther hd2 _).setOther hd2 _).setOther hd2 _⟩
        · exact ⟨by omega, by omega, hd1, hd2, by have := HR6.out.lt; omega, by have := HR6.out.lt; omega⟩
        · rw [HKK.out]
          exact ⟨(((hA8.data.setOther hd1 _).setOther hd1 _).setOther hd1 _).setOther hd1 _, (((hA8.there.setOther hd2 _).setOther hd2 _).setOther hd2 _).setOther hd2 _⟩
        · exact ⟨by omega, by omega, hd1, hd2, by have := HR6.out.lt; omega, by have := HR6.out.lt; omega⟩
      · rw [decide_eq_false hbit] at ht
        have HKS := hK_miss (t := t) hbit
        have HKK := Lib.hid HKS
        clear hbit HKS
        go_wp2_with fail
        go_roundw
        case rel => exact ⟨k + 1, d, s, by omega, by go_num, hM, hR, by rw [HKK.out]; exact hB, by rw [HKK.out]; exact hA, hdl, hX⟩
        case measure => simp [intOf]; omega
    · obtain rfl : k = npc len := by omega
      have HM := Lib.hid hM
      have HR := Lib.hid hR
      have HB := Lib.hid hB
      have HA := Lib.hid hA
      have HX := Lib.hid hX
      have m0 := hM.cell (j := 0) rfl
      have m1 := hM.cell (j := 1) rfl
      have m2 := hM.cell (j := 2) rfl
      have m3 := hM.cell (j := 3) rfl
      have f0 := hR.frozen (j := 0) (by simp)
      have f1 := hR.frozen (j := 1) (by simp)
      have f2 := hR.frozen (j := 2) (by simp)
      have f3 := hR.frozen (j := 3) (by simp)
      have z0 := hR.cell (j := 0) rfl
      have z1 := hR.cell (j := 1) rfl
      have z2 := hR.cell (j := 2) rfl
      have z3 := hR.cell (j := 3) rfl
      clear hM hR hB hA hX
      go_upto_region 13 with fail
      go_region_with fail
      all_goals go_wp2_with fail
      have hz := (((HR.out.set 0 (.string tag) (by simp)).set 1 (.int .i64 len) (by simp)).set 2 (.slice (some ⟨d, 0, none⟩) (npc len) (npc len)) (by simp)).set 3 (.slice (some ⟨s, 0, none⟩) (npc len) (npc len)) (by simp)
      have y0 := hz.cell (j := 0) rfl
      have y1 := hz.cell (j := 1) rfl
      have y2 := hz.cell (j := 2) rfl
      have y3 := hz.cell (j := 3) rfl
      have hd1 : d ≠ rb := by have := hdl; omega
      have hd2 : s ≠ rb := by have := hdl; omega
      have he : ∀ j, j < npc len → hK t bits (npc len) j = hD t bits j := fun j hj => by unfold hK; rw [if_pos hj]
      refine bodyPost_ret (by simp [results, Try.results11, go_sem, y0, y1, y2, y3]; try rfl) rfl ?_
      refine ⟨b, l, d, s, rfl, ((((HX.out.setCell hmw.2.1 _).setCell hmw.2.1 _).setCell hmw.2.1 _).setCell hmw.2.1 _).drew, ?_, ⟨?_, ?_⟩, hdl.1, hdl.2.1⟩
      · refine BodyAt.ext ?_ (Ext.refl _).drew
        exact ((((HB.out.kept (m := rb) ((((Kept.refl rb wr).set 0 _).set 1 _).set 2 _ |>.set 3 _) (.inl rfl)).avoid (fun _ => False) (fun _ h => h.elim)).more X0.size).congr he)
      · refine World.rowIs.drew ?_
        exact ((((HA.out.data.setOther hd1 _).setOther hd1 _).setOther hd1 _).setOther hd1 _).congr fun j hj => by rw [he j hj]
      · refine World.rowIs.drew ?_
        exact ((((HA.out.there.setOther hd2 _).setOther hd2 _).setOther hd2 _).setOther hd2 _).congr fun j hj => by rw [he j hj]
end Go.Proofs.Ytfjpaacanoocmaa
