/- Chapter 20: the law PiecesParts, walked. -/
import Derived.Test.YtfjpaacanoocmaaPcT
import Derived.Lib.MinMax
namespace Go.Proofs.Ytfjpaacanoocmaa
open Go.RowKit Go.Deep Go.Sort

theorem whole_drew {w : World} {B b l len : Nat} {A : Nat → Prop} {tag : ByteArray} {D : Nat → Option ByteArray} (h : BodyAt w B A b l tag len D) (hl : len ≤ 65536) {c : Bool} (hc : c = decide (∀ i, i < npc len → (D i).isSome = true)) (q : Nat) :
    Calls Try.prog 12 #[.pointer (some ⟨b, 0, none⟩)] (w.drewN q) fun e w' => e = .returned (.bool c) ∧ w' = w.drewN q := by
  refine (whole_any (h.ext ((Ext.refl _).drewN q)) hl).mono ?_
  rw [← hc]
  rintro e w' ⟨rfl, rfl⟩
  exact ⟨rfl, rfl⟩
theorem conv_nil (W : World) : (convert 38 9 (.slice none 0 0)).run Try.prog W = .ok (.string ⟨#[]⟩) W := by kernel_rfl
theorem conv_own {w w' : World} {B : Nat} {v : Value} {xs : List Int} (h : BytesOwn w B v xs) (hx : Ext w w') : (convert 38 9 v).run Try.prog w' = .ok (.string (strOfNums xs)) w' := by
  obtain ⟨A, cap, rfl⟩ := h.shape
  rcases h.2 with ⟨e, e2⟩ | ⟨g, cap', cur, e, hb, hh, hl, hm, hc, ht⟩
  · have e0 : xs = [] := List.eq_nil_of_length_eq_zero e2
    subst e0
    rw [e]
    exact conv_nil w'
  · have ha : A = some ⟨g, 0, none⟩ := by injection e
    subst ha
    refine run_convert_bytes_arg w' 38 5 Try.underlying38 Try.underlying5 g 0 xs.length cap xs rfl (fun i hi => ?_) 9 Try.underlying9
    obtain ⟨g', e1, -, -, e4⟩ := h.cell i hi
    have eg : g = g' := by simpa using e1
    subst eg
    rw [Nat.zero_add, hx.cell e4]
    simp [List.getD]
theorem all_succ (D : Nat → Option ByteArray) (k : Nat) (c : Bool) (h : c = decide (∀ j, j < k → (D j).isSome = true)) : (c && (D k).isSome) = decide (∀ j, j < k + 1 → (D j).isSome = true) := by
  rw [h, Bool.eq_iff_iff]
  simp only [Bool.and_eq_true, decide_eq_true_eq]
  constructor
  · rintro ⟨h1, h2⟩ j hj
    by_cases e : j = k
    · rw [e, h2]
    · exact h1 j (by omega)
  · intro h1
    exact ⟨fun j hj => h1 j (by omega), h1 k (by omega)⟩
theorem World.heap_size_alloc' (w : World) (o : Obj) : (w.alloc o).heap.size = w.heap.size + 1 := by simp
set_option maxRecDepth 100000 in
set_option maxHeartbeats 8000000 in
theorem parts_law (n b0 b1 p0 p1 : Nat) (hn : n < 65536) (hb0 : b0 < 256) (hb1 : b1 < 256) (hp0 : p0 < 65536) (hp1 : p1 < 65536) (w : World) :
    Calls Try.prog 4 #[.int .u16 n, .agg #[.int .u8 b0, .int .u8 b1], .agg #[.int .u16 p0, .int .u16 p1]] w fun e w' => e = .returned (.bool true) ∧ Ext w w' := by
  obtain ⟨m, hm⟩ : ∃ m, n % 1300 = m := ⟨_, rfl⟩
  have hm2 : m < 1300 := by omega
  have HT := Lib.hid (fun W => text_any n 3 hn W)
  rw [hm] at HT
  obtain ⟨t, ht⟩ : ∃ t, t = txS m 3 := ⟨_, rfl⟩
  have hts : t.size = m := by rw [ht, txS_size]
  rw [← ht] at HT
  have HTS := Lib.hid hts
  clear hm ht
  obtain ⟨w0, hw0⟩ : ∃ w0, w0 = (w.alloc (.cells #[.int .u8 b0, .int .u8 b1] 45)).alloc (.cells #[.int .u16 p0, .int .u16 p1] 46) := ⟨_, rfl⟩
  obtain ⟨rb, hrb⟩ : ∃ rb, rb = w.heap.size := ⟨_, rfl⟩
  have X0 : Ext w w0 := by rw [hw0]; exact ((Ext.refl w).alloc _).alloc _
  have RB : RowB w0 rb 45 [.int .u8 b0, .int .u8 b1] := by rw [hw0, hrb]; exact (RowB.laid w 45 [.int .u8 b0, .int .u8 b1]).ext ((Ext.refl _).alloc _)
  have RA : RowB w0 (rb + 1) 46 [.int .u16 p0, .int .u16 p1] := by rw [hw0, hrb]; simpa using RowB.laid (w.alloc (.cells #[.int .u8 b0, .int .u8 b1] 45)) 46 [.int .u16 p0, .int .u16 p1]
  have HRB := Lib.hid RB
  have HRA := Lib.hid RA
  have HRW := Lib.hid hrb
  go_enter Try.func4, Try.ntmps4
  go_upto_region 1 with fail
  rw [← hw0, ← hrb]
  clear hw0 hrb RB RA
  have hrs : rb + 1 < w0.heap.size := HRA.out.lt
  go_upto_region 4 with (first
      | (go_at_call 9; refine (awake_any _).mono ?_; rintro e w1 ⟨rfl, hx1⟩)
      | (go_at_call 10; refine (HT.out _).mono ?_; rintro e w2 ⟨rfl, hx2⟩))
  have X2 : Ext w0 w2 := hx1.trans hx2
  have bits0 := (HRB.out.ext X2).cell (j := 0) rfl
  have hr2 : rb + 1 < w2.heap.size := Nat.lt_of_lt_of_le hrs X2.size
  go_upto_region 5 with (go_at_call 11; refine (held_ok _ t b0 (by have := HTS.out; omega) hb0 _).mono ?_; rw [HTS.out]; rintro e w3 ⟨b, l, d, s, rfl, hx3, hB3, hA3, hN3⟩)
  clear bits0 hA3 hN3
  have X3 : Ext w0 w3 := X2.trans hx3
  have bits1 := fun o => (HRB.out.ext (X3.alloc o)).cell (j := 1) rfl
  go_upto_region 6 with (go_at_call 11; refine (held_ok _ t b1 (by have := HTS.out; omega) hb1 _).mono ?_; rw [HTS.out]; rintro e w4 ⟨b', l', d', s', rfl, hx4, hB4, hA4, hN4⟩)
  clear bits1 hA4 hN4
  have X4 : Ext w0 w4 := (X3.alloc _).trans hx4
  have bits0 := fun o => (HRB.out.ext (X4.alloc o)).cell (j := 0) rfl
  go_upto_region 7 with (go_at_call 11; refine (held_ok _ t b0 (by have := HTS.out; omega) hb0 _).mono ?_; rw [HTS.out]; rintro e w5 ⟨bc, lc, dc, sc, rfl, hx5, hB5, hA5, hN5⟩)
  clear bits0 hA5 hN5
  have X5 : Ext w0 w5 := (X4.alloc _).trans hx5
  have bits1 := fun o => (HRB.out.ext (X5.alloc o)).cell (j := 1) rfl
  go_upto_region 8 with (go_at_call 11; refine (held_ok _ t b1 (by have := HTS.out; omega) hb1 _).mono ?_; rw [HTS.out]; rintro e w6 ⟨bd, ld, dd, sd, rfl, hx6, hB6, hA6, hN6⟩)
  clear bits1 hA6 hN6
  have X6 : Ext w0 w6 := (X5.alloc _).trans hx6
  have Z3 := hx3.size
  have Z4 := hx4.size
  have Z5 := hx5.size
  have Z6 := hx6.size
  simp only [World.heap_size_alloc'] at Z4 Z5 Z6
  have L3 : l < w3.heap.size := hB3.row.elim fun f hf => hf.1.lt
  have M3 := hB3.hl
  have L6 : ld < w6.heap.size := hB6.row.elim fun f hf => hf.1.lt
  have M6 := hB6.hl
  have M4 := hB4.hl
  have M5 := hB5.hl
  simp only [World.heap_size_alloc'] at M4 M5 M6
  have X36 : Ext w3 w6 := ((((Ext.refl w3).alloc _).trans hx4).alloc _ |>.trans hx5).alloc _ |>.trans hx6
  have X46 : Ext w4 w6 := (((Ext.refl w4).alloc _).trans hx5).alloc _ |>.trans hx6
  have X56 : Ext w5 w6 := ((Ext.refl w5).alloc _).trans hx6
  have Ba := hB3.avoid (fun k => k = ld) (fun k hk => by omega)
  have Bb := hB4.avoid (fun k => k = l) (fun k hk => by simp; omega)
  have Bc := hB5.avoid (fun k => k = l ∨ k = ld) (fun k hk => by simp; omega)
  have Bd := hB6.avoid (fun k => k = l) (fun k hk => by simp; omega)
  have HTAG := Lib.hid (show ((⟨#[116]⟩ : ByteArray).toList == []) = false by rw [ByteArray.toList_eq]; rfl)
  clear hB3 hB4 hB5 hB6
  have hm64 : m ≤ 65536 := by omega
  have hfit := Lib.hid (fun i (_ : i < npc m) => hD_fit t b0 b1 i)
  have hfit2 := Lib.hid (fun i (_ : i < npc m) => hD_fit t b1 b0 i)
  have hok0 := Lib.hid (hD_ok (a := b0) HTS.out)
  have hok1 := Lib.hid (hD_ok (a := b1) HTS.out)
  go_upto_region 10 with (first
      | (go_at_call 19; refine (join_ok Bd7 Bc7 (fun k hk => by have := hb7.size; simp at this; omega) (.inr rfl) hm64 HTAG.out hok0.out hfit2.out).mono ?_; rw [pJ_comm]; rintro e w8 ⟨rfl, hb8, hk8, Bd8, Bc8⟩)
      | (go_at_call 19; refine (join_ok (Ba.ext (X36.alloc _)) (Bb.ext (X46.alloc _)) (fun k hk => by simp; omega) rfl hm64 HTAG.out hok1.out hfit.out).mono ?_; rintro e w7 ⟨rfl, hb7, hk7, Ba7, Bb7⟩; have Bc7 := (Bc.ext (X56.alloc _)).kept hk7 (.inl rfl); have Bd7 := (Bd.ext ((Ext.refl w6).alloc _)).kept hk7 rfl))
  have Ba8 : BodyAt w8 w2.heap.size (fun k => k = ld) b l ⟨#[116]⟩ m (pJ t b0 b1) := Ba7.kept hk8 rfl
  have Y8 : Ext w2 w8 := Below.trans (Below.trans ((hx3.trans X36).alloc _) hb7) (Below.mono hb8 (by simp; omega))
  have X8 : Ext w0 w8 := X2.trans Y8
  clear hb7 hb8 hk7 hk8 Ba Bb Bc Bd Ba7 Bb7 Bc7 Bd7 Bc8 X36 X46 X56 Z3 Z4 Z5 Z6 L3 M3 L6 M6 M4 M5 hx1 hx2 hx3 hx4 hx5 hx6 X2 X3 X4 X5 X6 Y8 hfit hfit2 hok0 hok1
  have HA8 := Lib.hid (HRA.out.ext X8)
  have HB8 := Lib.hid (HRB.out.ext X8)
  have a0 := HA8.out.cell (j := 0) rfl
  have a1 := HA8.out.cell (j := 1) rfl
  obtain ⟨pp, hpp⟩ : ∃ pp : Nat, pp = min p0 p1 := ⟨_, rfl⟩
  obtain ⟨qq, hqq⟩ : ∃ qq : Nat, qq = max p0 p1 := ⟨_, rfl⟩
  have e1 : min (p0 : Int) (p1 : Int) = (pp : Int) := by omega
  have e2 : max (p0 : Int) (p1 : Int) = (qq : Int) := by omega
  have hpl : pp < 65536 := by omega
  have hql : qq < 65536 := by omega
  clear hpp hqq
  obtain ⟨f, hf⟩ : ∃ f : Nat, f = pp % (m + 1) := ⟨_, rfl⟩
  have hfm : f ≤ m := by have := Nat.mod_lt pp (by omega : 0 < m + 1); omega
  have e3 : (pp : Int) % ((m : Int) + 1) = (f : Int) := by rw [hf]; simp
  obtain ⟨u, hu⟩ : ∃ u : Nat, u = f + qq % (m + 1 - f) := ⟨_, rfl⟩
  have hum : u ≤ m := by have := Nat.mod_lt qq (by omega : 0 < m + 1 - f); omega
  have hfu : f ≤ u := by omega
  obtain ⟨r, hr⟩ : ∃ r : Nat, r = qq % (m + 1 - f) := ⟨_, rfl⟩
  have e4 : (qq : Int) % ((m : Int) + 1 - (f : Int)) = (r : Int) := by rw [hr, show (m : Int) + 1 - (f : Int) = ((m + 1 - f : Nat) : Int) by omega]; simp
  have e5 : (f : Int) + (r : Int) = (u : Int) := by omega
  have hm13 : (m : Int) < 1300 := by omega
  have e6 : ((m : Int) + 1 - (f : Int) == 0) = false := by rw [beq_eq_false_iff_ne]; omega
  have e7 : ((m : Int) + 1 == 0) = false := by rw [beq_eq_false_iff_ne]; omega
  clear hf hr hu
  go_upto_region 13 with fail
  have HR := Lib.hid (RowB.laid w8 43 [.int .i64 f, .int .i64 u])
  have X8a : Ext w8 (w8.alloc (.cells #[.int .i64 f, .int .i64 u] 43)) := (Ext.refl w8).alloc _
  have hok := Lib.hid (pJ_ok (a := b0) (b := b1) HTS.out)
  have hmis := Lib.hid (fun (W : World) (B b l : Nat) (A : Nat → Prop) (h : BodyAt W B A b l ⟨#[116]⟩ m (pJ t b0 b1)) => missing_any h f u f u hm64 (by omega) (by omega) (by omega))
  have hlen := Lib.hid (show (gaps (pJ t b0 b1) (pcs f u)).length ≤ 1000000 from Nat.le_trans (gaps_length _ _) (Nat.le_trans (pcs_length f u (by omega)) (by omega)))
  have HBa := Lib.hid Ba8
  have HBd := Lib.hid Bd8
  clear a0 a1 e1 e2 e4 e5 e6 e7 Ba8 Bd8
  by_cases hg : gaps (pJ t b0 b1) (pcs f u) = []
  · have HG := Lib.hid hg
    clear hg
    go_upto_region 14 with (go_at_call 18; refine (read_ok (HBa.out.ext X8a) hok.out f u hm64 hfu hum HG.out).mono ?_; rintro e w9 ⟨v1, rfl, hx9, ho9⟩)
    have r0 := (HR.out.ext hx9).cell (j := 0) rfl
    have r1 := (HR.out.ext hx9).cell (j := 1) rfl
    go_upto_region 15 with (go_at_call 18; refine (read_ok (HBd.out.ext (X8a.trans hx9)) hok.out f u hm64 hfu hum HG.out).mono ?_; rintro e w10 ⟨v2, rfl, hx10, ho10⟩)
    clear r0 r1
    have X10 : Ext w8 w10 := (X8a.trans hx9).trans hx10
    have HR10 := Lib.hid ((HR.out.ext hx9).ext hx10)
    have r0 := HR10.out.cell (j := 0) rfl
    have r1 := HR10.out.cell (j := 1) rfl
    go_cut [145] (fun v wx => v = .bool false ∧ Ext w10 wx)
    case first =>
      go_region_with (first
        | (go_at_call 20; refine (num_nil _).mono ?_; rintro e w' ⟨rfl, rfl⟩)
        | (go_at_call 21; refine (ints_any (hv1.ext hx12') hv2 hlen.out hlen.out).mono ?_; rw [decide_eq_true rfl]; rintro e w13 ⟨rfl, hx13⟩)
        | (go_at_call_of 22 (Value.pointer (some ⟨bd, 0, none⟩)); refine (hmis.out _ _ _ _ _ (HBd.out.ext (X10.drew.trans hx11))).mono ?_; rintro e w12 ⟨x2, rfl, hx12, hox2⟩; have hx12' := hx12; have hv2 := hox2.reads)
        | (go_at_call_of 22 (Value.pointer (some ⟨b, 0, none⟩)); refine (hmis.out _ _ _ _ _ (HBa.out.ext X10.drew)).mono ?_; rintro e w11 ⟨x1, rfl, hx11, hox1⟩; have hv1 := hox1.reads; have s0 := (HR10.out.ext ((Ext.refl w10).drew.trans hx11)).cell (j := 0) rfl; have s1 := (HR10.out.ext ((Ext.refl w10).drew.trans hx11)).cell (j := 1) rfl))
      all_goals go_wp2_with fail
      all_goals simp only [Act.put, List.getElem_toArray, List.getElem_cons_succ, List.getElem_cons_zero, List.setIfInBounds_toArray, List.set_cons_succ, List.set_cons_zero]
      all_goals go_meet
      all_goals exact ⟨rfl, ((Ext.refl w10).drew.trans hx11).trans (hx12.trans hx13)⟩
    case rest =>
      obtain ⟨rfl, hxc⟩ := hcut
      have Xc : Ext w8 wc := X10.trans hxc
      have HBac := Lib.hid (HBa.out.ext Xc)
      have HBdc := Lib.hid (HBd.out.ext Xc)
      have bits0 := (HB8.out.ext Xc).cell (j := 0) rfl
      have bits1 := (HB8.out.ext Xc).cell (j := 1) rfl
      have XT : Ext w wc := X0.trans (X8.trans Xc)
      have hor := or_u8 b0 b1 hb0 hb1
      obtain ⟨o, ho⟩ : ∃ o, o = b0 ||| b1 := ⟨_, rfl⟩
      have HO := Lib.hid ho
      have ho8 : o < 256 := by rw [ho]; exact Nat.or_lt_two_pow (n := 8) (by omega) (by omega)
      rw [← ho] at hor
      have hcv1 := fun q => conv_own ho9 ((hx10.trans hxc).drewN q)
      have hcv2 := fun q => conv_own ho10 (hxc.drewN q)
      rw [rd_text HG.out (by rw [HTS.out]; exact hum) hfu] at hcv1 hcv2
      clear ho9 ho10 ho r0 r1 hx9 hx10 hxc X10 HR10 HR X8a X8 Xc
      go_wp2_with fail
      go_loopw [27, 28] (fun wh i wr => ∃ (k : Nat) (c : Bool), k ≤ npc m ∧ i = .int .i64 k ∧ wh = .bool c ∧ (c = decide (∀ j, j < k → (pJ t b0 b1 j).isSome = true)) ∧ wr = wc) (fun _ i _ => npc m - (intOf i).toNat)
      case atStart => exact ⟨0, true, by omega, rfl, rfl, by rw [eq_comm, decide_eq_true_iff]; intro j hj; omega, rfl⟩
      case round =>
        obtain ⟨k, c, hk, rfl, rfl, hc, rfl⟩ := hrel
        by_cases hlt : k < npc m
        · have hkm : (k : Int) * 256 < (m : Int) := by unfold npc at hlt; omega
          have hk6 : (k : Int) < 256 := by unfold npc at hlt; omega
          have ht := bit_test o k ho8
          have hs : (pJ t b0 b1 k).isSome = decide (o / 2 ^ (k % 8) % 2 = 1) := by
            rw [pJ_at, ← HO.out]
            by_cases h : o / 2 ^ (k % 8) % 2 = 1
            · rw [if_pos h, decide_eq_true h]; rfl
            · rw [if_neg h, decide_eq_false h]; rfl
          have hcn := Lib.hid (all_succ (pJ t b0 b1) k c hc)
          clear hc
          cases hbit : decide (o / 2 ^ (k % 8) % 2 = 1) <;> rw [hbit] at ht hs <;> cases c
          all_goals rw [hs] at hcn
          all_goals have HS := Lib.hid hs
          all_goals clear hbit hs
          all_goals go_wp2_with (first
            | (go_at_call_of 17 (Value.pointer (some ⟨b, 0, none⟩)); refine (has_in HBac.out hm64 k hlt).mono ?_; rw [HS.out]; rintro e w' ⟨rfl, rfl⟩)
            | (go_at_call_of 17 (Value.pointer (some ⟨bd, 0, none⟩)); refine (has_in HBdc.out hm64 k hlt).mono ?_; rw [HS.out]; rintro e w' ⟨rfl, rfl⟩))
          all_goals go_roundw
          all_goals first
            | exact ⟨k + 1, _, by omega, by go_num, rfl, hcn.out, by first | rfl | trivial⟩
            | (simp [intOf]; omega)
        · obtain rfl : k = npc m := by omega
          have hkm : ¬ ((npc m : Nat) : Int) * 256 < (m : Int) := by unfold npc; omega
          have hk6 : ((npc m : Nat) : Int) < 257 := by unfold npc; omega
          have HC := Lib.hid hc
          clear hc
          obtain ⟨x, hx⟩ : ∃ x, t.extract f u = x := ⟨_, rfl⟩
          rw [hx] at hcv1 hcv2
          have hsz : t.size = m := HTS.out
          have hfu2 : decide (f ≤ u) = true := by simp [hfu]
          clear hor bits0 bits1 hk hlt e3 hpl hql
          have hw1 := Lib.hid (fun q => whole_drew HBac.out hm64 HC.out q)
          have hw2 := Lib.hid (fun q => whole_drew HBdc.out hm64 HC.out q)
          cases c
          all_goals go_upto_region 27 with fail
          all_goals clear hkm hk6
          all_goals refine wp_region_quiet_lit (by kernel_rfl) (by kernel_rfl) ?_
          all_goals repeat (go_big_quiet_step (first | (go_at_call_of 12 (Value.pointer (some ⟨b, 0, none⟩)); exact Calls.quiet_of_same (hw1.out _)) | (go_at_call_of 12 (Value.pointer (some ⟨bd, 0, none⟩)); exact Calls.quiet_of_same (hw2.out _))))
          all_goals refine wpQuiet_nil ?_
          all_goals rintro _ ⟨nq, rfl⟩
          all_goals go_wp2_with fail
          all_goals go_ret
          all_goals exact ⟨rfl, XT.drewN _⟩
  · have HG := Lib.hid hg
    clear hg
    go_upto_region 14 with (go_at_call 18; refine (read_none (HBa.out.ext X8a) f u hm64 hfu hum HG.out).mono ?_; rintro e w9 ⟨rfl, hx9⟩)
    have r0 := (HR.out.ext hx9).cell (j := 0) rfl
    have r1 := (HR.out.ext hx9).cell (j := 1) rfl
    go_upto_region 15 with (go_at_call 18; refine (read_none (HBd.out.ext (X8a.trans hx9)) f u hm64 hfu hum HG.out).mono ?_; rintro e w10 ⟨rfl, hx10⟩)
    clear r0 r1
    have X10 : Ext w8 w10 := (X8a.trans hx9).trans hx10
    have HR10 := Lib.hid ((HR.out.ext hx9).ext hx10)
    have r0 := HR10.out.cell (j := 0) rfl
    have r1 := HR10.out.cell (j := 1) rfl
    go_cut [145] (fun v wx => v = .bool false ∧ Ext w10 wx)
    case first =>
      go_region_with (first
        | (go_at_call 20; refine (num_err 3 _).mono ?_; rintro e w' ⟨rfl, rfl⟩)
        | (go_at_call 21; refine (ints_any (hv1.ext hx12') hv2 hlen.out hlen.out).mono ?_; rw [decide_eq_true rfl]; rintro e w13 ⟨rfl, hx13⟩)
        | (go_at_call_of 22 (Value.pointer (some ⟨bd, 0, none⟩)); refine (hmis.out _ _ _ _ _ (HBd.out.ext (X10.drew.trans hx11))).mono ?_; rintro e w12 ⟨x2, rfl, hx12, hox2⟩; have hx12' := hx12; have hv2 := hox2.reads)
        | (go_at_call_of 22 (Value.pointer (some ⟨b, 0, none⟩)); refine (hmis.out _ _ _ _ _ (HBa.out.ext X10.drew)).mono ?_; rintro e w11 ⟨x1, rfl, hx11, hox1⟩; have hv1 := hox1.reads; have s0 := (HR10.out.ext ((Ext.refl w10).drew.trans hx11)).cell (j := 0) rfl; have s1 := (HR10.out.ext ((Ext.refl w10).drew.trans hx11)).cell (j := 1) rfl))
      all_goals go_wp2_with fail
      all_goals simp only [Act.put, List.getElem_toArray, List.getElem_cons_succ, List.getElem_cons_zero, List.setIfInBounds_toArray, List.set_cons_succ, List.set_cons_zero]
      all_goals go_meet
      all_goals exact ⟨rfl, ((Ext.refl w10).drew.trans hx11).trans (hx12.trans hx13)⟩
    case rest =>
      obtain ⟨rfl, hxc⟩ := hcut
      have Xc : Ext w8 wc := X10.trans hxc
      have HBac := Lib.hid (HBa.out.ext Xc)
      have HBdc := Lib.hid (HBd.out.ext Xc)
      have bits0 := (HB8.out.ext Xc).cell (j := 0) rfl
      have bits1 := (HB8.out.ext Xc).cell (j := 1) rfl
      have XT : Ext w wc := X0.trans (X8.trans Xc)
      have hor := or_u8 b0 b1 hb0 hb1
      obtain ⟨o, ho⟩ : ∃ o, o = b0 ||| b1 := ⟨_, rfl⟩
      have HO := Lib.hid ho
      have ho8 : o < 256 := by rw [ho]; exact Nat.or_lt_two_pow (n := 8) (by omega) (by omega)
      rw [← ho] at hor
      clear ho r0 r1 hx9 hx10 hxc X10 HR10 HR X8a X8 Xc
      go_wp2_with fail
      go_loopw [27, 28] (fun wh i wr => ∃ (k : Nat) (c : Bool), k ≤ npc m ∧ i = .int .i64 k ∧ wh = .bool c ∧ (c = decide (∀ j, j < k → (pJ t b0 b1 j).isSome = true)) ∧ wr = wc) (fun _ i _ => npc m - (intOf i).toNat)
      case atStart => exact ⟨0, true, by omega, rfl, rfl, by rw [eq_comm, decide_eq_true_iff]; intro j hj; omega, rfl⟩
      case round =>
        obtain ⟨k, c, hk, rfl, rfl, hc, rfl⟩ := hrel
        by_cases hlt : k < npc m
        · have hkm : (k : Int) * 256 < (m : Int) := by unfold npc at hlt; omega
          have hk6 : (k : Int) < 256 := by unfold npc at hlt; omega
          have ht := bit_test o k ho8
          have hs : (pJ t b0 b1 k).isSome = decide (o / 2 ^ (k % 8) % 2 = 1) := by
            rw [pJ_at, ← HO.out]
            by_cases h : o / 2 ^ (k % 8) % 2 = 1
            · rw [if_pos h, decide_eq_true h]; rfl
            · rw [if_neg h, decide_eq_false h]; rfl
          have hcn := Lib.hid (all_succ (pJ t b0 b1) k c hc)
          clear hc
          cases hbit : decide (o / 2 ^ (k % 8) % 2 = 1) <;> rw [hbit] at ht hs <;> cases c
          all_goals rw [hs] at hcn
          all_goals have HS := Lib.hid hs
          all_goals clear hbit hs
          all_goals go_wp2_with (first
            | (go_at_call_of 17 (Value.pointer (some ⟨b, 0, none⟩)); refine (has_in HBac.out hm64 k hlt).mono ?_; rw [HS.out]; rintro e w' ⟨rfl, rfl⟩)
            | (go_at_call_of 17 (Value.pointer (some ⟨bd, 0, none⟩)); refine (has_in HBdc.out hm64 k hlt).mono ?_; rw [HS.out]; rintro e w' ⟨rfl, rfl⟩))
          all_goals go_roundw
          all_goals first
            | exact ⟨k + 1, _, by omega, by go_num, rfl, hcn.out, by first | rfl | trivial⟩
            | (simp [intOf]; omega)
        · obtain rfl : k = npc m := by omega
          have hkm : ¬ ((npc m : Nat) : Int) * 256 < (m : Int) := by unfold npc; omega
          have hk6 : ((npc m : Nat) : Int) < 257 := by unfold npc; omega
          have HC := Lib.hid hc
          clear hc
          obtain rfl : c = false := by rw [HC.out]; exact whole_gaps hum HG.out
          go_wp2_with (go_at_call 15; refine (is_err 3 _ (by decide)).mono ?_; rintro e w' ⟨rfl, rfl⟩)
          go_ret
          exact ⟨rfl, XT⟩
end Go.Proofs.Ytfjpaacanoocmaa
