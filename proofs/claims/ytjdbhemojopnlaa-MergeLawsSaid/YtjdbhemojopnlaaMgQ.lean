/- Chapter 52: Gaps, the program's. -/
import Derived.Test.YtjdbhemojopnlaaMgP
namespace Go.Proofs.Ytjdbhemojopnlaa
open Go.RowKit Go.Maps
theorem grownBy_set (W : World) (b i : Nat) (v : Value) : W.grownBy (W.setCell ⟨b, i, none⟩ v) (some b) :=
  ⟨rfl, rfl, rfl, (KeepsWalks.setCell W _ v).size, fun k _ hk => Below.heap_setCell _ _ _ k (fun e => hk (by rw [e]))⟩
theorem grown_trans {a b c : World} {t : Nat} (h : a.grownBy b (some t)) (k : b.grownBy c (some t)) : a.grownBy c (some t) :=
  ⟨k.os.trans h.os, k.tape.trans h.tape, k.output.trans h.output, Nat.le_trans h.size k.size, fun i hi hn => (k.block i (Nat.lt_of_lt_of_le hi h.size) hn).trans (h.block i hi hn)⟩
theorem grown_below {a b c : World} {t : Nat} (h : a.grownBy b (some t)) (k : Below a.heap.size b c) : a.grownBy c (some t) :=
  ⟨k.os.trans h.os, k.tape.trans h.tape, k.output.trans h.output, Nat.le_trans h.size k.size, fun i hi hn => (k.block i hi).trans (h.block i hi hn)⟩
theorem RowB.cellsOff {w w' : World} {t : Nat} (h : w.grownBy w' (some t)) {p : Addr} {v : Value} (hp : w.cell? p = some v) (hn : p.block ≠ t) : w'.cell? p = some v :=
  (World.cell?_of_block (a := p) (h.block p.block (World.block_lt_of_cell? w p hp) (by simpa using hn))).trans hp
theorem id_cells {w : World} {g : Nat} {a : ByteArray} {b c : Int} (h : RowB w g 66 [.string a, .int .i64 b, .int .i64 c]) : (w.cell? ⟨g, 0, none⟩ = some (.string a) ∧ w.cell? ⟨g, 1, none⟩ = some (.int .i64 b) ∧ w.cell? ⟨g, 2, none⟩ = some (.int .i64 c)) ∧
    (w.frozen? ⟨g, 0, none⟩ = false ∧ w.frozen? ⟨g, 1, none⟩ = false ∧ w.frozen? ⟨g, 2, none⟩ = false) :=
  ⟨⟨h.cell (j := 0) rfl, h.cell (j := 1) rfl, h.cell (j := 2) rfl⟩, h.frozen (j := 0) (by simp), h.frozen (j := 1) (by simp), h.frozen (j := 2) (by simp)⟩
set_option maxRecDepth 100000 in
set_option maxHeartbeats 4000000 in
theorem gaps_any {v : Value} {r : List Ent} (hn : r.length ≤ 1000) (hgd : ∀ x ∈ r, x.good) (w : World) (HLS : ListsTo w v r) :
    Calls Try.prog 13 #[v] w fun e w' => ∃ u, e = .returned u ∧ GpsAt w' u (gps none r) ∧ Ext w w' := by
  obtain ⟨n, hxn⟩ : ∃ n, r.length = n := ⟨_, rfl⟩
  have HN := Lib.hid hxn
  have HG := Lib.hid hgd
  have HL := Lib.hid HLS
  rw [hxn] at hn
  clear hxn hgd HLS
  go_enter Try.func13, Try.ntmps13
  go_upto_region 3 with fail
  obtain ⟨w0, hw0⟩ : ∃ w0, w0 = w.alloc (.cells #[.string ByteArray.empty, .int .i64 0, .int .i64 0] 66) := ⟨_, rfl⟩
  have X0 : Ext w w0 := by rw [hw0]; exact (Ext.refl w).alloc _
  have HT0 : RowB w0 w.heap.size 66 [.string ByteArray.empty, .int .i64 0, .int .i64 0] := by rw [hw0]; exact row_laid _ _ _
  have hz0 : w0.heap.size = w.heap.size + 1 := by rw [hw0]; simp
  have e0 : w.alloc (.cells #[.string { data := #[] }, .int .i64 0, .int .i64 0] 66) = w0 := hw0.symm
  rw [e0]
  clear hw0 e0
  go_wp2_with (go_at_call 20; refine (HL.out w0 X0).mono ?_; rintro e w1 ⟨u, rfl, hu, hx1, hfr⟩; obtain ⟨A, cap, rfl, hr⟩ := hu.parts; rw [HN.out] at hr hfr ⊢)
  have h1s : w.heap.size + 1 ≤ w1.heap.size := by have := hx1.size; omega
  have HX1 := Lib.hid (X0.trans hx1)
  obtain ⟨B, hB⟩ : ∃ B, B = w1.heap.size := ⟨_, rfl⟩
  obtain ⟨t4, ht4⟩ : ∃ t, w.heap.size = t := ⟨_, rfl⟩
  have HS : Hid (B = w1.heap.size ∧ t4 + 1 ≤ B ∧ w.heap.size = t4) := Lib.hid ⟨hB, by omega, ht4⟩
  have HT1 : RowB w1 t4 66 [.string ByteArray.empty, .int .i64 0, .int .i64 0] := by rw [← ht4]; exact HT0.ext hx1
  have HFR : Hid (∀ a n c, Value.slice A n c = .slice (some a) n c → t4 + 1 ≤ a.block) := Lib.hid (fun a m c e => by cases e; have := hfr a n cap rfl; omega)
  rw [ht4]
  clear HT0 hz0 h1s hB ht4 hx1 hfr hu X0
  go_loopw [3, 11] (fun o i wr => ∃ (k : Nat) (ln : ByteArray) (lb ls : Int), k ≤ n ∧ i = .int .i64 k ∧ GpOwn wr B o (gps none (r.take k)) ∧ RowB wr t4 66 [.string ln, .int .i64 lb, .int .i64 ls] ∧ w1.grownBy wr (some t4) ∧ Hid ((k = 0 ∧ True) ∨ ∃ y, 0 < k ∧ lastE none (r.take k) = some y ∧ y ∈ r ∧ ln = y.nd ∧ lb = y.bt ∧ ls = y.sq)) (fun _ i _ => n - (intOf i).toNat)
  case atStart => exact ⟨0, _, 0, 0, by omega, rfl, GpOwn.nil _ _, HT1, (Ext.refl w1).grown _, Lib.hid (.inl ⟨rfl, trivial⟩)⟩
  case round =>
    obtain ⟨k, ln, lb, ls, hk, rfl, hO, hT, hGr, HI⟩ := hrel
    have hsz : B ≤ wr.heap.size := by have := hGr.size; have := HS.out.1; omega
    by_cases hlt : k < n
    · obtain ⟨g, off, rfl, hg⟩ := hr (by omega)
      obtain ⟨x, hx⟩ : ∃ x, r[k]? = some x := ⟨r[k]'(by rw [HN.out]; exact hlt), by simp⟩
      have hki : (k : Int) < (n : Int) := by omega
      have hk6 : (k : Int) < 1001 := by omega
      have HX := Lib.hid hx
      have hTK : r.take (k + 1) = r.take k ++ [x] := by rw [List.take_add_one, hx]; rfl
      have HST : Hid (gps none (r.take (k + 1)) = gps none (r.take k) ++ gapOf (lastE none (r.take k)) x ∧ lastE none (r.take (k + 1)) = some x) := Lib.hid ⟨by rw [hTK, gps_snoc], by rw [hTK, lastE_snoc]⟩
      have hxg := HG.out x (List.mem_of_getElem? hx)
      have hsq : 1 ≤ x.sq ∧ x.sq ≤ 1099511627776 := hxg.2.2.1
      have hgn : g ≠ t4 := by have := HFR.out ⟨g, off, none⟩ n cap rfl; simp at this; omega
      obtain ⟨a0, a1, a2, a3, a4, a5, a6⟩ := cells7 (w := wr) (fun j u hj => RowB.cellsOff hGr (hg k x hx j u hj) hgn)
      have HOL : Hid ((gps none (r.take k)).length ≤ 1000) := Lib.hid (by have := gps_len none (r.take k); have : (r.take k).length ≤ k := List.length_take_le _ _; omega)
      obtain ⟨gl, hgl⟩ : ∃ gl, gps none (r.take k) = gl := ⟨_, rfl⟩
      rw [hgl] at hO HST HOL
      clear hg hx hr hTK hxg hgl
      go_upto_region 6 with fail
      obtain ⟨wa, hwa⟩ : ∃ wa, wa = wr.alloc (.cells x.cs.toArray 41) := ⟨_, rfl⟩
      have XA : Ext wr wa := by rw [hwa]; exact (Ext.refl wr).alloc _
      have HT : RowB wa wr.heap.size 41 x.cs := by rw [hwa]; exact row_laid _ _ _
      have hza : wa.heap.size = wr.heap.size + 1 := by rw [hwa]; simp
      simp only [Ent.cs] at hwa
      rw [← hwa]
      obtain ⟨t6, ht6⟩ : ∃ t, wr.heap.size = t := ⟨_, rfl⟩
      rw [ht6] at HT hsz hza ⊢
      clear hwa a0 a1 a2 a3 a4 a5 a6
      have hT6 : t4 ≠ t6 := by have := HS.out.2.1; omega
      have hTa := hT.ext XA
      have hGa : w1.grownBy wa (some t4) := grown_below hGr (Below.mono XA (by have := HS.out.1; omega))
      have hOa : GpOwn wa B u3 gl := hO.kept (XA.grown none) (fun k e => by cases e)
      have hsa : B ≤ wa.heap.size := by omega
      clear hT hGr hO XA hsz hza ht6
      have HTA := Lib.hid hTa
      have HTX := Lib.hid HT
      have HGA := Lib.hid hGa
      have HOA := Lib.hid hOa
      obtain ⟨⟨c0, c1, c2⟩, f0, f1, f2⟩ := id_cells hTa
      obtain ⟨t0, t1, t2, t3, t4', t5, t6'⟩ := ent_cells HT
      clear hTa HT hGa hOa
      rcases (show (k = 0 ∨ (0 < k ∧ x.nd.toList ≠ ln.toList) ∨ (0 < k ∧ x.nd.toList = ln.toList ∧ x.bt ≠ lb)) ∨ (0 < k ∧ x.nd.toList = ln.toList ∧ x.bt = lb) by
        by_cases h0 : k = 0
        · exact .inl (.inl h0)
        · by_cases h1 : x.nd.toList = ln.toList
          · by_cases h2 : x.bt = lb
            · exact .inr ⟨by omega, h1, h2⟩
            · exact .inl (.inr (.inr ⟨by omega, h1, h2⟩))
          · exact .inl (.inr (.inl ⟨by omega, h1⟩))) with hreset | ⟨hk0, hnd, hbt⟩
      · have HL0 : Hid (lastS (lastE none (r.take k)) x = 0) := Lib.hid (by
          rcases HI.out with ⟨rfl, _⟩ | ⟨y, hk0, hy, _, rfl, rfl, _⟩
          · rfl
          · rw [hy]
            unfold lastS
            refine if_neg ?_
            rintro ⟨e1, e2⟩
            rcases hreset with h | ⟨_, h⟩ | ⟨_, _, h⟩
            · omega
            · exact h (by rw [e1])
            · exact h e2.symm)
        rcases hreset with hk0 | ⟨hk0, hnd⟩ | ⟨hk0, hnd, hbt⟩
        · have hki0 : ((k : Int) == 0) = true := by simp [hk0]
          have h3 : B ≤ wa.heap.size := hsa
          go_upto_region 8 with fail
          obtain ⟨wx, hwx⟩ : ∃ wx, wx = ((wa.setCell ⟨t4, 0, none⟩ (.string x.nd)).setCell ⟨t4, 1, none⟩ (.int .i64 x.bt)).setCell ⟨t4, 2, none⟩ (.int .i64 0) := ⟨_, rfl⟩
          have hg3 : wa.grownBy wx (some t4) := by rw [hwx]; exact grown_trans (grown_trans (grownBy_set _ _ _ _) (grownBy_set _ _ _ _)) (grownBy_set _ _ _ _)
          have HTX2 : Hid (RowB wx t4 66 [.string x.nd, .int .i64 x.bt, .int .i64 0]) := Lib.hid (by rw [hwx]; exact ((HTA.out.set 0 (.string x.nd) (by simp)).set 1 (.int .i64 x.bt) (by simp)).set 2 (.int .i64 0) (by simp))
          have HGX2 := Lib.hid (grown_trans HGA.out hg3)
          have HOX2 := Lib.hid (HOA.out.kept hg3 (fun k e => by cases e; have := HS.out; omega))
          have HEX2 : Hid (RowB wx t6 41 x.cs) := Lib.hid (HTX.out.kept (hg3.block t6 HTX.out.lt (by simpa using hT6.symm)))
          have hsx : B ≤ wx.heap.size := Nat.le_trans h3 hg3.size
          rw [← hwx]
          have h6x : t6 < wx.heap.size := HEX2.out.lt
          clear hwx hg3 c0 c1 c2 f0 f1 f2 t0 t1 t2 t3 t4' t5 t6'
          obtain ⟨⟨c0, c1, c2⟩, f0, f1, f2⟩ := id_cells HTX2.out
          obtain ⟨t0, t1, t2, t3, t4', t5, t6'⟩ := ent_cells HEX2.out
          have w1' : wrap64 (0 + 1) = 0 + 1 := by unfold wrap64; omega
          have w2' : wrap64 (x.sq - 1) = x.sq - 1 := by unfold wrap64; omega
          by_cases hgap : 1 < x.sq
          · go_wp2_with (at_builtin; refine wpList_append_gap _ rfl _ _ rfl B ⟨x.nd, x.bt, 1, x.sq - 1⟩ HOX2.out rfl rfl (by simp) (by have := HOL.out; omega) hsx ?_; intro v' w9 hO9 hB9 hK9; have hT9 := HTX2.out.below hB9 (by have := HS.out.2.1; omega); obtain ⟨⟨d0, d1, d2⟩, f3, f4, f5⟩ := id_cells hT9; have hE9 := HEX2.out.kept (hK9 t6 h6x (gp_ne HOX2.out HEX2.out (by decide))); obtain ⟨y0, y1, y2, y3, y4, y5, y6⟩ := ent_cells hE9)
            go_roundw
            case rel =>
              refine ⟨k + 1, x.nd, x.bt, x.sq, by omega, by go_num, ?_, hT9.set 2 (.int .i64 x.sq) (by simp), grown_trans (grown_below HGX2.out (Below.mono hB9 (by have := HS.out.1; omega))) (grownBy_set _ _ _ _), Lib.hid (.inr ⟨x, by omega, HST.out.2, List.mem_of_getElem? HX.out, rfl, rfl, rfl⟩)⟩
              rw [HST.out.1]
              have hg : gapOf (lastE none (r.take k)) x = [⟨x.nd, x.bt, 1, x.sq - 1⟩] := by unfold gapOf; rw [HL0.out]; exact if_pos (by omega)
              rw [hg]
              exact hO9.kept (grownBy_set _ _ _ _) (fun k e => by cases e; have := HS.out; omega)
            case measure => simp [intOf]; omega
          · go_wp2_with fail
            go_roundw
            case rel =>
              refine ⟨k + 1, x.nd, x.bt, x.sq, by omega, by go_num, ?_, HTX2.out.set 2 (.int .i64 x.sq) (by simp), grown_trans HGX2.out (grownBy_set _ _ _ _), Lib.hid (.inr ⟨x, by omega, HST.out.2, List.mem_of_getElem? HX.out, rfl, rfl, rfl⟩)⟩
              rw [HST.out.1]
              have hg : gapOf (lastE none (r.take k)) x = [] := by unfold gapOf; rw [HL0.out]; exact if_neg (by omega)
              rw [hg, List.append_nil]
              exact HOX2.out.kept (grownBy_set _ _ _ _) (fun k e => by cases e; have := HS.out; omega)
            case measure => simp [intOf]; omega
        · have hki0 : ((k : Int) == 0) = false := by simp; omega
          have hnd' : (x.nd.toList == ln.toList) = false := by simpa using hnd
          have h3 : B ≤ wa.heap.size := hsa
          go_upto_region 8 with fail
          obtain ⟨wx, hwx⟩ : ∃ wx, wx = ((wa.setCell ⟨t4, 0, none⟩ (.string x.nd)).setCell ⟨t4, 1, none⟩ (.int .i64 x.bt)).setCell ⟨t4, 2, none⟩ (.int .i64 0) := ⟨_, rfl⟩
          have hg3 : wa.grownBy wx (some t4) := by rw [hwx]; exact grown_trans (grown_trans (grownBy_set _ _ _ _) (grownBy_set _ _ _ _)) (grownBy_set _ _ _ _)
          have HTX2 : Hid (RowB wx t4 66 [.string x.nd, .int .i64 x.bt, .int .i64 0]) := Lib.hid (by rw [hwx]; exact ((HTA.out.set 0 (.string x.nd) (by simp)).set 1 (.int .i64 x.bt) (by simp)).set 2 (.int .i64 0) (by simp))
          have HGX2 := Lib.hid (grown_trans HGA.out hg3)
          have HOX2 := Lib.hid (HOA.out.kept hg3 (fun k e => by cases e; have := HS.out; omega))
          have HEX2 : Hid (RowB wx t6 41 x.cs) := Lib.hid (HTX.out.kept (hg3.block t6 HTX.out.lt (by simpa using hT6.symm)))
          have hsx : B ≤ wx.heap.size := Nat.le_trans h3 hg3.size
          rw [← hwx]
          have h6x : t6 < wx.heap.size := HEX2.out.lt
          clear hwx hg3 c0 c1 c2 f0 f1 f2 t0 t1 t2 t3 t4' t5 t6'
          obtain ⟨⟨c0, c1, c2⟩, f0, f1, f2⟩ := id_cells HTX2.out
          obtain ⟨t0, t1, t2, t3, t4', t5, t6'⟩ := ent_cells HEX2.out
          have w1' : wrap64 (0 + 1) = 0 + 1 := by unfold wrap64; omega
          have w2' : wrap64 (x.sq - 1) = x.sq - 1 := by unfold wrap64; omega
          by_cases hgap : 1 < x.sq
          · go_wp2_with (at_builtin; refine wpList_append_gap _ rfl _ _ rfl B ⟨x.nd, x.bt, 1, x.sq - 1⟩ HOX2.out rfl rfl (by simp) (by have := HOL.out; omega) hsx ?_; intro v' w9 hO9 hB9 hK9; have hT9 := HTX2.out.below hB9 (by have := HS.out.2.1; omega); obtain ⟨⟨d0, d1, d2⟩, f3, f4, f5⟩ := id_cells hT9; have hE9 := HEX2.out.kept (hK9 t6 h6x (gp_ne HOX2.out HEX2.out (by decide))); obtain ⟨y0, y1, y2, y3, y4, y5, y6⟩ := ent_cells hE9)
            go_roundw
            case rel =>
              refine ⟨k + 1, x.nd, x.bt, x.sq, by omega, by go_num, ?_, hT9.set 2 (.int .i64 x.sq) (by simp), grown_trans (grown_below HGX2.out (Below.mono hB9 (by have := HS.out.1; omega))) (grownBy_set _ _ _ _), Lib.hid (.inr ⟨x, by omega, HST.out.2, List.mem_of_getElem? HX.out, rfl, rfl, rfl⟩)⟩
              rw [HST.out.1]
              have hg : gapOf (lastE none (r.take k)) x = [⟨x.nd, x.bt, 1, x.sq - 1⟩] := by unfold gapOf; rw [HL0.out]; exact if_pos (by omega)
              rw [hg]
              exact hO9.kept (grownBy_set _ _ _ _) (fun k e => by cases e; have := HS.out; omega)
            case measure => simp [intOf]; omega
          · go_wp2_with fail
            go_roundw
            case rel =>
              refine ⟨k + 1, x.nd, x.bt, x.sq, by omega, by go_num, ?_, HTX2.out.set 2 (.int .i64 x.sq) (by simp), grown_trans HGX2.out (grownBy_set _ _ _ _), Lib.hid (.inr ⟨x, by omega, HST.out.2, List.mem_of_getElem? HX.out, rfl, rfl, rfl⟩)⟩
              rw [HST.out.1]
              have hg : gapOf (lastE none (r.take k)) x = [] := by unfold gapOf; rw [HL0.out]; exact if_neg (by omega)
              rw [hg, List.append_nil]
              exact HOX2.out.kept (grownBy_set _ _ _ _) (fun k e => by cases e; have := HS.out; omega)
            case measure => simp [intOf]; omega
        · have hki0 : ((k : Int) == 0) = false := by simp; omega
          have hnd' : (x.nd.toList == ln.toList) = true := by simp [hnd]
          have hbt' : (x.bt == lb) = false := by simpa using hbt
          have h3 : B ≤ wa.heap.size := hsa
          go_upto_region 8 with fail
          obtain ⟨wx, hwx⟩ : ∃ wx, wx = ((wa.setCell ⟨t4, 0, none⟩ (.string x.nd)).setCell ⟨t4, 1, none⟩ (.int .i64 x.bt)).setCell ⟨t4, 2, none⟩ (.int .i64 0) := ⟨_, rfl⟩
          have hg3 : wa.grownBy wx (some t4) := by rw [hwx]; exact grown_trans (grown_trans (grownBy_set _ _ _ _) (grownBy_set _ _ _ _)) (grownBy_set _ _ _ _)
          have HTX2 : Hid (RowB wx t4 66 [.string x.nd, .int .i64 x.bt, .int .i64 0]) := Lib.hid (by rw [hwx]; exact ((HTA.out.set 0 (.string x.nd) (by simp)).set 1 (.int .i64 x.bt) (by simp)).set 2 (.int .i64 0) (by simp))
          have HGX2 := Lib.hid (grown_trans HGA.out hg3)
          have HOX2 := Lib.hid (HOA.out.kept hg3 (fun k e => by cases e; have := HS.out; omega))
          have HEX2 : Hid (RowB wx t6 41 x.cs) := Lib.hid (HTX.out.kept (hg3.block t6 HTX.out.lt (by simpa using hT6.symm)))
          have hsx : B ≤ wx.heap.size := Nat.le_trans h3 hg3.size
          rw [← hwx]
          have h6x : t6 < wx.heap.size := HEX2.out.lt
          clear hwx hg3 c0 c1 c2 f0 f1 f2 t0 t1 t2 t3 t4' t5 t6'
          obtain ⟨⟨c0, c1, c2⟩, f0, f1, f2⟩ := id_cells HTX2.out
          obtain ⟨t0, t1, t2, t3, t4', t5, t6'⟩ := ent_cells HEX2.out
          have w1' : wrap64 (0 + 1) = 0 + 1 := by unfold wrap64; omega
          have w2' : wrap64 (x.sq - 1) = x.sq - 1 := by unfold wrap64; omega
          by_cases hgap : 1 < x.sq
          · go_wp2_with (at_builtin; refine wpList_append_gap _ rfl _ _ rfl B ⟨x.nd, x.bt, 1, x.sq - 1⟩ HOX2.out rfl rfl (by simp) (by have := HOL.out; omega) hsx ?_; intro v' w9 hO9 hB9 hK9; have hT9 := HTX2.out.below hB9 (by have := HS.out.2.1; omega); obtain ⟨⟨d0, d1, d2⟩, f3, f4, f5⟩ := id_cells hT9; have hE9 := HEX2.out.kept (hK9 t6 h6x (gp_ne HOX2.out HEX2.out (by decide))); obtain ⟨y0, y1, y2, y3, y4, y5, y6⟩ := ent_cells hE9)
            go_roundw
            case rel =>
              refine ⟨k + 1, x.nd, x.bt, x.sq, by omega, by go_num, ?_, hT9.set 2 (.int .i64 x.sq) (by simp), grown_trans (grown_below HGX2.out (Below.mono hB9 (by have := HS.out.1; omega))) (grownBy_set _ _ _ _), Lib.hid (.inr ⟨x, by omega, HST.out.2, List.mem_of_getElem? HX.out, rfl, rfl, rfl⟩)⟩
              rw [HST.out.1]
              have hg : gapOf (lastE none (r.take k)) x = [⟨x.nd, x.bt, 1, x.sq - 1⟩] := by unfold gapOf; rw [HL0.out]; exact if_pos (by omega)
              rw [hg]
              exact hO9.kept (grownBy_set _ _ _ _) (fun k e => by cases e; have := HS.out; omega)
            case measure => simp [intOf]; omega
          · go_wp2_with fail
            go_roundw
            case rel =>
              refine ⟨k + 1, x.nd, x.bt, x.sq, by omega, by go_num, ?_, HTX2.out.set 2 (.int .i64 x.sq) (by simp), grown_trans HGX2.out (grownBy_set _ _ _ _), Lib.hid (.inr ⟨x, by omega, HST.out.2, List.mem_of_getElem? HX.out, rfl, rfl, rfl⟩)⟩
              rw [HST.out.1]
              have hg : gapOf (lastE none (r.take k)) x = [] := by unfold gapOf; rw [HL0.out]; exact if_neg (by omega)
              rw [hg, List.append_nil]
              exact HOX2.out.kept (grownBy_set _ _ _ _) (fun k e => by cases e; have := HS.out; omega)
            case measure => simp [intOf]; omega
      · have HL0 : Hid (lastS (lastE none (r.take k)) x = ls) := Lib.hid (by
          rcases HI.out with ⟨rfl, _⟩ | ⟨y, _, hy, _, rfl, rfl, rfl⟩
          · omega
          · rw [hy]
            unfold lastS
            exact if_pos ⟨(tl_inj hnd).symm, hbt.symm⟩)
        have hlb : 0 ≤ ls ∧ ls ≤ 1099511627776 := by
          rcases HI.out with ⟨rfl, _⟩ | ⟨y, _, _, hy, _, _, rfl⟩
          · omega
          · have := (HG.out y hy).2.2.1; omega
        have hki0 : ((k : Int) == 0) = false := by simp; omega
        have hnd' : (x.nd.toList == ln.toList) = true := by simp [hnd]
        have hbt' : (x.bt == lb) = true := by simp [hbt]
        go_upto_region 8 with fail
        have HTX2 := HTA
        have HGX2 := HGA
        have HOX2 := HOA
        have HEX2 := HTX
        have hsx := hsa
        have h6x : t6 < wa.heap.size := HEX2.out.lt
        clear c0 c1 c2 f0 f1 f2 t0 t1 t2 t3 t4' t5 t6'
        obtain ⟨⟨c0, c1, c2⟩, f0, f1, f2⟩ := id_cells HTX2.out
        obtain ⟨t0, t1, t2, t3, t4', t5, t6'⟩ := ent_cells HEX2.out
        have w1' : wrap64 (ls + 1) = ls + 1 := by unfold wrap64; omega
        have w2' : wrap64 (x.sq - 1) = x.sq - 1 := by unfold wrap64; omega
        by_cases hgap : ls + 1 < x.sq
        · go_wp2_with (at_builtin; refine wpList_append_gap _ rfl _ _ rfl B ⟨x.nd, lb, ls + 1, x.sq - 1⟩ HOX2.out rfl rfl (by simp) (by have := HOL.out; omega) hsx ?_; intro v' w9 hO9 hB9 hK9; have hT9 := HTX2.out.below hB9 (by have := HS.out.2.1; omega); obtain ⟨⟨d0, d1, d2⟩, f3, f4, f5⟩ := id_cells hT9; have hE9 := HEX2.out.kept (hK9 t6 h6x (gp_ne HOX2.out HEX2.out (by decide))); obtain ⟨y0, y1, y2, y3, y4, y5, y6⟩ := ent_cells hE9)
          go_roundw
          case rel =>
            refine ⟨k + 1, ln, lb, x.sq, by omega, by go_num, ?_, hT9.set 2 (.int .i64 x.sq) (by simp), grown_trans (grown_below HGX2.out (Below.mono hB9 (by have := HS.out.1; omega))) (grownBy_set _ _ _ _), Lib.hid (.inr ⟨x, by omega, HST.out.2, List.mem_of_getElem? HX.out, tl_inj hnd.symm, hbt.symm, rfl⟩)⟩
            rw [HST.out.1]
            have hg : gapOf (lastE none (r.take k)) x = [⟨x.nd, lb, ls + 1, x.sq - 1⟩] := by unfold gapOf; rw [HL0.out, ← hbt]; exact if_pos (by omega)
            rw [hg]
            exact hO9.kept (grownBy_set _ _ _ _) (fun k e => by cases e; have := HS.out; omega)
          case measure => simp [intOf]; omega
        · go_wp2_with fail
          go_roundw
          case rel =>
            refine ⟨k + 1, ln, lb, x.sq, by omega, by go_num, ?_, HTX2.out.set 2 (.int .i64 x.sq) (by simp), grown_trans HGX2.out (grownBy_set _ _ _ _), Lib.hid (.inr ⟨x, by omega, HST.out.2, List.mem_of_getElem? HX.out, tl_inj hnd.symm, hbt.symm, rfl⟩)⟩
            rw [HST.out.1]
            have hg : gapOf (lastE none (r.take k)) x = [] := by unfold gapOf; rw [HL0.out]; exact if_neg (by omega)
            rw [hg, List.append_nil]
            exact HOX2.out.kept (grownBy_set _ _ _ _) (fun k e => by cases e; have := HS.out; omega)
          case measure => simp [intOf]; omega
    · obtain rfl : k = n := by omega
      have hall : r.take k = r := List.take_of_length_le (by have := HN.out; omega)
      rw [hall] at hO
      go_wp2_with fail
      go_ret
      exact ⟨_, rfl, hO.at, Below.grown HX1.out hGr HX1.out.size (fun k hk => by cases hk; have := HS.out; omega)⟩
end Go.Proofs.Ytjdbhemojopnlaa
