/- Chapter 23: the law's own words: made, key, value. -/
import Derived.Test.YtepigkjgjlibcaaPtK
import Derived.Test.YtepigkjgjlibcaaGAQ
namespace Go.Proofs.Ytepigkjgjlibcaa
open Go.RowKit Go.Deep Go.Proofs.Ytepigkjgjlibcaa.FL
set_option maxRecDepth 100000
set_option maxHeartbeats 4000000 in
theorem made23 (x y : Nat) (hx : x < 256) (hy : y < 256) (w : World) : Calls Try.prog 8 #[.agg #[.int .u8 x, .int .u8 y]] w fun e w' => ∃ d S G, e = .returned (.pointer (some ⟨d, 0, none⟩)) ∧ Ext w w' ∧ DevAtF w' S d G (newDev (3 + x % 3) (1 + y % 8)) ∧ ∀ z, S z → w.heap.size ≤ z := by
  obtain ⟨n, hn⟩ : ∃ n, n = 3 + x % 3 := ⟨_, rfl⟩
  obtain ⟨m, hm⟩ : ∃ m, m = 1 + y % 8 := ⟨_, rfl⟩
  have en : (3 : Int) + (x : Int) % 3 = (n : Nat) := by omega
  have em : (1 : Int) + (y : Int) % 8 = (m : Nat) := by omega
  have HN := Lib.hid (fun w => devnew_any n m (by omega) (by omega) w)
  have HNM := Lib.hid (And.intro hn hm)
  clear hn hm
  go_enter Try.func8, Try.ntmps8
  go_wp2_with (go_at_call 20; refine (HN.out _).mono ?_; rintro e w1 ⟨d, S, G, rfl, hx1, hd1, hs1⟩; have HX1 := Lib.hid hx1; have HD1 := Lib.hid hd1; have HS1 := Lib.hid hs1; clear hx1 hd1 hs1)
  go_ret
  exact ⟨d, S, G, rfl, Ext.trans ((Ext.refl w).alloc _) HX1.out, by rw [← HNM.out.1, ← HNM.out.2]; exact HD1.out, fun z hz => Nat.le_trans ((Ext.refl w).alloc _).size (HS1.out z hz)⟩
def keyF (k : Nat) : Bs := if k % 16 = 13 then [] else if k % 16 = 14 then List.replicate 2048 0 else if k % 16 = 15 then List.replicate 2049 0 else [107, 101, 121, UInt8.ofNat (97 + k % 16)]
theorem made_bs (w : World) (n : Nat) : BS (w.alloc (.cells (madeCells #[.int .u8 0] n) 5)) (.slice (some ⟨w.heap.size, 0, none⟩) n n) (List.replicate n 0) := by
  have h := bs_laid w (List.replicate n 0)
  rw [List.length_replicate] at h
  have e : (by8 (List.replicate n 0)).toArray = madeCells #[.int .u8 0] n := by
    apply Array.toList_inj.1
    rw [List.toList_toArray, toList_madeCells_one]
    unfold by8
    rw [List.map_replicate]
    rfl
  rw [e] at h
  exact h
theorem make_u8 (n : Nat) (hn : n ≤ 1000000) (W : World) : (Instr.makeSlice 42 (.int .i64 n) (.int .i64 n)).run Try.prog W = .ok (.slice (some ⟨W.heap.size, 0, none⟩) n n) (W.alloc (.cells (madeCells #[.int .u8 0] n) 5)) :=
  run_make_row' (P := Try.prog) 42 5 (.int .u8 0) 1 Try.underlying42 (by kernel_rfl) rfl .i64 .i64 n (by omega) (by omega) W
set_option maxHeartbeats 4000000 in
theorem key23 (k : Nat) (hk : k < 256) (w : World) : Calls Try.prog 11 #[.int .u8 k] w fun e w' => e = .returned (.string (st (keyF k))) ∧ Ext w w' := by
  obtain ⟨r, hr⟩ : ∃ r, r = k % 16 := ⟨_, rfl⟩
  have er : (k : Int) % 16 = (r : Nat) := by omega
  have hr16 : r < 16 := by omega
  have HF := Lib.hid (show keyF k = if r = 13 then [] else if r = 14 then List.replicate 2048 0 else if r = 15 then List.replicate 2049 0 else [107, 101, 121, UInt8.ofNat (97 + r)] by unfold keyF; rw [hr])
  clear hr
  by_cases h13 : r = 13
  · subst h13
    go_enter Try.func11, Try.ntmps11
    go_wp2_with fail
    go_ret
    rw [HF.out]
    exact ⟨rfl, Ext.refl _⟩
  · by_cases h14 : r = 14
    · subst h14
      have hmk : ∀ W : World, (Instr.makeSlice 42 (.int .i64 2048) (.int .i64 2048)).run Try.prog W = .ok (.slice (some ⟨W.heap.size, 0, none⟩) 2048 2048) (W.alloc (.cells (madeCells #[.int .u8 0] 2048) 5)) := fun W => make_u8 2048 (by omega) W
      obtain ⟨wm, hwm⟩ : ∃ x, x = w.alloc (.cells (madeCells #[.int .u8 0] 2048) 5) := ⟨_, rfl⟩
      have hb := made_bs w 2048
      rw [← hwm] at hb
      have hcv := conv_st (n := 2048) hb (by rw [List.length_replicate]; exact Nat.le_refl _)
      rw [List.take_of_length_le (by rw [List.length_replicate]; exact Nat.le_refl _)] at hcv
      have HX := Lib.hid (show Ext w wm by rw [hwm]; exact (Ext.refl w).alloc _)
      obtain ⟨z, hz⟩ : ∃ z, z = st (List.replicate 2048 0) := ⟨_, rfl⟩
      rw [← hz] at hcv
      have HZ := Lib.hid hz
      have hmk2 := hmk w
      rw [← hwm] at hmk2
      clear hb hwm hz hmk
      go_enter Try.func11, Try.ntmps11
      go_wp2_with fail
      go_ret
      rw [HF.out, HZ.out]
      exact ⟨rfl, HX.out⟩
    · by_cases h15 : r = 15
      · subst h15
        have hmk : ∀ W : World, (Instr.makeSlice 42 (.int .i64 2049) (.int .i64 2049)).run Try.prog W = .ok (.slice (some ⟨W.heap.size, 0, none⟩) 2049 2049) (W.alloc (.cells (madeCells #[.int .u8 0] 2049) 5)) := fun W => make_u8 2049 (by omega) W
        obtain ⟨wm, hwm⟩ : ∃ x, x = w.alloc (.cells (madeCells #[.int .u8 0] 2049) 5) := ⟨_, rfl⟩
        have hb := made_bs w 2049
        rw [← hwm] at hb
        have hcv := conv_st (n := 2049) hb (by rw [List.length_replicate]; exact Nat.le_refl _)
        rw [List.take_of_length_le (by rw [List.length_replicate]; exact Nat.le_refl _)] at hcv
        have HX := Lib.hid (show Ext w wm by rw [hwm]; exact (Ext.refl w).alloc _)
        obtain ⟨z, hz⟩ : ∃ z, z = st (List.replicate 2049 0) := ⟨_, rfl⟩
        rw [← hz] at hcv
        have HZ := Lib.hid hz
        have hmk2 := hmk w
        rw [← hwm] at hmk2
        clear hb hwm hz hmk
        go_enter Try.func11, Try.ntmps11
        go_wp2_with fail
        go_ret
        rw [HF.out, HZ.out]
        exact ⟨rfl, HX.out⟩
      · have i13 : ¬ (r : Int) = 13 := by omega
        have i14 : ¬ (r : Int) = 14 := by omega
        have i15 : ¬ (r : Int) = 15 := by omega
        obtain ⟨c, hc⟩ : ∃ c, c = 97 + r := ⟨_, rfl⟩
        have ec : (97 : Int) + (r : Int) = (c : Nat) := by omega
        have hc9 : c < 256 := by omega
        obtain ⟨wm, hwm⟩ : ∃ x, x = w.alloc (.cells #[.int .u8 c] 5) := ⟨_, rfl⟩
        have hb := bs_laid w [UInt8.ofNat c]
        have e1 : (by8 [UInt8.ofNat c]).toArray = #[.int .u8 c] := by unfold by8; simp; omega
        rw [e1, ← hwm] at hb
        have hcv := conv_st (n := 1) hb (by simp)
        rw [show ([UInt8.ofNat c] : Bs).take 1 = [UInt8.ofNat c] from rfl, hwm] at hcv
        simp only [List.length_singleton] at hcv
        have HX := Lib.hid (show Ext w wm by rw [hwm]; exact (Ext.refl w).alloc _)
        obtain ⟨z, hz⟩ : ∃ z, z = st [UInt8.ofNat c] := ⟨_, rfl⟩
        have hzs : z.size = 1 := by rw [hz]; rfl
        rw [← hz] at hcv
        have HZ := Lib.hid (And.intro hz hc)
        clear hb hz hc hwm
        go_enter Try.func11, Try.ntmps11
        go_wp2_with fail
        go_ret
        rw [HF.out, if_neg h13, if_neg h14, if_neg h15, HZ.out.1, HZ.out.2]
        exact ⟨rfl, (Ext.refl w).alloc _⟩
def valueF (fill many : Nat) : Bs := (List.range (many % 4000)).map fun i => UInt8.ofNat (fill + i / 7)
def valTo (fill n k : Nat) : Bs := (List.range n).map fun i => if i < k then UInt8.ofNat (fill + i / 7) else 0
theorem valTo_zero (fill n : Nat) : valTo fill n 0 = List.replicate n 0 := by
  unfold valTo
  rw [List.eq_replicate_iff]
  simp
theorem valTo_all (fill n : Nat) : valTo fill n n = (List.range n).map fun i => UInt8.ofNat (fill + i / 7) := by
  unfold valTo
  refine List.map_congr_left (fun i hi => ?_)
  rw [List.mem_range] at hi
  rw [if_pos hi]
theorem valTo_succ {fill n k : Nat} (hk : k < n) : valTo fill n (k + 1) = (valTo fill n k).set k (UInt8.ofNat (fill + k / 7)) := by
  unfold valTo
  refine List.ext_getElem? (fun i => ?_)
  rw [List.getElem?_map, List.getElem?_set, List.getElem?_map]
  by_cases hi : i < n
  · rw [List.getElem?_range hi]
    by_cases hik : k = i
    · subst hik; simp [hi]
    · rw [if_neg hik]
      simp only [Option.map_some]
      by_cases h1 : i < k
      · rw [if_pos h1, if_pos (by omega)]
      · rw [if_neg h1, if_neg (by omega)]
  · rw [List.getElem?_eq_none (by simp; omega)]
    simp
    omega
theorem valTo_len (fill n k : Nat) : (valTo fill n k).length = n := by unfold valTo; simp
theorem by8_set (l : Bs) (k : Nat) (b : UInt8) : by8 (l.set k b) = (by8 l).set k (.int .u8 b.toNat) := by unfold by8; rw [List.map_set]
set_option maxHeartbeats 4000000 in
theorem value23 (a b c m : Nat) (hm : m < 65536) (w : World) : Calls Try.prog 14 #[.agg #[.int .u8 a, .int .u8 b, .int .u8 c, .int .u16 m]] w fun e w' => ∃ v, e = .returned v ∧ Ext w w' ∧ BS w' v (valueF c m) := by
  obtain ⟨n, hn⟩ : ∃ n, n = m % 4000 := ⟨_, rfl⟩
  have en : (m : Int) % 4000 = (n : Nat) := by omega
  have hn4 : n < 4000 := by omega
  have hmk := fun W => make_u8 n (by omega) W
  have HN := Lib.hid hn
  clear hn
  go_enter Try.func14, Try.ntmps14
  go_upto_region 2 with fail
  obtain ⟨wb, hwb⟩ : ∃ x, x = w.alloc (.cells #[.int .u8 a, .int .u8 b, .int .u8 c, .int .u16 m] 36) := ⟨_, rfl⟩
  have hbs : wb.heap.size = w.heap.size + 1 := by rw [hwb]; simp
  rw [← hwb, ← hbs]
  obtain ⟨wm, hwm⟩ : ∃ x, x = wb.alloc (.cells (madeCells #[.int .u8 0] n) 5) := ⟨_, rfl⟩
  rw [← hwm]
  have HXB := Lib.hid (show Ext w wb by rw [hwb]; exact (Ext.refl w).alloc _)
  have HXM := Lib.hid (show Ext wb wm by rw [hwm]; exact (Ext.refl wb).alloc _)
  have HRB := Lib.hid (show RowB wb w.heap.size 36 [.int .u8 a, .int .u8 b, .int .u8 c, .int .u16 m] by rw [hwb]; exact row_laid w _ _)
  have HOB := Lib.hid (show OB wm wb.heap.size (.slice (some ⟨wb.heap.size, 0, none⟩) n n) (valTo c n 0) by
    rw [valTo_zero]
    refine ob_of_heap (Nat.le_refl _) (xs := by8 (List.replicate n 0)) ?_ rfl (by simp) (by omega)
    rw [hwm, heap_alloc_new]
    congr 2
    apply Array.toList_inj.1
    rw [List.toList_toArray, toList_madeCells_one]
    unfold by8
    rw [List.map_replicate]
    rfl)
  obtain ⟨g, hg⟩ : ∃ g, g = wb.heap.size := ⟨_, rfl⟩
  obtain ⟨g0, hg0⟩ : ∃ g, g = w.heap.size := ⟨_, rfl⟩
  rw [← hg] at HOB
  rw [← hg0] at HRB
  rw [← hg, ← hg0]
  have HGG := Lib.hid (show g0 ≠ g ∧ w.heap.size ≤ g by rw [hg, hg0, hbs]; omega)
  clear hwm hwb hbs hmk hg hg0
  go_wp2_with fail
  go_loopw [12] (fun i wr => ∃ k : Nat, i = .int .i64 k ∧ k ≤ n ∧ Hid (Ext w wr ∧ OB wr g (.slice (some ⟨g, 0, none⟩) n n) (valTo c n k) ∧ RowB wr g0 36 [.int .u8 a, .int .u8 b, .int .u8 c, .int .u16 m])) (fun i _ => n - (intOf i).toNat)
  case atStart => exact ⟨0, rfl, by omega, Lib.hid ⟨HXB.out.trans HXM.out, HOB.out, HRB.out.ext HXM.out⟩⟩
  case round =>
    obtain ⟨k, rfl, hk, hW⟩ := hrel
    by_cases hkn : k < n
    · have hki : (k : Int) < (n : Int) := by omega
      have c2 := hW.out.2.2.cell (j := 2) rfl
      have eq1 : (k : Int).tdiv 7 = ((k / 7 : Nat) : Int) := by rw [Int.ofNat_tdiv]; rfl
      obtain ⟨q, hq⟩ : ∃ q, q = k / 7 := ⟨_, rfl⟩
      rw [← hq] at eq1
      obtain ⟨z, hz⟩ : ∃ c, wr.cell? ⟨g, k, none⟩ = some c := by
        obtain ⟨g', o, e, h1⟩ := hW.out.2.1.bs.at k (by rw [valTo_len]; exact hkn)
        cases e
        rw [Nat.zero_add] at h1
        exact ⟨_, h1⟩
      have hf := hW.out.2.1.froz k
      have HQ := Lib.hid hq
      clear hq
      go_wp2_with fail
      have ev : ((c : Int) + wrap64 (q : Int)) % 256 = ((UInt8.ofNat (c + k / 7)).toNat : Int) := by
        have h1 := HQ.out
        have e1 : wrap64 (q : Int) = (q : Int) := by unfold wrap64; omega
        rw [e1, ← h1]
        simp
      rw [ev]
      refine ⟨⟨k + 1, by go_num, by omega, Lib.hid ⟨hW.out.1.setCell (p := ⟨g, k, none⟩) HGG.out.2 _, ?_, hW.out.2.2.kept (Go.Deep.blk_setCell_other wr ⟨g, k, none⟩ _ g0 HGG.out.1)⟩⟩, by simp [intOf]; omega⟩
      rw [valTo_succ hkn]
      exact hW.out.2.1.set k _
    · have hki : (n : Int) ≤ (k : Int) := by omega
      obtain rfl : k = n := by omega
      go_wp2_with fail
      go_ret
      refine ⟨_, rfl, hW.out.1, ?_⟩
      have h1 := hW.out.2.1.bs
      rw [valTo_all] at h1
      unfold valueF
      rw [← HN.out]
      exact h1
end Go.Proofs.Ytepigkjgjlibcaa
