/- Chapter 18: the hash of a key and its place (whatever the sketch holds); a sketch of width 256 to which nothing was added: New, Add. -/
import Derived.Test.YtfgjbbpkkbohhaaGreatSfQ
import Derived.Test.YtfgjbbpkkbohhaaGreatAnyE
import Derived.Laws.Bits64
import Derived.Laws.Closers25b
import Derived.Deep.OwnRows
namespace Go.Proofs.YtfgjbbpkkbohhaaGreat
open Go.RowKit Go.Deep
/-- a round over the seed -/
def stA (p : Int × Int) : Int × Int := (p.1 / 256, IntKind.u64.wrap (bits .xor .u64 p.2 (bits .and .u64 p.1 255) * 1099511628211))
def hA (p : Int × Int) : Nat → Int × Int | 0 => p | k + 1 => stA (hA p k)
/-- a round over a byte -/
def stB (y : Int) (b : UInt8) : Int := IntKind.u64.wrap (bits .xor .u64 y (IntKind.u64.wrap b.toNat) * 1099511628211)
def hB (l : List UInt8) (y : Int) : Int := l.foldl stB y
def hashF (x : Int) (s : ByteArray) : Int := bits .xor .u64 (hB s.data.toList (hA (x, 14695981039346656037) 8).2) (hB s.data.toList (hA (x, 14695981039346656037) 8).2 / 4294967296)
theorem u64_in (x : Int) : 0 ≤ IntKind.u64.wrap x ∧ IntKind.u64.wrap x ≤ 18446744073709551615 := by rw [IntKind.wrap_u64]; omega
theorem bits_in (o : BinOp) (a b : Int) : 0 ≤ bits o .u64 a b ∧ bits o .u64 a b ≤ 18446744073709551615 := bits_within o .u64 a b
theorem hA_in {p : Int × Int} (h : (0 ≤ p.1 ∧ p.1 ≤ 18446744073709551615) ∧ 0 ≤ p.2 ∧ p.2 ≤ 18446744073709551615) : ∀ k, (0 ≤ (hA p k).1 ∧ (hA p k).1 ≤ 18446744073709551615) ∧ 0 ≤ (hA p k).2 ∧ (hA p k).2 ≤ 18446744073709551615
  | 0 => h
  | k + 1 => by
    have ih := hA_in h k
    refine ⟨?_, u64_in _⟩
    show 0 ≤ (hA p k).1 / 256 ∧ (hA p k).1 / 256 ≤ _
    omega
theorem hB_in : ∀ (l : List UInt8) (y : Int), 0 ≤ y ∧ y ≤ 18446744073709551615 → 0 ≤ hB l y ∧ hB l y ≤ 18446744073709551615
  | [], _, h => h
  | b :: l, y, _ => hB_in l (stB y b) (u64_in _)
theorem hB_snoc (s : ByteArray) (y : Int) (j : Nat) (hj : j < s.size) : hB (s.data.toList.take (j + 1)) y = stB (hB (s.data.toList.take j) y) s[j] := by
  unfold hB
  rw [List.take_succ_eq_append_getElem (by simpa using hj), List.foldl_append]
  rfl
theorem hash_in (x : Int) (s : ByteArray) : 0 ≤ hashF x s ∧ hashF x s ≤ 18446744073709551615 := bits_in _ _ _
set_option maxRecDepth 100000 in
theorem hash_any (x : Int) (hx : 0 ≤ x ∧ x ≤ 18446744073709551615) (s : ByteArray) (hs : s.size ≤ 9223372036854775807) (w : World) :
    Calls Tryz.prog 140 #[.int .u64 x, .string s] w fun e w' => e = .returned (.int .u64 (hashF x s)) ∧ w = w' := by
  have HIN := Lib.hid (hA_in (p := (x, 14695981039346656037)) ⟨hx, (by decide : (0 : Int) ≤ 14695981039346656037), (by decide : (14695981039346656037 : Int) ≤ 18446744073709551615)⟩)
  go_enter Tryz.func140, Tryz.ntmps140
  go_wp2
  go_loop [0, 5, 7] (fun a b i => ∃ k : Nat, k ≤ 8 ∧ i = .int .i64 k ∧ a = .int .u64 (hA (x, 14695981039346656037) k).1 ∧ b = .int .u64 (hA (x, 14695981039346656037) k).2) (fun _ _ i => 8 - (intOf i).toNat)
  case atStart => exact ⟨0, by omega, rfl, rfl, rfl⟩
  case round =>
    obtain ⟨k, hk, rfl, rfl, rfl⟩ := hrel
    have hin := HIN.out k
    by_cases hlt : k < 8
    · have hki : (k : Int) < 8 := by omega
      obtain ⟨p, hp⟩ : ∃ p, hA (x, 14695981039346656037) k = p := ⟨_, rfl⟩
      have HP := Lib.hid hp
      rw [hp] at hin ⊢
      clear hp
      have b1 := hin.1.1
      have b2 := hin.1.2
      have b3 := hin.2.1
      have b4 := hin.2.2
      clear hin
      go_wp2_with fail
      go_round
      case rel => exact ⟨k + 1, by omega, by go_num, by show _ = Value.int .u64 (stA (hA (x, 14695981039346656037) k)).1; rw [HP.out]; rfl, by show _ = Value.int .u64 (stA (hA (x, 14695981039346656037) k)).2; rw [HP.out]; rfl⟩
      case measure => simp [intOf]; omega
    · obtain rfl : k = 8 := by omega
      obtain ⟨y, hy⟩ : ∃ y, (hA (x, 14695981039346656037) 8).2 = y := ⟨_, rfl⟩
      have HY := Lib.hid hy
      have hin2 : 0 ≤ y ∧ y ≤ 18446744073709551615 := by rw [← hy]; exact hin.2
      have HHB := Lib.hid (fun l => hB_in l y hin2)
      rw [hy]
      clear hin hy hin2
      go_wp2_with fail
      go_loop [5, 19] (fun b i => ∃ j : Nat, j ≤ s.size ∧ i = .int .i64 j ∧ b = .int .u64 (hB (s.data.toList.take j) y)) (fun _ i => s.size - (intOf i).toNat)
      case atStart => exact ⟨0, by omega, rfl, by simp [hB]⟩
      case round =>
        obtain ⟨j, hj, rfl, rfl⟩ := hrel
        have hin := HHB.out (s.data.toList.take j)
        by_cases hlj : j < s.size
        · have hji : (j : Int) < (s.size : Int) := by omega
          have HSN := Lib.hid (hB_snoc s y j hlj)
          obtain ⟨z, hz⟩ : ∃ z, hB (s.data.toList.take j) y = z := ⟨_, rfl⟩
          rw [hz] at hin HSN ⊢
          have b1 := hin.1
          have b2 := hin.2
          clear hin hz
          go_wp2_with fail
          go_round
          case rel => exact ⟨j + 1, by omega, by go_num, by rw [HSN.out, stB]⟩
          case measure => simp [intOf]; omega
        · obtain rfl : j = s.size := by omega
          have htk : s.data.toList.take s.size = s.data.toList := List.take_of_length_le (by rw [Array.length_toList]; exact Nat.le_refl _)
          rw [htk] at hin ⊢
          have HZ := Lib.hid (show hB s.data.toList (hA (x, 14695981039346656037) 8).2 = hB s.data.toList y by rw [HY.out])
          obtain ⟨z, hz⟩ : ∃ z, hB s.data.toList y = z := ⟨_, rfl⟩
          rw [hz] at hin HZ ⊢
          have b1 := hin.1
          have b2 := hin.2
          clear hin hz htk
          go_wp2_with fail
          go_ret
          refine ⟨?_, rfl⟩
          show Ending.returned (.int .u64 (bits .xor .u64 z (z / 4294967296))) = _
          unfold hashF
          rw [HZ.out]
/-- the sketch's fields, but for its door and counters: width 256 -/
def placeF (row : Int) (key : ByteArray) : Nat := (hashF row key % 256).toNat
theorem place_lt (row : Int) (key : ByteArray) : placeF row key < 256 := by unfold placeF; omega
set_option maxRecDepth 100000 in
theorem place_any {w : World} {k : Nat} (h : w.cell? ⟨k, 0, none⟩ = some (.int .i64 256)) (row : Nat) (hr : row ≤ 4) (key : ByteArray) (hs : key.size ≤ 9223372036854775807) :
    Calls Tryz.prog 101 #[.pointer (some ⟨k, 0, none⟩), .int .i64 row, .string key] w fun e w' => e = .returned (.int .i64 (placeF row key : Nat)) ∧ Ext w w' := by
  have c0 := fun n : Wd w => n.ext.cell h
  have HH := Lib.hid (fun W => hash_any (row : Int) (by omega) key hs W)
  obtain ⟨z, hz⟩ : ∃ z, hashF row key = z := ⟨_, rfl⟩
  have hin := hash_in row key
  have HP := Lib.hid (show ((placeF row key : Nat) : Int) = z % 256 by unfold placeF; rw [hz] ; omega)
  rw [hz] at HH hin
  have b1 := hin.1
  have b2 := hin.2
  have hrw : IntKind.u64.wrap (row : Int) = row := by rw [IntKind.wrap_u64]; omega
  clear h hz hin
  go_enter Tryz.func101, Tryz.ntmps101
  go_upto_region 1 with fail
  refine wp_region_wd (by kernel_rfl) (by kernel_rfl) ?_
  repeat (go_big_quiet_step ((go_at_call 140; exact Calls.wd_of_same (HH.out _))))
  refine wpQuiet_nil ?_
  rintro _ ⟨nq, rfl⟩
  go_wp2_with fail
  go_ret
  exact ⟨ret_int (by rw [HP.out]), nq.ext⟩
/-- a sketch of width 256 to which nothing was added -/
def SkAt (w : World) (k d : Nat) : Prop := ∃ c0 c1 c2 c3, RowB w k 188 [.int .i64 256, c0, c1, c2, c3, .slice (some ⟨d, 0, none⟩) 256 256, .int .i64 0] ∧ w.rowIs d 4 256 (fun _ => .bool false)
theorem SkAt.keep {w w' : World} {k d : Nat} (h : SkAt w k d) (hk : w'.heap[k]? = w.heap[k]?) (hd : w'.heap[d]? = w.heap[d]?) : SkAt w' k d := by
  obtain ⟨c0, c1, c2, c3, h1, h2⟩ := h
  exact ⟨c0, c1, c2, c3, h1.kept hk, h2.of_block hd⟩
theorem SkAt.lt {w : World} {k d : Nat} (h : SkAt w k d) : k < w.heap.size ∧ d < w.heap.size := by
  obtain ⟨c0, c1, c2, c3, h1, h2⟩ := h
  exact ⟨h1.lt, h2.lt⟩
theorem SkAt.ext {w w' : World} {k d : Nat} (h : SkAt w k d) (hx : Ext w w') : SkAt w' k d := h.keep (Below.block hx k h.lt.1) (Below.block hx d h.lt.2)
theorem SkAt.mod {F : Nat → Prop} {w w' : World} {k d : Nat} (h : SkAt w k d) (hm : Mod F w w') (hk : ¬ F k) (hd : ¬ F d) : SkAt w' k d := h.keep (hm.block k h.lt.1 hk) (hm.block d h.lt.2 hd)
set_option maxRecDepth 100000 in
theorem snew_any (w : World) : Calls Tryz.prog 63 #[.int .i64 256] w fun e w' => (∃ k d, e = .returned (.tuple #[.pointer (some ⟨k, 0, none⟩), .nilIface]) ∧ Hid (SkAt w' k d ∧ w.heap.size ≤ k ∧ w.heap.size ≤ d)) ∧ Ext w w' := by
  have hb : (bits .and .i64 256 255 != 0) = false := by kernel_rfl
  have hm1 : ∀ W : World, (Instr.makeSlice 127 (.int .i64 256) (.int .i64 256)).run Tryz.prog W = .ok (.slice (some ⟨W.heap.size, 0, none⟩) 256 256) (W.alloc (.cells (madeCells #[.bool false] 256) 4)) := fun W => run_make_row' (P := Tryz.prog) 127 4 (.bool false) 1 Tryz.underlying127 (by kernel_rfl) rfl .i64 .i64 256 (by omega) (by omega) W
  have hm2 : ∀ W : World, (Instr.makeSlice 36 (.int .i64 256) (.int .i64 256)).run Tryz.prog W = .ok (.slice (some ⟨W.heap.size, 0, none⟩) 256 256) (W.alloc (.cells (madeCells #[.int .u8 0] 256) 5)) := fun W => run_make_row' (P := Tryz.prog) 36 5 (.int .u8 0) 1 Tryz.underlying36 (by kernel_rfl) rfl .i64 .i64 256 (by omega) (by omega) W
  have hd := World.rowIs_made w (.bool false) 256 4
  obtain ⟨M, hM⟩ : ∃ M, madeCells #[Value.bool false] 256 = M := ⟨_, rfl⟩
  rw [hM] at hm1 hd
  have HD := Lib.hid hd
  clear hM hd
  go_enter Tryz.func63, Tryz.ntmps63
  go_wp2_with fail
  obtain ⟨w1, hw1⟩ : ∃ x, x = w.alloc (.cells M 4) := ⟨_, rfl⟩
  have hd1 : w1.rowIs w.heap.size 4 256 (fun _ => .bool false) := by rw [hw1]; exact HD.out
  have hs1 : w1.heap.size = w.heap.size + 1 := by rw [hw1]; simp
  have X1 : Ext w w1 := by rw [hw1]; exact (Ext.refl w).alloc _
  have hrow := row_laid w1 188 [.int .i64 256, .slice none 0 0, .slice none 0 0, .slice none 0 0, .slice none 0 0, .slice (some ⟨w.heap.size, 0, none⟩) 256 256, .int .i64 0]
  rw [hs1] at hrow
  have X2 : Ext w1 (w1.alloc (.cells #[.int .i64 256, .slice none 0 0, .slice none 0 0, .slice none 0 0, .slice none 0 0, .slice (some ⟨w.heap.size, 0, none⟩) 256 256, .int .i64 0] 188)) := (Ext.refl w1).alloc _
  have hd2 := hd1.of_block (Below.block X2 _ hd1.lt)
  rw [hw1] at hrow X1 X2 hd2
  have HROW := Lib.hid hrow
  have HD2 := Lib.hid hd2
  have HX2 := Lib.hid (X1.trans X2)
  clear hw1 hd1 hs1 X1 hrow X2 hd2 hm1 hb
  go_loopw [25] (fun v wr => ∃ k : Nat, k ≤ 4 ∧ v = .int .i64 k ∧ Hid ((∃ c0 c1 c2 c3, RowB wr (w.heap.size + 1) 188 [.int .i64 256, c0, c1, c2, c3, .slice (some ⟨w.heap.size, 0, none⟩) 256 256, .int .i64 0]) ∧ wr.rowIs w.heap.size 4 256 (fun _ => .bool false)) ∧ Hid (Ext w wr)) (fun v _ => 4 - (intOf v).toNat)
  case atStart => exact ⟨0, by omega, rfl, Lib.hid ⟨⟨_, _, _, _, HROW.out⟩, HD2.out⟩, HX2⟩
  case round =>
    obtain ⟨k, hk, rfl, HR, HX⟩ := hrel
    by_cases hlt : k < 4
    · have hki : (k : Int) < 4 := by omega
      have hk0 : (0 : Int) ≤ (k : Int) := by omega
      go_upto_region 7 with fail
      refine wp_region_C (C := fun _ => True) (by kernel_rfl) ?_
      refine wpAnyC_take (i := 0) (v := .pointer (some ⟨w.heap.size + 1, 0, none⟩)) rfl (by kernel_rfl) (by kernel_rfl) (by kernel_rfl) (fun _ _ _ h => h) trivial (by kernel_rfl) ?_ ?_
      · intro W hW; go_simp; try (with_reducible rfl)
      change wpAnyC _ _ _ _ _ _ _ (Act.put _ (some 28) (.pointer (some ⟨w.heap.size + 1, 0, none⟩))) _
      try simp only [Act.put, List.setIfInBounds_toArray, List.set_cons_succ, List.set_cons_zero]
      refine wpAnyC_take (i := 1) (v := .int .i64 (k : Nat)) rfl (by kernel_rfl) (by kernel_rfl) (by kernel_rfl) (fun _ _ _ h => h) trivial (by kernel_rfl) ?_ ?_
      · intro W hW; go_simp; try (with_reducible rfl)
      change wpAnyC _ _ _ _ _ _ _ (Act.put _ (some 29) (.int .i64 (k : Nat))) _
      try simp only [Act.put, List.setIfInBounds_toArray, List.set_cons_succ, List.set_cons_zero]
      refine wpAnyC_take (i := 2) (v := .int .i64 256) rfl (by kernel_rfl) (by kernel_rfl) (by kernel_rfl) (fun _ _ _ h => h) trivial (by kernel_rfl) ?_ ?_
      · intro W hW; go_simp; try (with_reducible rfl)
      change wpAnyC _ _ _ _ _ _ _ (Act.put _ (some 30) (.int .i64 256)) _
      try simp only [Act.put, List.setIfInBounds_toArray, List.set_cons_succ, List.set_cons_zero]
      refine wpAnyC_take (i := 4) (v := .pointer (some ⟨w.heap.size + 1, 0, none⟩)) rfl (by kernel_rfl) (by kernel_rfl) (by kernel_rfl) (fun _ _ _ h => h) trivial (by kernel_rfl) ?_ ?_
      · intro W hW; go_simp; try (with_reducible rfl)
      change wpAnyC _ _ _ _ _ _ _ (Act.put _ (some 32) (.pointer (some ⟨w.heap.size + 1, 0, none⟩))) _
      try simp only [Act.put, List.setIfInBounds_toArray, List.set_cons_succ, List.set_cons_zero]
      refine wpAnyC_take (i := 5) (v := .pointer (some ⟨w.heap.size + 1, 1, none⟩)) rfl (by kernel_rfl) (by kernel_rfl) (by kernel_rfl) (fun _ _ _ h => h) trivial (by kernel_rfl) ?_ ?_
      · intro W hW; go_simp; try (with_reducible rfl)
      change wpAnyC _ _ _ _ _ _ _ (Act.put _ (some 33) (.pointer (some ⟨w.heap.size + 1, 1, none⟩))) _
      try simp only [Act.put, List.setIfInBounds_toArray, List.set_cons_succ, List.set_cons_zero]
      refine wpAnyC_one 3 (by kernel_rfl) rfl (by kernel_rfl) (fun KK hKK => ?_)
      go_simp
      obtain ⟨⟨c0, c1, c2, c3, hrw⟩, hdw⟩ := HR.out
      obtain ⟨W7, hW7⟩ : ∃ x, x = (wr.alloc (.cells (madeCells #[Value.int .u8 0] 256) 5)).drew := ⟨_, rfl⟩
      have X7 : Ext wr W7 := by rw [hW7]; exact ((Ext.refl wr).alloc _).drew
      have hr7 := hrw.ext X7
      have hd7 := hdw.of_block (Below.block X7 _ hdw.lt)
      obtain ⟨u, hu⟩ : ∃ u, [Value.int .i64 256, c0, c1, c2, c3, .slice (some ⟨w.heap.size, 0, none⟩) 256 256, .int .i64 0][1 + k]? = some u := ⟨_, List.getElem?_eq_getElem (by simp; omega)⟩
      have c7 := hr7.cell hu
      have f7 := hr7.frozen (List.getElem?_eq_some_iff.1 hu).1
      have HR7 := Lib.hid hr7
      have HD7 := Lib.hid hd7
      have HX7 := Lib.hid (HX.out.trans X7)
      have HU := Lib.hid (List.getElem?_eq_some_iff.1 hu).1
      try rw [← hW7]
      clear hW7 X7 hr7 hd7 hu hrw hdw
      refine hKK _ _ trivial ?_
      clear hKK KK
      try simp only [Act.put, List.setIfInBounds_toArray, List.set_cons_succ, List.set_cons_zero]
      refine wpAnyC_take (i := 6) (v := .pointer (some ⟨w.heap.size + 1, 1 + k, none⟩)) rfl (by kernel_rfl) (by kernel_rfl) (by kernel_rfl) (fun _ _ _ h => h) trivial (by kernel_rfl) ?_ ?_
      · intro W hW; go_simp; try (with_reducible rfl)
      change wpAnyC _ _ _ _ _ _ _ (Act.put _ (some 34) (.pointer (some ⟨w.heap.size + 1, 1 + k, none⟩))) _
      try simp only [Act.put, List.setIfInBounds_toArray, List.set_cons_succ, List.set_cons_zero]
      refine wpAnyC_one 7 (by kernel_rfl) rfl (by kernel_rfl) (fun KK hKK => ?_)
      go_simp
      refine hKK _ _ trivial ?_
      clear hKK KK
      refine ⟨by kernel_rfl, ?_⟩
      go_wp2_with fail
      go_roundw
      case rel =>
        refine ⟨k + 1, by omega, by go_num, Lib.hid ⟨?_, ?_⟩, Lib.hid (HX7.out.setCell (by simp) _)⟩
        · have h := HR7.out.set (1 + k) (.slice (some ⟨wr.heap.size, 0, none⟩) 256 256) HU.out
          have hk4 : k = 0 ∨ k = 1 ∨ k = 2 ∨ k = 3 := by omega
          rcases hk4 with rfl | rfl | rfl | rfl
          · exact ⟨_, _, _, _, h⟩
          · exact ⟨_, _, _, _, h⟩
          · exact ⟨_, _, _, _, h⟩
          · exact ⟨_, _, _, _, h⟩
        · exact HD7.out.of_block (Below.heap_setCell _ _ _ _ (by simp))
      case measure => simp [intOf]; omega
    · obtain rfl : k = 4 := by omega
      go_wp2_with fail
      go_ret2
      exact ⟨⟨_, _, rfl, Lib.hid ⟨by obtain ⟨⟨c0, c1, c2, c3, h⟩, h2⟩ := HR.out; exact ⟨c0, c1, c2, c3, h, h2⟩, by omega, by omega⟩⟩, HX.out⟩
theorem row_apart {w : World} {g d n : Nat} {e f : TypeId} {xs : List Value} {F : Nat → Value} (hg : RowB w g e xs) (hd : w.rowIs d f n F) (hn : e ≠ f) : g ≠ d := by
  rintro rfl
  obtain ⟨C, fr, rest, h1, -, -⟩ := hg
  obtain ⟨c, h2, -⟩ := hd
  rw [h1] at h2
  cases h2
  exact hn rfl
set_option maxRecDepth 100000 in
theorem add_fresh {w : World} {k d : Nat} (h : SkAt w k d) (key : ByteArray) (hs : key.size ≤ 9223372036854775807) :
    Calls Tryz.prog 54 #[.pointer (some ⟨k, 0, none⟩), .string key] w fun e w' => e = .returned (.tuple #[]) ∧ Mod (fun b => b = k ∨ b = d) w w' := by
  obtain ⟨c0, c1, c2, c3, hr, hd⟩ := h
  have hne := row_apart hr hd (by decide)
  have HPL := Lib.hid (place_any (hr.cell (j := 0) rfl) 4 (by omega) key hs)
  have hlt := place_lt 4 key
  obtain ⟨p, hp⟩ : ∃ p, placeF (4 : Nat) key = p := ⟨_, rfl⟩
  rw [hp] at HPL
  have hp2 : placeF 4 key = p := hp
  rw [hp2] at hlt
  have HR := Lib.hid hr
  have HD := Lib.hid hd
  have HNE := Lib.hid hne
  clear hp hp2 hr hd hne
  have hpi : (p : Int) < 256 := by omega
  go_enter Tryz.func54, Tryz.ntmps54
  go_upto_region 2 with (go_at_call 101; refine HPL.out.mono ?_; rintro e w1 ⟨rfl, hx1⟩)
  have HR1 := Lib.hid (HR.out.ext hx1)
  have hd1 := HD.out.of_block (Below.block hx1 _ HD.out.lt)
  have HD1 := Lib.hid hd1
  have HX1 := Lib.hid hx1
  have z5 := HR1.out.cell (j := 5) rfl
  have y0 := hd1.cell hlt
  have y1 := hd1.frozen p
  have z6 := HR1.out.cell (j := 6) rfl
  have f6 := HR1.out.frozen (j := 6) (by simp)
  have n6 : k ≠ d := HNE.out
  clear hd1 hx1
  go_upto_region 13 with fail
  obtain ⟨w2, hw2⟩ : ∃ x, x = w1.setCell ⟨d, p, none⟩ (.bool true) := ⟨_, rfl⟩
  have M2 : Mod (fun b => b = d) w1 w2 := by rw [hw2]; exact Mod.setCell (Mod.refl (fun b => b = d) w1) (p := ⟨d, p, none⟩) (.inl rfl) _
  have HR2 := Lib.hid (M2.rowB HR1.out HNE.out)
  have HM2 := Lib.hid M2
  have y6 := HR2.out.cell (j := 6) rfl
  have g6 := HR2.out.frozen (j := 6) (by simp)
  try rw [← hw2]
  clear hw2 M2 z5 y0 y1 z6 f6 n6
  go_upto_region 14 with fail
  have HR3 := Lib.hid (HR2.out.set 6 (.int .i64 1) (by simp))
  have M3 : Mod (fun b => b = k ∨ b = d) w (w2.setCell ⟨k, 6, none⟩ (.int .i64 1)) :=
    Mod.setCell (((Mod.of_ext _ HX1.out)).trans (HM2.out.mono (fun b _ h => .inr h))) (.inl (.inl rfl)) _
  obtain ⟨w3, hw3⟩ : ∃ x, x = w2.setCell ⟨k, 6, none⟩ (.int .i64 1) := ⟨_, rfl⟩
  rw [← hw3] at HR3 M3
  have HM3 := Lib.hid M3
  try rw [← hw3]
  have e6 := fun q => ((Ext.refl w3).drewN q).cell (HR3.out.cell (j := 6) rfl)
  have e0 := fun q => ((Ext.refl w3).drewN q).cell (HR3.out.cell (j := 0) rfl)
  clear hw3 M3 y6 g6
  refine wp_region_quiet_lit (by kernel_rfl) (by kernel_rfl) ?_
  repeat (go_big_quiet_step (fail))
  refine wpQuiet_nil ?_
  rintro _ ⟨nq, rfl⟩
  go_wp2_with fail
  exact bodyPost_ret (results_none rfl _ _ _) rfl ⟨rfl, HM3.out.drewN nq⟩
end Go.Proofs.YtfgjbbpkkbohhaaGreat
