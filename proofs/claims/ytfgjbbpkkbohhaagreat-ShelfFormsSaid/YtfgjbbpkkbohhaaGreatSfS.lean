/- Chapter 24 without a device: a shelf that holds at most one object: New, find, flash, erase, right. -/
import Derived.Test.YtfgjbbpkkbohhaaGreatSfK
import Derived.Test.YtfgjbbpkkbohhaaGreatPd6
namespace Go.Proofs.YtfgjbbpkkbohhaaGreat
open Go.RowKit Go.Deep
theorem BodyAt.mod {F A : Nat → Prop} {w w' : World} {B b l len : Nat} {tag : ByteArray} {D : Nat → Option ByteArray} (h : BodyAt w B A b l tag len D) (hm : Mod F w w') (hF : ∀ k, F k → A k ∨ k < B) : BodyAt w' B A b l tag len D := by
  obtain ⟨f, hf, hp⟩ := h.row
  have no : ∀ k, B ≤ k → ¬ A k → ¬ F k := fun k h1 h2 h3 => by rcases hF k h3 with h | h <;> first | exact h2 h | omega
  have hb := no b h.hb h.av.1
  have hl := no l h.hl h.av.2
  refine ⟨h.hb, h.hl, h.ne, h.av, hm.cell h.c0 hb, hm.cell h.c1 hb, hm.cell h.c2 hb, f, hf.of_block (hm.block l hf.lt hl), fun i hi => ?_⟩
  have hpi := hp i hi
  cases hD : D i with
  | none => rw [hD] at hpi; exact hpi
  | some s =>
    rw [hD] at hpi
    obtain ⟨g, cap, h1, h2, h3, h4, h5, h6⟩ := hpi
    exact ⟨g, cap, h1, h2, h3, h4, Nat.lt_of_lt_of_le h5 hm.size, fun j hj => hm.cell (h6 j hj) (no g h3.1 h3.2)⟩
/-- a shelf without a device: its queue, map and sketch -/
structure ShAt (w : World) (B s mp q k d : Nat) (r : Option Nat) (C : Int) (R : Option (ByteArray × Int)) (l : List (ByteArray × Value)) : Prop where
  row : RowB w s 99 [.pointer (some ⟨q, 0, none⟩), .map (some mp), .pointer none, .pointer (some ⟨k, 0, none⟩)]
  q : QAt w B q r C R
  m : MsAt w mp l
  sk : SkAt w k d
theorem ShAt.keep {w w' : World} {B s mp q k d : Nat} {r : Option Nat} {C : Int} {R : Option (ByteArray × Int)} {l : List (ByteArray × Value)} {F : Nat → Prop} (h : ShAt w B s mp q k d r C R l) (hm : Mod F w w')
    (h1 : ¬ F s) (h2 : ¬ F mp) (h3 : ¬ F q) (h4 : ¬ F k) (h5 : ¬ F d) (h6 : ∀ g, r = some g → ¬ F g) : ShAt w' B s mp q k d r C R l :=
  ⟨hm.rowB h.row h1, h.q.mod hm h3 h6, h.m.mod hm h2, h.sk.mod hm h4 h5⟩
theorem ShAt.ext {w w' : World} {B s mp q k d : Nat} {r : Option Nat} {C : Int} {R : Option (ByteArray × Int)} {l : List (ByteArray × Value)} (h : ShAt w B s mp q k d r C R l) (hx : Ext w w') : ShAt w' B s mp q k d r C R l :=
  ⟨h.row.ext hx, h.q.ext hx, h.m.ext hx, h.sk.ext hx⟩
set_option maxRecDepth 100000 in
theorem made_ok (C : Int) (h : 1 ≤ C) (h' : C ≤ 1099511627776) (w : World) :
    Calls Tryz.prog 41 #[.int .i64 C] w fun e w' => (∃ s mp q k d, e = .returned (.tuple #[.pointer (some ⟨s, 0, none⟩), .nilIface]) ∧ Hid (ShAt w' w.heap.size s mp q k d none C none [] ∧ (w.heap.size ≤ s ∧ w.heap.size ≤ mp ∧ w.heap.size ≤ q ∧ w.heap.size ≤ k ∧ w.heap.size ≤ d))) ∧ Ext w w' := by
  have HQ := Lib.hid (qnew_ok C h h' w)
  have HK := Lib.hid (fun W => snew_any W)
  have hmm := @run_makeMap Tryz.prog
  go_enter Tryz.func41, Tryz.ntmps41
  go_wp2_with (first
    | (go_at_call 34; refine HQ.out.mono ?_; rintro e w1 ⟨rfl, hx1, hq1⟩)
    | (go_at_call 63; refine (HK.out _).mono ?_; rintro e w2 ⟨⟨k, d, rfl, hk⟩, hx2⟩))
  go_ret2
  have hs2 := Nat.le_trans hx1.size hx2.size
  have hrow := row_laid (w2.alloc (.map #[] 0)) 99 [.pointer (some ⟨w.heap.size, 0, none⟩), .map (some w2.heap.size), .pointer none, .pointer (some ⟨k, 0, none⟩)]
  have X : Ext w2 ((w2.alloc (.map #[] 0)).alloc (.cells #[.pointer (some ⟨w.heap.size, 0, none⟩), .map (some w2.heap.size), .pointer none, .pointer (some ⟨k, 0, none⟩)] 99)) := ((Ext.refl w2).alloc _).alloc _
  refine ⟨⟨w2.heap.size + 1, w2.heap.size, w.heap.size, k, d, rfl, Lib.hid ⟨⟨?_, ?_, ?_, ?_⟩, ?_⟩⟩, (hx1.trans hx2).trans X⟩
  · simpa using hrow
  · exact (hq1.ext hx2).ext X
  · exact (MsAt.made w2).ext ((Ext.refl _).alloc _)
  · exact hk.out.1.ext X
  · have := hx1.size
    have := hx2.size
    have := hk.out.2
    refine ⟨by omega, by omega, Nat.le_refl _, by omega, by omega⟩
theorem made_no (C : Int) (h : C < 1 ∨ 1099511627776 < C) (w : World) : Calls Tryz.prog 41 #[.int .i64 C] w fun e w' => e = .returned (.tuple #[.pointer none, errV 1]) ∧ w = w' := by
  have HQ := Lib.hid (qnew_no C h w)
  go_enter Tryz.func41, Tryz.ntmps41
  go_wp2_with (go_at_call 34; refine HQ.out.mono ?_; rintro e w1 ⟨rfl, rfl⟩)
  go_ret2
  exact ⟨rfl, rfl⟩
set_option maxRecDepth 100000 in
theorem new_ok24 (C : Int) (h : 1 ≤ C) (h' : C ≤ 1099511627776) (w : World) :
    Calls Tryz.prog 10 #[.int .i64 C, .pointer none] w fun e w' => (∃ s mp q k d, e = .returned (.tuple #[.pointer (some ⟨s, 0, none⟩), .nilIface]) ∧ Hid (ShAt w' w.heap.size s mp q k d none C none [] ∧ (w.heap.size ≤ s ∧ w.heap.size ≤ mp ∧ w.heap.size ≤ q ∧ w.heap.size ≤ k ∧ w.heap.size ≤ d))) ∧ Ext w w' := by
  have HM := Lib.hid (made_ok C h h' w)
  go_enter Tryz.func10, Tryz.ntmps10
  go_wp2_with (go_at_call 41; refine HM.out.mono ?_; rintro e w1 ⟨⟨s, mp, q, k, d, rfl, hk⟩, hx1⟩)
  go_ret2
  exact ⟨⟨s, mp, q, k, d, rfl, hk⟩, hx1⟩
theorem new_no24 (C : Int) (h : C < 1 ∨ 1099511627776 < C) (w : World) :
    Calls Tryz.prog 10 #[.int .i64 C, .pointer none] w fun e w' => e = .returned (.tuple #[.pointer none, errV 1]) ∧ w = w' := by
  have HM := Lib.hid (made_no C h w)
  go_enter Tryz.func10, Tryz.ntmps10
  go_wp2_with (go_at_call 41; refine HM.out.mono ?_; rintro e w1 ⟨rfl, rfl⟩)
  go_ret2
  exact ⟨rfl, rfl⟩
section
variable {w : World} {B s mp q k d : Nat} {r : Option Nat} {C : Int} {R : Option (ByteArray × Int)} {l : List (ByteArray × Value)}
theorem ShAt.log (h : ShAt w B s mp q k d r C R l) : w.cell? ⟨s, 2, none⟩ = some (.pointer none) := h.row.cell (j := 2) rfl
theorem flash_nil (h : ShAt w B s mp q k d r C R l) (key : ByteArray) : Calls Tryz.prog 51 #[.pointer (some ⟨s, 0, none⟩), .string key] w fun e w' => e = .returned (.pointer none) ∧ w = w' := by
  have c2 := h.log
  clear h
  go_enter Tryz.func51, Tryz.ntmps51
  go_wp2_with fail
  go_ret
  exact ⟨rfl, rfl⟩
theorem zero_ptr (w : World) : (zeroValue 102).run Tryz.prog w = .ok (.pointer none) w := by kernel_rfl
theorem erase_nil (h : ShAt w B s mp q k d r C R l) (key : ByteArray) : Calls Tryz.prog 50 #[.pointer (some ⟨s, 0, none⟩), .string key] w fun e w' => e = .returned (.tuple #[]) ∧ w = w' := by
  have HF := Lib.hid (flash_nil h key)
  clear h
  go_enter Tryz.func50, Tryz.ntmps50
  go_wp2_with (go_at_call 51; refine HF.out.mono ?_; rintro e w1 ⟨rfl, rfl⟩)
  go_end0
  exact ⟨rfl, rfl⟩
theorem find_no (h : ShAt w B s mp q k d r C R l) (key : ByteArray) (hk : key.size ≤ maxLen) (hn : mget l key = none) : Calls Tryz.prog 46 #[.pointer (some ⟨s, 0, none⟩), .string key] w fun e w' => e = .returned (.pointer none) ∧ w = w' := by
  have HF := Lib.hid (flash_nil h key)
  have c1 := h.row.cell (j := 1) rfl
  have HL := h.m.look Tryz.underlying97 Tryz.underlying9 key hk (zero_ptr w) false
  rw [hn] at HL
  simp only [Bool.false_eq_true, if_false] at HL
  clear h hn
  go_enter Tryz.func46, Tryz.ntmps46
  go_wp2_with (go_at_call 51; refine HF.out.mono ?_; rintro e w1 ⟨rfl, rfl⟩)
  go_ret
  exact ⟨rfl, rfl⟩
theorem find_yes (h : ShAt w B s mp q k d r C R l) (key : ByteArray) (hk : key.size ≤ maxLen) {it : Nat} (hn : mget l key = some (.pointer (some ⟨it, 0, none⟩))) : Calls Tryz.prog 46 #[.pointer (some ⟨s, 0, none⟩), .string key] w fun e w' => e = .returned (.pointer (some ⟨it, 0, none⟩)) ∧ w = w' := by
  have c1 := h.row.cell (j := 1) rfl
  have HL := h.m.look Tryz.underlying97 Tryz.underlying9 key hk (zero_ptr w) false
  rw [hn] at HL
  simp only [Bool.false_eq_true, if_false] at HL
  clear h hn
  go_enter Tryz.func46, Tryz.ntmps46
  go_wp2_with fail
  go_ret
  exact ⟨rfl, rfl⟩
end
set_option maxRecDepth 100000 in
theorem right_ok (key tag : ByteArray) (A : Option Addr) (n c : Nat) (len asof : Int) (h1 : 1 ≤ key.size ∧ key.size ≤ 2048) (h2 : n ≤ 8192) (h3 : 0 ≤ len ∧ len ≤ 65536) (h4 : 0 ≤ asof ∧ asof ≤ 1099511627776) (w : World) :
    Calls Tryz.prog 45 #[.agg #[.string key, .slice A n c, .string tag, .int .i64 len, .int .i64 asof]] w fun e w' => e = .returned .nilIface ∧ Ext w w' := by
  have a1 := h1.1
  have a2 := h1.2
  have b1 := h3.1
  have b2 := h3.2
  have d1 := h4.1
  have d2 := h4.2
  clear h1 h3 h4
  go_enter Tryz.func45, Tryz.ntmps45
  go_wp2_with fail
  go_ret
  exact ⟨rfl, (Ext.refl w).alloc _⟩
theorem QAt.apart_map {w : World} {B q mp : Nat} {r : Option Nat} {C : Int} {R : Option (ByteArray × Int)} {l : List (ByteArray × Value)} (h : QAt w B q r C R) (hm : MsAt w mp l) : q ≠ mp ∧ ∀ g, r = some g → g ≠ mp := by
  obtain ⟨v, h1, h2, h3⟩ := h
  refine ⟨fun e => hm.apart h1 e.symm, fun g hg => ?_⟩
  rintro rfl
  rcases h2.form with ⟨rfl, -⟩ | ⟨g', c, cur, rfl, -, hh, -⟩
  · rw [hg] at h3; cases h3
  · rw [hg] at h3
    simp only [Value.ownBlock, Option.some.injEq] at h3
    subst h3
    obtain ⟨es, n, hb, -⟩ := hm
    rw [hh] at hb
    cases hb
theorem QAt.apart_row {w : World} {B q s : Nat} {r : Option Nat} {C : Int} {R : Option (ByteArray × Int)} {T : TypeId} {xs : List Value} (h : QAt w B q r C R) (hs : RowB w s T xs) (h1 : T ≠ 146) (h2 : T ≠ 192) : s ≠ q ∧ ∀ g, r = some g → s ≠ g := by
  obtain ⟨v, k1, k2, k3⟩ := h
  refine ⟨hs.apart k1 h1, fun g hg => ?_⟩
  rintro rfl
  exact k2.apart hs h2 (k3.trans hg)
theorem SkAt.apart_row {w : World} {k d s : Nat} {T : TypeId} {xs : List Value} (h : SkAt w k d) (hs : RowB w s T xs) (h1 : T ≠ 188) (h2 : T ≠ 4) : s ≠ k ∧ s ≠ d := by
  obtain ⟨c0, c1, c2, c3, k1, k2⟩ := h
  exact ⟨hs.apart k1 h1, row_apart hs k2 h2⟩
theorem SkAt.apart_map {w : World} {k d mp : Nat} {l : List (ByteArray × Value)} (h : SkAt w k d) (hm : MsAt w mp l) : k ≠ mp ∧ d ≠ mp := by
  obtain ⟨c0, c1, c2, c3, k1, k2⟩ := h
  refine ⟨fun e => hm.apart k1 e.symm, ?_⟩
  rintro rfl
  obtain ⟨es, n, hb, -⟩ := hm
  obtain ⟨c, h2, -⟩ := k2
  rw [h2] at hb
  cases hb
theorem SkAt.apart_q {w : World} {B q k d : Nat} {r : Option Nat} {C : Int} {R : Option (ByteArray × Int)} (h : QAt w B q r C R) (hs : SkAt w k d) : (k ≠ q ∧ ∀ g, r = some g → k ≠ g) ∧ (d ≠ q ∧ ∀ g, r = some g → d ≠ g) := by
  obtain ⟨c0, c1, c2, c3, k1, k2⟩ := hs
  refine ⟨h.apart_row k1 (by decide) (by decide), ?_, ?_⟩
  · obtain ⟨v, j1, -, -⟩ := h
    exact fun e => row_apart j1 k2 (by decide) e.symm
  · obtain ⟨v, -, j2, j3⟩ := h
    rintro g hg rfl
    rcases j2.form with ⟨rfl, -⟩ | ⟨g', c, cur, rfl, -, hh, -⟩
    · rw [hg] at j3; cases j3
    · rw [hg] at j3
      simp only [Value.ownBlock, Option.some.injEq] at j3
      subst j3
      obtain ⟨c, h2, -⟩ := k2
      rw [h2] at hh
      cases hh
def sumR (xs : List (Nat × Nat)) : Nat := (xs.map fun x => x.2 - x.1).sum
theorem sumR_take {xs : List (Nat × Nat)} {j : Nat} {x : Nat × Nat} (h : xs[j]? = some x) : sumR (xs.take (j + 1)) = sumR (xs.take j) + (x.2 - x.1) := by
  unfold sumR
  rw [List.take_add_one, h]
  simp
theorem sumR_le (xs : List (Nat × Nat)) (j : Nat) : sumR (xs.take j) ≤ sumR xs := by
  have : sumR xs = sumR (xs.take j) + sumR (xs.drop j) := by
    conv => lhs; rw [← List.take_append_drop j xs]
    unfold sumR
    rw [List.map_append, List.sum_append]
  omega
/-- an object in memory -/
def ItemAt (w : World) (it : Nat) (key : ByteArray) (A : Option Addr) (n c : Nat) (tag : ByteArray) (len asof : Int) (b : Nat) : Prop := RowB w it 106 [.string key, .slice A n c, .string tag, .int .i64 len, .int .i64 asof, .pointer (some ⟨b, 0, none⟩)]
/-- what Held returns -/
def HeldIs (w : World) (b : Nat) (xs : List (Nat × Nat)) : Prop := ∀ W, Ext w W → Calls Tryz.prog 90 #[.pointer (some ⟨b, 0, none⟩)] W fun e w' => ∃ v B, e = .returned v ∧ Ext W w' ∧ RngOwn w' B v xs
set_option maxRecDepth 100000 in
theorem store_fits {w : World} {B s mp q k d : Nat} {r : Option Nat} {C : Int} {R : Option (ByteArray × Int)} {l : List (ByteArray × Value)} (h : ShAt w B s mp q k d r C R l) (hB : B ≤ w.heap.size) {it : Nat} {key : ByteArray} {A : Option Addr} {n c : Nat} {tag : ByteArray} {len asof : Int} {b : Nat} (hi : ItemAt w it key A n c tag len asof b)
    {xs : List (Nat × Nat)} (hh : HeldIs w b xs) (hxs : ∀ x ∈ xs, x.1 ≤ x.2 ∧ x.2 ≤ 65536) (hxl : xs.length ≤ 300) (hks : key.size ≤ maxLen) (hn : n ≤ 8192) (hk : ∀ p, R = some p → p.1 = key) (hf : ((n + 64 + sumR xs : Nat) : Int) ≤ C) (hsx : sumR xs ≤ 65536) (hC : C ≤ 1099511627776) :
    Calls Tryz.prog 47 #[.pointer (some ⟨s, 0, none⟩), .pointer (some ⟨it, 0, none⟩)] w fun e w' => e = .returned (.slice none 0 0) ∧ Mod (fun x => x = mp ∨ x = q ∨ r = some x) w w' ∧
      Hid (∃ r', ShAt w' B s mp q k d r' C (some (key, ((n + 64 + sumR xs : Nat) : Int))) (mput l key (.pointer (some ⟨it, 0, none⟩))) ∧ (r' = r ∨ ∃ g, r' = some g ∧ w.heap.size ≤ g)) := by
  have z1 := hi.cell (j := 1) rfl
  have z5 := hi.cell (j := 5) rfl
  have HS := Lib.hid h
  have HI := Lib.hid hi
  have HH := Lib.hid hh
  have HXS := Lib.hid hxs
  have HK := Lib.hid hk
  have HBS := Lib.hid hB
  have HF := Lib.hid hf
  have HSL := Lib.hid (sumR_le xs)
  clear h hi hh hxs hk hB hf
  go_enter Tryz.func47, Tryz.ntmps47
  go_upto_region 3 with (go_at_call 90; refine (HH.out _ (Ext.refl _)).mono ?_; rintro e w1 ⟨v1, B1, rfl, hx1, ho1⟩; obtain ⟨A1, cap1, rfl, hc1, hra⟩ := ho1.shape2)
  obtain ⟨m, hm⟩ : ∃ m, xs.length = m := ⟨_, rfl⟩
  have HM := Lib.hid hm
  rw [hm] at hc1 hra hxl ⊢
  have HRA := Lib.hid hra
  have HX1 := Lib.hid hx1
  clear hra hx1 ho1 hm z1 z5
  go_wp2_with fail
  go_loopw [5, 25] (fun sz i wr => ∃ j : Nat, j ≤ m ∧ i = .int .i64 j ∧ sz = .int .i64 ((n + 64 + sumR (xs.take j) : Nat) : Int) ∧ Ext w1 wr) (fun _ i _ => m - (intOf i).toNat)
  case atStart => exact ⟨0, by omega, rfl, by simp [sumR], Ext.refl _⟩
  case round =>
    obtain ⟨j, hj, rfl, rfl, hX⟩ := hrel
    by_cases hlt : j < m
    · have hji : (j : Int) < (m : Int) := by omega
      have hj6 : (j : Int) < 301 := by omega
      have hjc : j < cap1 := by omega
      obtain ⟨g, rfl, hg⟩ := HRA.out (by omega)
      obtain ⟨⟨f, t⟩, hp⟩ : ∃ p, xs[j]? = some p := ⟨_, List.getElem?_eq_getElem (by rw [HM.out]; exact hlt)⟩
      have hgg := (hg.ext hX) j (by rw [HM.out]; exact hlt)
      rw [hp] at hgg
      simp only [Option.getD_some] at hgg
      have c0 := hgg.1
      have c1 := hgg.2
      have hft := HXS.out _ (List.mem_of_getElem? hp)
      simp only at hft
      have t1 : f ≤ t := hft.1
      have t2 : t ≤ 65536 := hft.2
      have HT := Lib.hid (sumR_take hp)
      have hsl := HSL.out j
      have HXX := Lib.hid hX
      clear hp hg hgg hft hX
      obtain ⟨S, hS⟩ : ∃ S, sumR (xs.take j) = S := ⟨_, rfl⟩
      rw [hS] at HT hsl ⊢
      have hs2 : S ≤ 65536 := by omega
      clear hS hsl
      go_wp2_with fail
      go_roundw
      case rel => exact ⟨j + 1, by omega, by go_num, by rw [HT.out]; go_num, HXX.out.alloc _⟩
      case measure => simp [intOf]; omega
    · obtain rfl : j = m := by omega
      have htk : xs.take j = xs := by rw [← HM.out, List.take_length]
      rw [htk]
      have HX := Lib.hid (HX1.out.trans hX)
      clear htk hX
      go_upto_region 7 with fail
      have HC0 := Lib.hid (show RowB wr.drew s 99 [.pointer (some ⟨q, 0, none⟩), .map (some mp), .pointer none, .pointer (some ⟨k, 0, none⟩)] ∧ ItemAt wr.drew it key A n c tag len asof b from ⟨HS.out.row.ext HX.out.drew, RowB.ext HI.out HX.out.drew⟩)
      have HMS := Lib.hid (HS.out.m.ext HX.out.drew)
      refine wp_region_C (C := fun W => RowB W s 99 [.pointer (some ⟨q, 0, none⟩), .map (some mp), .pointer none, .pointer (some ⟨k, 0, none⟩)] ∧ ItemAt W it key A n c tag len asof b) (by kernel_rfl) ?_
      refine wpAnyC_take (i := 0) (v := .pointer (some ⟨s, 0, none⟩)) rfl (by kernel_rfl) (by kernel_rfl) (by kernel_rfl) (fun _ _ _ h => h) HC0.out (by kernel_rfl) ?_ ?_
      · intro W hW; go_simp; try (with_reducible rfl)
      change wpAnyC _ _ _ _ _ _ _ (Act.put _ (some 37) (.pointer (some ⟨s, 0, none⟩))) _
      try simp only [Act.put, List.setIfInBounds_toArray, List.set_cons_succ, List.set_cons_zero]
      refine wpAnyC_take (i := 1) (v := .pointer (some ⟨s, 0, none⟩)) rfl (by kernel_rfl) (by kernel_rfl) (by kernel_rfl) (fun _ _ _ h => h) HC0.out (by kernel_rfl) ?_ ?_
      · intro W hW; go_simp; try (with_reducible rfl)
      change wpAnyC _ _ _ _ _ _ _ (Act.put _ (some 38) (.pointer (some ⟨s, 0, none⟩))) _
      try simp only [Act.put, List.setIfInBounds_toArray, List.set_cons_succ, List.set_cons_zero]
      refine wpAnyC_take (i := 2) (v := .pointer (some ⟨s, 1, none⟩)) rfl (by kernel_rfl) (by kernel_rfl) (by kernel_rfl) (fun _ _ _ h => h) HC0.out (by kernel_rfl) ?_ ?_
      · intro W hW; go_simp; try (with_reducible rfl)
      change wpAnyC _ _ _ _ _ _ _ (Act.put _ (some 39) (.pointer (some ⟨s, 1, none⟩))) _
      try simp only [Act.put, List.setIfInBounds_toArray, List.set_cons_succ, List.set_cons_zero]
      refine wpAnyC_take (i := 3) (v := .map (some mp)) rfl (by kernel_rfl) (by kernel_rfl) (by kernel_rfl) (fun _ _ _ h => h) HC0.out (by kernel_rfl) ?_ ?_
      · intro W hW; have z1 := hW.1.cell (j := 1) rfl; go_simp; try (with_reducible rfl)
      change wpAnyC _ _ _ _ _ _ _ (Act.put _ (some 40) (.map (some mp))) _
      try simp only [Act.put, List.setIfInBounds_toArray, List.set_cons_succ, List.set_cons_zero]
      refine wpAnyC_take (i := 4) (v := .pointer (some ⟨it, 0, none⟩)) rfl (by kernel_rfl) (by kernel_rfl) (by kernel_rfl) (fun _ _ _ h => h) HC0.out (by kernel_rfl) ?_ ?_
      · intro W hW; go_simp; try (with_reducible rfl)
      change wpAnyC _ _ _ _ _ _ _ (Act.put _ (some 41) (.pointer (some ⟨it, 0, none⟩))) _
      try simp only [Act.put, List.setIfInBounds_toArray, List.set_cons_succ, List.set_cons_zero]
      refine wpAnyC_take (i := 5) (v := .pointer (some ⟨it, 0, none⟩)) rfl (by kernel_rfl) (by kernel_rfl) (by kernel_rfl) (fun _ _ _ h => h) HC0.out (by kernel_rfl) ?_ ?_
      · intro W hW; go_simp; try (with_reducible rfl)
      change wpAnyC _ _ _ _ _ _ _ (Act.put _ (some 42) (.pointer (some ⟨it, 0, none⟩))) _
      try simp only [Act.put, List.setIfInBounds_toArray, List.set_cons_succ, List.set_cons_zero]
      refine wpAnyC_take (i := 6) (v := .pointer (some ⟨it, 0, none⟩)) rfl (by kernel_rfl) (by kernel_rfl) (by kernel_rfl) (fun _ _ _ h => h) HC0.out (by kernel_rfl) ?_ ?_
      · intro W hW; go_simp; try (with_reducible rfl)
      change wpAnyC _ _ _ _ _ _ _ (Act.put _ (some 43) (.pointer (some ⟨it, 0, none⟩))) _
      try simp only [Act.put, List.setIfInBounds_toArray, List.set_cons_succ, List.set_cons_zero]
      refine wpAnyC_take (i := 7) (v := .pointer (some ⟨it, 0, none⟩)) rfl (by kernel_rfl) (by kernel_rfl) (by kernel_rfl) (fun _ _ _ h => h) HC0.out (by kernel_rfl) ?_ ?_
      · intro W hW; go_simp; try (with_reducible rfl)
      change wpAnyC _ _ _ _ _ _ _ (Act.put _ (some 44) (.pointer (some ⟨it, 0, none⟩))) _
      try simp only [Act.put, List.setIfInBounds_toArray, List.set_cons_succ, List.set_cons_zero]
      refine wpAnyC_take (i := 8) (v := .string key) rfl (by kernel_rfl) (by kernel_rfl) (by kernel_rfl) (fun _ _ _ h => h) HC0.out (by kernel_rfl) ?_ ?_
      · intro W hW; have z0 := RowB.cell hW.2 (j := 0) rfl; go_simp; try (with_reducible rfl)
      change wpAnyC _ _ _ _ _ _ _ (Act.put _ (some 45) (.string key)) _
      try simp only [Act.put, List.setIfInBounds_toArray, List.set_cons_succ, List.set_cons_zero]
      refine wpAnyC_take (i := 9) (v := .pointer (some ⟨it, 0, none⟩)) rfl (by kernel_rfl) (by kernel_rfl) (by kernel_rfl) (fun _ _ _ h => h) HC0.out (by kernel_rfl) ?_ ?_
      · intro W hW; go_simp; try (with_reducible rfl)
      change wpAnyC _ _ _ _ _ _ _ (Act.put _ (some 46) (.pointer (some ⟨it, 0, none⟩))) _
      try simp only [Act.put, List.setIfInBounds_toArray, List.set_cons_succ, List.set_cons_zero]
      obtain ⟨w5, hst, hm5, hz5, hg5⟩ := HMS.out.store Tryz.underlying97 Tryz.underlying9 key hks (.pointer (some ⟨it, 0, none⟩))
      have hsm := HMS.out.apart HC0.out.1
      have him := HMS.out.apart HC0.out.2
      have HM5 := Lib.hid (show Mod (fun x => x = mp) wr.drew w5 from (Mod.refl _ _).grown hg5 (fun g hg => .inl (by cases hg; rfl)))
      have HC5 := Lib.hid (show RowB w5 s 99 [.pointer (some ⟨q, 0, none⟩), .map (some mp), .pointer none, .pointer (some ⟨k, 0, none⟩)] ∧ ItemAt w5 it key A n c tag len asof b from ⟨HM5.out.rowB HC0.out.1 (fun e => hsm e.symm), HM5.out.rowB HC0.out.2 (fun e => him e.symm)⟩)
      have HMS5 := Lib.hid hm5
      clear hm5 hz5 hg5 hsm him
      refine wpAnyC_one 10 (by kernel_rfl) rfl (by kernel_rfl) (fun KK hKK => ?_)
      go_simp
      refine hKK _ _ HC5.out ?_
      clear hKK KK hst
      refine ⟨by kernel_rfl, ?_⟩
      go_upto_region 9 with fail
      have HQW := Lib.hid (HS.out.q.ext HX.out.drew)
      have hqm := HQW.out.apart_map HMS.out
      have HQ5 := Lib.hid (HQW.out.mod HM5.out hqm.1 hqm.2)
      have HC6 := Lib.hid (show RowB w5.drew s 99 [.pointer (some ⟨q, 0, none⟩), .map (some mp), .pointer none, .pointer (some ⟨k, 0, none⟩)] ∧ ItemAt w5.drew it key A n c tag len asof b from ⟨HC5.out.1.ext (Ext.refl _).drew, RowB.ext HC5.out.2 (Ext.refl _).drew⟩)
      have HQ6 := Lib.hid (HQ5.out.ext (Ext.refl w5).drew)
      have HPU := Lib.hid (put_fits HQ6.out (Nat.le_trans HBS.out (Nat.le_trans HX.out.size HM5.out.size)) HK.out ((n + 64 + sumR xs : Nat) : Int) (by omega) HF.out hC)
      clear hqm
      refine wp_region_C (C := fun W => RowB W s 99 [.pointer (some ⟨q, 0, none⟩), .map (some mp), .pointer none, .pointer (some ⟨k, 0, none⟩)] ∧ ItemAt W it key A n c tag len asof b) (by kernel_rfl) ?_
      refine wpAnyC_take (i := 0) (v := .pointer (some ⟨s, 0, none⟩)) rfl (by kernel_rfl) (by kernel_rfl) (by kernel_rfl) (fun _ _ _ h => h) HC6.out (by kernel_rfl) ?_ ?_
      · intro W hW; go_simp; try (with_reducible rfl)
      change wpAnyC _ _ _ _ _ _ _ (Act.put _ (some 47) (.pointer (some ⟨s, 0, none⟩))) _
      try simp only [Act.put, List.setIfInBounds_toArray, List.set_cons_succ, List.set_cons_zero]
      refine wpAnyC_take (i := 1) (v := .pointer (some ⟨s, 0, none⟩)) rfl (by kernel_rfl) (by kernel_rfl) (by kernel_rfl) (fun _ _ _ h => h) HC6.out (by kernel_rfl) ?_ ?_
      · intro W hW; go_simp; try (with_reducible rfl)
      change wpAnyC _ _ _ _ _ _ _ (Act.put _ (some 48) (.pointer (some ⟨s, 0, none⟩))) _
      try simp only [Act.put, List.setIfInBounds_toArray, List.set_cons_succ, List.set_cons_zero]
      refine wpAnyC_take (i := 2) (v := .pointer (some ⟨s, 0, none⟩)) rfl (by kernel_rfl) (by kernel_rfl) (by kernel_rfl) (fun _ _ _ h => h) HC6.out (by kernel_rfl) ?_ ?_
      · intro W hW; go_simp; try (with_reducible rfl)
      change wpAnyC _ _ _ _ _ _ _ (Act.put _ (some 49) (.pointer (some ⟨s, 0, none⟩))) _
      try simp only [Act.put, List.setIfInBounds_toArray, List.set_cons_succ, List.set_cons_zero]
      refine wpAnyC_take (i := 3) (v := .pointer (some ⟨q, 0, none⟩)) rfl (by kernel_rfl) (by kernel_rfl) (by kernel_rfl) (fun _ _ _ h => h) HC6.out (by kernel_rfl) ?_ ?_
      · intro W hW; have z1 := hW.1.cell (j := 0) rfl; go_simp; try (with_reducible rfl)
      change wpAnyC _ _ _ _ _ _ _ (Act.put _ (some 50) (.pointer (some ⟨q, 0, none⟩))) _
      try simp only [Act.put, List.setIfInBounds_toArray, List.set_cons_succ, List.set_cons_zero]
      refine wpAnyC_take (i := 4) (v := .pointer (some ⟨it, 0, none⟩)) rfl (by kernel_rfl) (by kernel_rfl) (by kernel_rfl) (fun _ _ _ h => h) HC6.out (by kernel_rfl) ?_ ?_
      · intro W hW; go_simp; try (with_reducible rfl)
      change wpAnyC _ _ _ _ _ _ _ (Act.put _ (some 51) (.pointer (some ⟨it, 0, none⟩))) _
      try simp only [Act.put, List.setIfInBounds_toArray, List.set_cons_succ, List.set_cons_zero]
      refine wpAnyC_take (i := 5) (v := .pointer (some ⟨it, 0, none⟩)) rfl (by kernel_rfl) (by kernel_rfl) (by kernel_rfl) (fun _ _ _ h => h) HC6.out (by kernel_rfl) ?_ ?_
      · intro W hW; go_simp; try (with_reducible rfl)
      change wpAnyC _ _ _ _ _ _ _ (Act.put _ (some 52) (.pointer (some ⟨it, 0, none⟩))) _
      try simp only [Act.put, List.setIfInBounds_toArray, List.set_cons_succ, List.set_cons_zero]
      refine wpAnyC_take (i := 6) (v := .pointer (some ⟨it, 0, none⟩)) rfl (by kernel_rfl) (by kernel_rfl) (by kernel_rfl) (fun _ _ _ h => h) HC6.out (by kernel_rfl) ?_ ?_
      · intro W hW; go_simp; try (with_reducible rfl)
      change wpAnyC _ _ _ _ _ _ _ (Act.put _ (some 53) (.pointer (some ⟨it, 0, none⟩))) _
      try simp only [Act.put, List.setIfInBounds_toArray, List.set_cons_succ, List.set_cons_zero]
      refine wpAnyC_take (i := 7) (v := .pointer (some ⟨it, 0, none⟩)) rfl (by kernel_rfl) (by kernel_rfl) (by kernel_rfl) (fun _ _ _ h => h) HC6.out (by kernel_rfl) ?_ ?_
      · intro W hW; go_simp; try (with_reducible rfl)
      change wpAnyC _ _ _ _ _ _ _ (Act.put _ (some 54) (.pointer (some ⟨it, 0, none⟩))) _
      try simp only [Act.put, List.setIfInBounds_toArray, List.set_cons_succ, List.set_cons_zero]
      refine wpAnyC_take (i := 8) (v := .string key) rfl (by kernel_rfl) (by kernel_rfl) (by kernel_rfl) (fun _ _ _ h => h) HC6.out (by kernel_rfl) ?_ ?_
      · intro W hW; have z0 := RowB.cell hW.2 (j := 0) rfl; go_simp; try (with_reducible rfl)
      change wpAnyC _ _ _ _ _ _ _ (Act.put _ (some 55) (.string key)) _
      try simp only [Act.put, List.setIfInBounds_toArray, List.set_cons_succ, List.set_cons_zero]
      refine wpAnyC_take (i := 9) (v := .int .i64 ((n + 64 + sumR xs : Nat) : Int)) rfl (by kernel_rfl) (by kernel_rfl) (by kernel_rfl) (fun _ _ _ h => h) HC6.out (by kernel_rfl) ?_ ?_
      · intro W hW; go_simp; try (with_reducible rfl)
      change wpAnyC _ _ _ _ _ _ _ (Act.put _ (some 56) (.int .i64 ((n + 64 + sumR xs : Nat) : Int))) _
      try simp only [Act.put, List.setIfInBounds_toArray, List.set_cons_succ, List.set_cons_zero]
      refine wpAnyC_take (i := 12) (v := .int .i64 0) rfl (by kernel_rfl) (by kernel_rfl) (by kernel_rfl) (fun _ _ _ h => h) HC6.out (by kernel_rfl) ?_ ?_
      · intro W hW; go_simp; try (with_reducible rfl)
      change wpAnyC _ _ _ _ _ _ _ (Act.put _ (some 59) (.int .i64 0)) _
      try simp only [Act.put, List.setIfInBounds_toArray, List.set_cons_succ, List.set_cons_zero]
      refine wpAnyC_one 10 (by kernel_rfl) rfl (by kernel_rfl) (fun KK hKK => ?_)
      go_simp
      refine HPU.out.mono ?_
      rintro e w7 ⟨rfl, hm7, hq7⟩
      have ha := HQ6.out.apart_row HC6.out.1 (by decide) (by decide)
      have hb := HQ6.out.apart_row HC6.out.2 (by decide) (by decide)
      have HM7 := Lib.hid hm7
      have HQ7 := Lib.hid hq7.out
      have HC7 := Lib.hid (show RowB w7 s 99 [.pointer (some ⟨q, 0, none⟩), .map (some mp), .pointer none, .pointer (some ⟨k, 0, none⟩)] ∧ ItemAt w7 it key A n c tag len asof b from ⟨hm7.rowB HC6.out.1 (fun h => h.elim ha.1 (fun h2 => ha.2 _ h2 rfl)), hm7.rowB HC6.out.2 (fun h => h.elim hb.1 (fun h2 => hb.2 _ h2 rfl))⟩)
      clear hm7 hq7 ha hb
      refine hKK _ _ HC7.out ?_
      clear hKK KK
      try simp only [Act.put, List.setIfInBounds_toArray, List.set_cons_succ, List.set_cons_zero]
      refine wpAnyC_take (i := 11) (v := .int .i64 0) rfl (by kernel_rfl) (by kernel_rfl) (by kernel_rfl) (fun _ _ _ h => h) HC7.out (by kernel_rfl) ?_ ?_
      · intro W hW; go_simp; try (with_reducible rfl)
      change wpAnyC _ _ _ _ _ _ _ (Act.put _ (some 58) (.int .i64 0)) _
      try simp only [Act.put, List.setIfInBounds_toArray, List.set_cons_succ, List.set_cons_zero]
      refine ⟨by kernel_rfl, ?_⟩
      go_wp2_with fail
      refine wp_loop_rounds 1 ?_
      rw [rounds_succ]
      go_wp2_with fail
      go_ret
      have hskw := HS.out.sk.ext HX.out.drew
      have hsm := hskw.apart_map HMS.out
      have hsq := SkAt.apart_q HQW.out hskw
      have hqm := HQW.out.apart_map HMS.out
      refine ⟨rfl, ?_, Lib.hid ?_⟩
      · refine ((Mod.of_ext _ HX.out.drew).trans (HM5.out.mono (fun x _ h => .inl h))).trans ?_
        exact (Mod.of_ext _ (Ext.refl w5).drew).trans (HM7.out.mono (fun x _ h => .inr h))
      · obtain ⟨r', h1, h2⟩ := HQ7.out
        refine ⟨r', ⟨HC7.out.1, h1, ?_, ?_⟩, h2.imp id (fun ⟨g, e, hg⟩ => ⟨g, e, Nat.le_trans HX.out.size (Nat.le_trans HM5.out.size hg)⟩)⟩
        · exact (HMS5.out.ext (Ext.refl w5).drew).mod HM7.out (fun h => h.elim (fun e => hqm.1 e.symm) (fun h2 => hqm.2 _ h2 rfl))
        · exact ((hskw.mod HM5.out hsm.1 hsm.2).ext (Ext.refl w5).drew).mod HM7.out (fun h => h.elim hsq.1.1 (fun h2 => hsq.1.2 _ h2 rfl)) (fun h => h.elim hsq.2.1 (fun h2 => hsq.2.2 _ h2 rfl))
end Go.Proofs.YtfgjbbpkkbohhaaGreat
