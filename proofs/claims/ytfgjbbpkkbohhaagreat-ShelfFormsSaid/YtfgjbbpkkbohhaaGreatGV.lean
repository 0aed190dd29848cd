/- Chapter 24 without a device: Fill, Get, Missing and Tier of a shelf with one object. Chapter 24 without a device: Missing of a shelf with one object. Chapter 24: the law's own small functions: key, tag, Length, text, part. -/
import Derived.Test.YtfgjbbpkkbohhaaGreatSfU
import Derived.Test.YtfgjbbpkkbohhaaGreatAnyD
namespace Go.Proofs.YtfgjbbpkkbohhaaGreat
open Go.RowKit Go.Deep
theorem mod_of_kept {B l : Nat} {w w' : World} (h : Below B w w') (k : Kept l w w') : Mod (fun x => x = l) w w' := ⟨h.os, h.tape, h.output, k.1, fun i hi hn => k.2 i hi hn⟩
theorem mv_row {w : World} {B : Nat} {A : Option Addr} {c : Nat} {mt : ByteArray} (h : w.ownsRow B 5 1 (.slice A mt.size c) mt.size (mt.data.toList.map fun b => Value.int .u8 b.toNat)) : MV w (.slice A mt.size c) mt := by
  rcases h.2 with ⟨e, hn⟩ | ⟨g, cap, cur, e, -, hg, -, -, -, ht⟩
  · have : mt = ⟨#[]⟩ := by
      cases mt with
      | mk d => cases d with | mk l => cases l with
        | nil => rfl
        | cons x y => exact absurd hn (Nat.succ_ne_zero _)
    exact .inl ⟨e, this⟩
  · refine .inr ⟨g, cap, e, cur, (0, 0), cur.toList.drop mt.size, hg, fun j h1 h2 => by simp at h2, ?_⟩
    rw [Nat.mul_one] at ht
    rw [← ht, List.take_append_drop]
theorem clone_mv {w : World} {A : Option Addr} {n c : Nat} {mt : ByteArray} (h : MV w (.slice A n c) mt) (hn : n ≤ 1000000) :
    Calls Tryz.prog 49 #[.slice A n c] w fun e w' => (∃ A' c', e = .returned (.slice A' n c') ∧ Hid (MV w' (.slice A' n c') mt)) ∧ Ext w w' := by
  rcases h with ⟨e, rfl⟩ | ⟨g, cap, e, hr⟩
  · cases e
    exact (bclone_nil w).mono fun e w' ⟨h1, h2⟩ => ⟨⟨none, 0, h1, Lib.hid (.inl ⟨rfl, rfl⟩)⟩, h2 ▸ Ext.refl w⟩
  · cases e
    have hlen : (mt.data.toList.map fun b => Value.int .u8 b.toNat).length = mt.size := by rw [List.length_map]; rfl
    refine (bclone_any (w := w) ⟨g, 0, none⟩ mt.size c _ ⟨by rw [hlen, Nat.mul_one], fun _ => ⟨_, rfl, hr.lt, fun j u hj => ?_⟩⟩ (fun u hu => ?_) hn).mono fun e w' ⟨⟨A', c', h1, h2⟩, h3⟩ => ⟨⟨A', c', h1, Lib.hid (mv_row h2.out)⟩, h3⟩
    · have := hr.cell hj
      rw [show (⟨g, 0, none⟩ : Addr).add j = ⟨g, j, none⟩ by unfold Addr.add; split <;> simp_all]
      exact this
    · obtain ⟨b, -, rfl⟩ := List.mem_map.1 hu
      rfl
theorem row_set5 {w : World} {g : Nat} {T : TypeId} {a b c d e : Value} (h : RowB w g T [a, b, c, d, e]) (a' b' c' d' e' : Value) :
    RowB (((((w.setCell ⟨g, 0, none⟩ a').setCell ⟨g, 1, none⟩ b').setCell ⟨g, 2, none⟩ c').setCell ⟨g, 3, none⟩ d').setCell ⟨g, 4, none⟩ e') g T [a', b', c', d', e'] ∧
    Mod (fun x => x = g) w (((((w.setCell ⟨g, 0, none⟩ a').setCell ⟨g, 1, none⟩ b').setCell ⟨g, 2, none⟩ c').setCell ⟨g, 3, none⟩ d').setCell ⟨g, 4, none⟩ e') :=
  ⟨((((h.set 0 a' (by simp)).set 1 b' (by simp)).set 2 c' (by simp)).set 3 d' (by simp)).set 4 e' (by simp),
   (((((Mod.refl (fun x => x = g) w).setCell (p := ⟨g, 0, none⟩) (.inl rfl) a').setCell (p := ⟨g, 1, none⟩) (.inl rfl) b').setCell (p := ⟨g, 2, none⟩) (.inl rfl) c').setCell (p := ⟨g, 3, none⟩) (.inl rfl) d').setCell (p := ⟨g, 4, none⟩) (.inl rfl) e'⟩
section
variable {w : World} {B s mp q k d : Nat} {r : Option Nat} {C : Int} {key tag mt : ByteArray} {z : Int} {it n c b lb Bb : Nat} {A : Option Addr} {len : Nat} {asof : Int} {D : Nat → Option ByteArray}
set_option maxRecDepth 100000 in
theorem fill_one (h : OneAt w B s mp q k d r C key z it A n c mt tag len asof b lb Bb D) (hB : B ≤ w.heap.size) (hks : key.size ≤ maxLen) (hn : n ≤ 8192) (hl : len ≤ 65536) {i : Nat} (hi : i < npc len) (hD : D i = none) {g cap : Nat} {t : ByteArray} (ht : BytesAt w g t) (hz : t.size = pto i len - i * 256)
    {xs : List (Nat × Nat)} (hh : ∀ W A' B', BodyAt W B' A' b lb tag len (upd D i (some t)) → HeldIs W b xs) (hxs : ∀ x ∈ xs, x.1 ≤ x.2 ∧ x.2 ≤ 65536) (hxl : xs.length ≤ 300) (hsx : sumR xs ≤ 65536) (hf : ((n + 64 + sumR xs : Nat) : Int) ≤ C) (hC : C ≤ 1099511627776) :
    Calls Tryz.prog 15 #[.pointer (some ⟨s, 0, none⟩), .string key, .string tag, .int .i64 i, .slice (some ⟨g, 0, none⟩) t.size cap] w fun e w' => e = .returned (.tuple #[.slice none 0 0, .nilIface]) ∧ Mod (fun x => x = mp ∨ x = q ∨ r = some x ∨ x = lb) w w' ∧
      Hid (∃ r', OneAt w' B s mp q k d r' C key ((n + 64 + sumR xs : Nat) : Int) it A n c mt tag len asof b lb Bb (upd D i (some t)) ∧ (r' = r ∨ ∃ g, r' = some g ∧ w.heap.size ≤ g)) := by
  have c1 := h.sh.row.cell (j := 1) rfl
  have i2 := RowB.cell h.item (j := 2) rfl
  have i5 := RowB.cell h.item (j := 5) rfl
  have HL := h.sh.m.look Tryz.underlying97 Tryz.underlying9 key hks (zero_ptr w) false
  rw [show mget [(key, Value.pointer (some ⟨it, 0, none⟩))] key = some (.pointer (some ⟨it, 0, none⟩)) by simp [mget]] at HL
  simp only [Bool.false_eq_true, if_false] at HL
  have hT2 : (tag.toList == tag.toList) = true := by simp
  have HS := Lib.hid h.sh
  have HI := Lib.hid h.item
  have HMV := Lib.hid h.meta_
  have HBD := Lib.hid h.body
  have HBS := Lib.hid hB
  have HH := Lib.hid hh
  have HXL := Lib.hid hxs
  have hap := happ_nil
  have HP := Lib.hid (put_ok h.body hl i hi g cap t ht hz hD (fun x hx => by
    rcases hx with rfl | hr | rfl | rfl | rfl | rfl | rfl
    · exact RowB.lt h.item
    · exact (h.sh.q.lt.2 x hr).2
    · exact h.sh.row.lt
    · exact h.sh.m.lt
    · exact h.sh.q.lt.1
    · exact h.sh.sk.lt.1
    · exact h.sh.sk.lt.2))
  have HAV := Lib.hid (show ∀ x, (x = it ∨ r = some x ∨ x = s ∨ x = mp ∨ x = q ∨ x = k ∨ x = d) → x ≠ lb from fun x hx e => h.body.av.2 (e ▸ hx))
  have HML := Lib.hid (show ∀ g, RowB w g 5 (mt.data.toList.map fun b => Value.int .u8 b.toNat) → g ≠ lb from fun g hg => by
    obtain ⟨f, hf, -⟩ := h.body.row
    exact row_apart hg hf (by decide))
  clear h hB hh hxs ht hz hD hi
  go_enter Tryz.func15, Tryz.ntmps15
  go_upto_region 15 with (go_at_call 52; refine HP.out.mono ?_; rintro e w1 ⟨rfl, hb1, hk1, hbd1⟩)
  have HM1 := Lib.hid (mod_of_kept hb1 hk1)
  have HS1 := Lib.hid (HS.out.keep HM1.out (HAV.out _ (.inr (.inr (.inl rfl)))) (HAV.out _ (.inr (.inr (.inr (.inl rfl))))) (HAV.out _ (.inr (.inr (.inr (.inr (.inl rfl)))))) (HAV.out _ (.inr (.inr (.inr (.inr (.inr (.inl rfl))))))) (HAV.out _ (.inr (.inr (.inr (.inr (.inr (.inr rfl))))))) (fun g hg => HAV.out _ (.inr (.inl hg))))
  have HI1 : Hid (ItemAt w1 it key A n c tag len asof b) := Lib.hid (HM1.out.rowB HI.out (HAV.out _ (.inl rfl)))
  have HMV1 := Lib.hid (HMV.out.mod HM1.out HML.out)
  have HB1 := Lib.hid (hbd1.avoid (fun x => (x = it ∨ r = some x ∨ x = s ∨ x = mp ∨ x = q ∨ x = k ∨ x = d) ∨ w1.heap.size ≤ x) (fun x hx => hx.elim (fun h => .inr (.inr h)) .inl))
  have HST := Lib.hid (store_fits HS1.out (Nat.le_trans HBS.out HM1.out.size) HI1.out (HH.out _ _ _ hbd1) HXL.out hxl hks hn (by rintro p hp; cases hp; rfl) hf hsx hC)
  rw [show mput [(key, Value.pointer (some ⟨it, 0, none⟩))] key (.pointer (some ⟨it, 0, none⟩)) = [(key, .pointer (some ⟨it, 0, none⟩))] by simp [mput]] at HST
  clear hb1 hk1 hbd1 c1 i2 i5 HL hT2
  go_wp2_with (go_at_call 47; refine HST.out.mono ?_; rintro e w8 ⟨rfl, hm8, hq8⟩)
  go_ret2
  refine ⟨rfl, (HM1.out.mono (fun x _ h => .inr (.inr (.inr h)))).trans (hm8.mono (fun x _ h => by
    rcases h with h | h | h
    · exact .inl h
    · exact .inr (.inl h)
    · exact .inr (.inr (.inl h)))), Lib.hid ?_⟩
  obtain ⟨r', h1, h2⟩ := hq8.out
  have hi8 : ItemAt w8 it key A n c tag len asof b := hm8.rowB HI1.out (fun h => by
    have hq := HS1.out.q.apart_row HI1.out (by decide) (by decide)
    rcases h with h | h | h
    · exact HS1.out.m.apart HI1.out h.symm
    · exact hq.1 h
    · exact hq.2 _ h rfl)
  have hb8 := HB1.out.mod hm8 (fun x hx => .inl (.inl (by
    rcases hx with h | h | h
    · exact .inr (.inr (.inr (.inl h)))
    · exact .inr (.inr (.inr (.inr (.inl h))))
    · exact .inr (.inl h))))
  refine ⟨r', ⟨h1, hi8, ?_, HMV1.out.mod hm8 (fun g hr => sh_apart HS1.out hr (by decide) (by decide))⟩, h2.imp id (fun ⟨g, e, hg⟩ => ⟨g, e, Nat.le_trans HM1.out.size hg⟩)⟩
  refine hb8.avoid _ (fun x hx => .inr (.inr ?_))
  rcases hx with h | h | h
  · exact .inl (.inl h)
  · rcases h2 with e | ⟨g, e, hg⟩
    · exact .inl (.inr (.inl (e ▸ h)))
    · refine .inr ?_
      rw [e] at h
      cases h
      exact hg
  · exact .inl (.inr (.inr h))
set_option maxRecDepth 100000 in
theorem copied_any {tg : ByteArray} {ln ao : Int} (h : MV w (.slice A n c) mt) (hn : n ≤ 1000000) :
    Calls Tryz.prog 56 #[.agg #[.string key, .slice A n c, .string tg, .int .i64 ln, .int .i64 ao]] w fun e w' => (∃ A' c', e = .returned (.agg #[.string key, .slice A' n c', .string tg, .int .i64 ln, .int .i64 ao]) ∧ Hid (MV w' (.slice A' n c') mt)) ∧ Ext w w' := by
  have HC := Lib.hid (fun W (hW : Ext w W) => clone_mv (h.ext hW) (by omega : n ≤ 1000000))
  clear h
  go_enter Tryz.func56, Tryz.ntmps56
  go_upto_region 1 with fail
  obtain ⟨wa, hwa⟩ : ∃ x, x = (w.alloc (.cells #[.string key, .slice A n c, .string tg, .int .i64 ln, .int .i64 ao] 38)).alloc (.cells #[.string ⟨#[]⟩, .slice none 0 0, .string ⟨#[]⟩, .int .i64 0, .int .i64 0] 38) := ⟨_, rfl⟩
  have XA : Ext w wa := by rw [hwa]; exact ((Ext.refl w).alloc _).alloc _
  have HO : Hid (RowB wa w.heap.size 38 [.string key, .slice A n c, .string tg, .int .i64 ln, .int .i64 ao]) := Lib.hid (by rw [hwa]; exact (row_laid w _ _).ext ((Ext.refl _).alloc _))
  have HR : Hid (RowB wa (w.heap.size + 1) 38 [.string ⟨#[]⟩, .slice none 0 0, .string ⟨#[]⟩, .int .i64 0, .int .i64 0]) := Lib.hid (by rw [hwa]; have := row_laid (w.alloc (.cells #[.string key, .slice A n c, .string tg, .int .i64 ln, .int .i64 ao] 38)) 38 [.string ⟨#[]⟩, .slice none 0 0, .string ⟨#[]⟩, .int .i64 0, .int .i64 0]; simpa using this)
  have HXA := Lib.hid XA
  have c1 := HO.out.cell (j := 1) rfl
  rw [← hwa]
  clear hwa XA
  go_upto_region 2 with (go_at_call 49; refine (HC.out _ HXA.out).mono ?_; rintro e w5 ⟨⟨A5, c5, rfl, hmv5⟩, hx5⟩; have z1 := hx5.cell (HO.out.cell (j := 1) rfl); have f1 := (hx5.frozen (HO.out.cell (j := 1) rfl)).trans (HO.out.frozen (j := 1) (by simp)))
  have HO6 := Lib.hid ((HO.out.ext hx5).set 1 (.slice A5 n c5) (by simp))
  have HM6 : Hid (Mod (fun x => x = w.heap.size) w5 (w5.setCell ⟨w.heap.size, 1, none⟩ (.slice A5 n c5))) := Lib.hid (Mod.setCell (Mod.refl (fun x => x = w.heap.size) w5) (p := ⟨w.heap.size, 1, none⟩) (.inl rfl) _)
  have HR6 := Lib.hid (HM6.out.rowB (HR.out.ext hx5) (by omega))
  have HMV6 := Lib.hid (hmv5.out.mod HM6.out (fun g hr e => hr.apart (HO.out.ext hx5) (by decide) e))
  have HX6 : Hid (Ext w (w5.setCell ⟨w.heap.size, 1, none⟩ (.slice A5 n c5))) := Lib.hid ((HXA.out.trans hx5).setCell (p := ⟨w.heap.size, 1, none⟩) (Nat.le_refl _) _)
  obtain ⟨w6, hw6⟩ : ∃ x, x = w5.setCell ⟨w.heap.size, 1, none⟩ (.slice A5 n c5) := ⟨_, rfl⟩
  rw [← hw6] at HO6 HM6 HR6 HMV6 HX6
  rw [← hw6]
  have d0 := HO6.out.cell (j := 0) rfl
  have d1 := HO6.out.cell (j := 1) rfl
  have d2 := HO6.out.cell (j := 2) rfl
  have d3 := HO6.out.cell (j := 3) rfl
  have d4 := HO6.out.cell (j := 4) rfl
  have y0 := HR6.out.cell (j := 0) rfl
  have y1 := HR6.out.cell (j := 1) rfl
  have y2 := HR6.out.cell (j := 2) rfl
  have y3 := HR6.out.cell (j := 3) rfl
  have y4 := HR6.out.cell (j := 4) rfl
  have g0 := HR6.out.frozen (j := 0) (by simp)
  have g1 := HR6.out.frozen (j := 1) (by simp)
  have g2 := HR6.out.frozen (j := 2) (by simp)
  have g3 := HR6.out.frozen (j := 3) (by simp)
  have g4 := HR6.out.frozen (j := 4) (by simp)
  clear hw6 z1 f1 c1 hmv5 hx5
  go_wp2_with fail
  obtain ⟨hr7, hm7⟩ := row_set5 HR6.out (.string key) (.slice A5 n c5) (.string tg) (.int .i64 ln) (.int .i64 ao)
  have HMV7 := Lib.hid (HMV6.out.mod hm7 (fun g hr e => hr.apart HR6.out (by decide) e))
  have HX7 := Lib.hid (((Mod.of_ext (fun x => x = w.heap.size + 1) HX6.out).trans hm7).ext (fun k hk => by omega))
  have r0 := hr7.cell (j := 0) rfl
  have r1 := hr7.cell (j := 1) rfl
  have r2 := hr7.cell (j := 2) rfl
  have r3 := hr7.cell (j := 3) rfl
  have r4 := hr7.cell (j := 4) rfl
  clear hr7 hm7 d0 d1 d2 d3 d4 y0 y1 y2 y3 y4 g0 g1 g2 g3 g4
  generalize (((((w6.setCell ⟨w.heap.size + 1, 0, none⟩ (.string key)).setCell ⟨w.heap.size + 1, 1, none⟩ (.slice A5 n c5)).setCell ⟨w.heap.size + 1, 2, none⟩ (.string tg)).setCell ⟨w.heap.size + 1, 3, none⟩ (.int .i64 ln)).setCell ⟨w.heap.size + 1, 4, none⟩ (.int .i64 ao)) = w7 at *
  refine bodyPost_ret (by simp [results, Tryz.results56, go_sem, r0, r1, r2, r3, r4]; try rfl) rfl ?_
  exact ⟨⟨_, _, rfl, HMV7.out⟩, HX7.out⟩
set_option maxRecDepth 100000 in
theorem get_one (h : OneAt w B s mp q k d r C key z it A n c mt tag len asof b lb Bb D) (hks : key.size ≤ maxLen) (hn : n ≤ 8192) :
    Calls Tryz.prog 18 #[.pointer (some ⟨s, 0, none⟩), .string key] w fun e w' => (∃ A' c', e = .returned (.tuple #[.agg #[.string key, .slice A' n c', .string tag, .int .i64 len, .int .i64 asof], .nilIface]) ∧ Hid (MV w' (.slice A' n c') mt)) ∧ Mod (fun x => x = k ∨ x = d) w w' := by
  have c1 := h.sh.row.cell (j := 1) rfl
  have c3 := h.sh.row.cell (j := 3) rfl
  have HS := Lib.hid h.sh
  have HI := Lib.hid h.item
  have HMV := Lib.hid h.meta_
  have hk6 : key.size ≤ 9223372036854775807 := by unfold maxLen at hks; omega
  have HKS := Lib.hid hks
  have HCP := Lib.hid (fun W (hW : MV W (.slice A n c) mt) => copied_any (key := key) (tg := tag) (ln := len) (ao := asof) hW (by omega : n ≤ 1000000))
  have HSR := Lib.hid (h.sh.sk.apart_row h.sh.row (by decide) (by decide))
  have HSM := Lib.hid (h.sh.sk.apart_map h.sh.m)
  have HSQ := Lib.hid (SkAt.apart_q h.sh.q h.sh.sk)
  have HSI := Lib.hid (h.sh.sk.apart_row h.item (by decide) (by decide))
  have HSB := Lib.hid (show ∀ g, RowB w g 5 (mt.data.toList.map fun b => Value.int .u8 b.toNat) → ¬ (g = k ∨ g = d) from fun g hg => by
    have := h.sh.sk.apart_row hg (by decide) (by decide)
    exact fun e => e.elim this.1 this.2)
  clear h hks
  go_enter Tryz.func18, Tryz.ntmps18
  go_upto_region 3 with fail
  obtain ⟨wa, hwa⟩ : ∃ x, x = w.alloc (.cells #[.string ⟨#[]⟩, .slice none 0 0, .string ⟨#[]⟩, .int .i64 0, .int .i64 0] 38) := ⟨_, rfl⟩
  have HXA : Hid (Ext w wa) := Lib.hid (by rw [hwa]; exact (Ext.refl w).alloc _)
  have HR : Hid (RowB wa w.heap.size 38 [.string ⟨#[]⟩, .slice none 0 0, .string ⟨#[]⟩, .int .i64 0, .int .i64 0]) := Lib.hid (by rw [hwa]; exact row_laid w _ _)
  rw [← hwa]
  clear hwa
  have HAD := Lib.hid (add_fresh (HS.out.sk.ext HXA.out) key hk6)
  have a3 := HXA.out.cell c3
  clear c1 c3
  go_upto_region 4 with (go_at_call 54; refine HAD.out.mono ?_; rintro e w1 ⟨rfl, hm1⟩)
  have HM1 := Lib.hid hm1
  have HR1 := Lib.hid (hm1.rowB HR.out (fun e => e.elim (fun e => by have := HS.out.sk.lt.1; omega) (fun e => by have := HS.out.sk.lt.2; omega)))
  have HS1 := Lib.hid (show RowB w1 s 99 [.pointer (some ⟨q, 0, none⟩), .map (some mp), .pointer none, .pointer (some ⟨k, 0, none⟩)] ∧ MsAt w1 mp [(key, .pointer (some ⟨it, 0, none⟩))] ∧ QAt w1 B q r C (some (key, z)) from
    ⟨hm1.rowB (HS.out.row.ext HXA.out) (fun e => e.elim HSR.out.1 HSR.out.2), (HS.out.m.ext HXA.out).mod hm1 (fun e => e.elim (fun e => HSM.out.1 e.symm) (fun e => HSM.out.2 e.symm)),
     (HS.out.q.ext HXA.out).mod hm1 (fun e => e.elim (fun e => HSQ.out.1.1 e.symm) (fun e => HSQ.out.2.1 e.symm)) (fun g hg e => e.elim (fun e => HSQ.out.1.2 g hg e.symm) (fun e => HSQ.out.2.2 g hg e.symm))⟩)
  have HI1 : Hid (ItemAt w1 it key A n c tag len asof b) := Lib.hid (hm1.rowB (RowB.ext HI.out HXA.out) (fun e => e.elim HSI.out.1 HSI.out.2))
  have HMV1 := Lib.hid (MV.mod (MV.ext HMV.out HXA.out) hm1 (fun g hg => by
    have := (HS.out.sk.ext HXA.out).apart_row hg (by decide) (by decide)
    exact fun e => e.elim this.1 this.2))
  have HL := HS1.out.2.1.look Tryz.underlying97 Tryz.underlying9 key HKS.out (zero_ptr w1) false
  rw [show mget [(key, Value.pointer (some ⟨it, 0, none⟩))] key = some (.pointer (some ⟨it, 0, none⟩)) by simp [mget]] at HL
  simp only [Bool.false_eq_true, if_false] at HL
  have b0 := HS1.out.1.cell (j := 0) rfl
  have b1 := HS1.out.1.cell (j := 1) rfl
  have HT := Lib.hid (touch_one HS1.out.2.2 key)
  clear a3 hm1 HAD
  go_upto_region 7 with (go_at_call 55; refine HT.out.mono ?_; rintro e w2 ⟨⟨bb, rfl⟩, hx2⟩)
  have HI2 := Lib.hid (RowB.ext HI1.out hx2)
  have HR2 := Lib.hid (HR1.out.ext hx2)
  have HM2 := Lib.hid (((Mod.of_ext (fun x => x = k ∨ x = d) HXA.out).trans HM1.out).trans (Mod.of_ext _ hx2))
  have HCP2 := Lib.hid (HCP.out _ (MV.ext HMV1.out hx2))
  have d0 := HI2.out.cell (j := 0) rfl
  have d1 := HI2.out.cell (j := 1) rfl
  have d2 := HI2.out.cell (j := 2) rfl
  have d3 := HI2.out.cell (j := 3) rfl
  have d4 := HI2.out.cell (j := 4) rfl
  have y0 := fun W (hW : Ext w2 W) => (HR2.out.ext hW).cell (j := 0) rfl
  have y1 := fun W (hW : Ext w2 W) => (HR2.out.ext hW).cell (j := 1) rfl
  clear HL b0 b1 HT hx2
  go_wp2_with (go_at_call 56; refine HCP2.out.mono ?_; rintro e w3 ⟨⟨A', c', rfl, hmv3⟩, hx3⟩; have y0 := (HR2.out.ext hx3).cell (j := 0) rfl; have y1 := (HR2.out.ext hx3).cell (j := 1) rfl; have y2 := (HR2.out.ext hx3).cell (j := 2) rfl; have y3 := (HR2.out.ext hx3).cell (j := 3) rfl; have y4 := (HR2.out.ext hx3).cell (j := 4) rfl; have g0 := (HR2.out.ext hx3).frozen (j := 0) (by simp); have g1 := (HR2.out.ext hx3).frozen (j := 1) (by simp); have g2 := (HR2.out.ext hx3).frozen (j := 2) (by simp); have g3 := (HR2.out.ext hx3).frozen (j := 3) (by simp); have g4 := (HR2.out.ext hx3).frozen (j := 4) (by simp))
  obtain ⟨hr7, hm7⟩ := row_set5 (HR2.out.ext hx3) (.string key) (.slice A' n c') (.string tag) (.int .i64 len) (.int .i64 asof)
  have HMV7 := Lib.hid (hmv3.out.mod hm7 (fun g hr e => hr.apart (HR2.out.ext hx3) (by decide) e))
  have HX7 := Lib.hid ((HM2.out.trans (Mod.of_ext _ hx3)).then hm7 (fun i hi => .inr (by omega)))
  have r0 := hr7.cell (j := 0) rfl
  have r1 := hr7.cell (j := 1) rfl
  have r2 := hr7.cell (j := 2) rfl
  have r3 := hr7.cell (j := 3) rfl
  have r4 := hr7.cell (j := 4) rfl
  clear hr7 hm7 d0 d1 d2 d3 d4 y0 y1 y2 y3 y4 g0 g1 g2 g3 g4
  generalize (((((w3.setCell ⟨w.heap.size, 0, none⟩ (.string key)).setCell ⟨w.heap.size, 1, none⟩ (.slice A' n c')).setCell ⟨w.heap.size, 2, none⟩ (.string tag)).setCell ⟨w.heap.size, 3, none⟩ (.int .i64 len)).setCell ⟨w.heap.size, 4, none⟩ (.int .i64 asof)) = w7 at *
  refine bodyPost_ret (by simp [results, Tryz.results18, go_sem, r0, r1, r2, r3, r4]; try rfl) rfl ?_
  exact ⟨⟨_, _, rfl, HMV7.out⟩, HX7.out⟩
set_option maxRecDepth 100000 in
theorem tier_one (h : OneAt w B s mp q k d r C key z it A n c mt tag len asof b lb Bb D) (hks : key.size ≤ maxLen) :
    Calls Tryz.prog 22 #[.pointer (some ⟨s, 0, none⟩), .string key] w fun e w' => e = .returned (.int .i64 1) ∧ w = w' := by
  have c1 := h.sh.row.cell (j := 1) rfl
  have HL := h.sh.m.look Tryz.underlying97 Tryz.underlying9 key hks (zero_ptr w) false
  rw [show mget [(key, Value.pointer (some ⟨it, 0, none⟩))] key = some (.pointer (some ⟨it, 0, none⟩)) by simp [mget]] at HL
  simp only [Bool.false_eq_true, if_false] at HL
  clear h
  go_enter Tryz.func22, Tryz.ntmps22
  go_wp2_with fail
  go_ret
  exact ⟨rfl, rfl⟩
end
end Go.Proofs.YtfgjbbpkkbohhaaGreat
namespace Go.Proofs.YtfgjbbpkkbohhaaGreat
open Go.RowKit Go.Deep
set_option maxRecDepth 100000 in
theorem find_row {w : World} {s mp q k : Nat} {l : List (ByteArray × Value)} (hr : RowB w s 99 [.pointer (some ⟨q, 0, none⟩), .map (some mp), .pointer none, .pointer (some ⟨k, 0, none⟩)]) (hm : MsAt w mp l) (key : ByteArray) (hk : key.size ≤ maxLen) {it : Nat} (hn : mget l key = some (.pointer (some ⟨it, 0, none⟩))) : Calls Tryz.prog 46 #[.pointer (some ⟨s, 0, none⟩), .string key] w fun e w' => e = .returned (.pointer (some ⟨it, 0, none⟩)) ∧ w = w' := by
  have c1 := hr.cell (j := 1) rfl
  have HL := hm.look Tryz.underlying97 Tryz.underlying9 key hk (zero_ptr w) false
  rw [hn] at HL
  simp only [Bool.false_eq_true, if_false] at HL
  clear hr hm hn
  go_enter Tryz.func46, Tryz.ntmps46
  go_wp2_with fail
  go_ret
  exact ⟨rfl, rfl⟩
set_option maxRecDepth 100000 in
theorem missing_one {w : World} {s mp q k it n c b lb Bb : Nat} {key tag tg : ByteArray} {A : Option Addr} {len : Nat} {ln asof : Int} {D : Nat → Option ByteArray} {AA : Nat → Prop}
    (hr : RowB w s 99 [.pointer (some ⟨q, 0, none⟩), .map (some mp), .pointer none, .pointer (some ⟨k, 0, none⟩)]) (hm : MsAt w mp [(key, .pointer (some ⟨it, 0, none⟩))]) (hi : ItemAt w it key A n c tag ln asof b) (hb : BodyAt w Bb AA b lb tg len D) (hks : key.size ≤ maxLen) (hl : len ≤ 65536)
    (F T : Int) (f t : Nat) (hf : (f : Int) = max 0 F) (hF : F ≤ 9223372036854775807) (ht : t = (min T len).toNat) :
    Calls Tryz.prog 19 #[.pointer (some ⟨s, 0, none⟩), .string key, rngV F T] w fun e w' => ∃ v, e = .returned (.tuple #[v, .nilIface]) ∧ Ext w w' ∧ ∃ B, IntsOwn w' B v (gaps D (pcs f t)) := by
  have HF := Lib.hid (fun W (hW : Ext w W) => find_row (hr.ext hW) (hm.ext hW) key hks (it := it) (by simp [mget]))
  have HI := Lib.hid hi
  have HMS := Lib.hid (fun W (hW : Ext w W) => missing_any (hb.ext hW) F T f t hl hf hF ht)
  clear hr hm hi hb hf ht hF hks
  go_enter Tryz.func19, Tryz.ntmps19
  go_upto_region 1 with fail
  obtain ⟨wa, hwa⟩ : ∃ x, x = w.alloc (.cells #[.int .i64 F, .int .i64 T] 48) := ⟨_, rfl⟩
  have HXA : Hid (Ext w wa) := Lib.hid (by rw [hwa]; exact (Ext.refl w).alloc _)
  have HR : Hid (RowB wa w.heap.size 48 [.int .i64 F, .int .i64 T]) := Lib.hid (by rw [hwa]; exact row_laid w _ _)
  rw [← hwa]
  clear hwa
  go_upto_region 6 with (go_at_call 46; refine (HF.out _ HXA.out).mono ?_; rintro e w1 ⟨rfl, rfl⟩)
  have HC := Lib.hid ((Ext.refl wa).drew)
  refine wp_region_C (C := fun W => Ext wa W) (by kernel_rfl) ?_
  refine wpAnyC_take (i := 0) (v := .pointer (some ⟨it, 0, none⟩)) rfl (by kernel_rfl) (by kernel_rfl) (by kernel_rfl) (fun _ _ _ h => h) HC.out (by kernel_rfl) ?_ ?_
  · intro W hW; go_simp; try (with_reducible rfl)
  change wpAnyC _ _ _ _ _ _ _ (Act.put _ (some 18) (.pointer (some ⟨it, 0, none⟩))) _
  try simp only [Act.put, List.setIfInBounds_toArray, List.set_cons_succ, List.set_cons_zero]
  refine wpAnyC_take (i := 1) (v := .pointer (some ⟨it, 0, none⟩)) rfl (by kernel_rfl) (by kernel_rfl) (by kernel_rfl) (fun _ _ _ h => h) HC.out (by kernel_rfl) ?_ ?_
  · intro W hW; go_simp; try (with_reducible rfl)
  change wpAnyC _ _ _ _ _ _ _ (Act.put _ (some 19) (.pointer (some ⟨it, 0, none⟩))) _
  try simp only [Act.put, List.setIfInBounds_toArray, List.set_cons_succ, List.set_cons_zero]
  refine wpAnyC_take (i := 2) (v := .pointer (some ⟨it, 5, none⟩)) rfl (by kernel_rfl) (by kernel_rfl) (by kernel_rfl) (fun _ _ _ h => h) HC.out (by kernel_rfl) ?_ ?_
  · intro W hW; go_simp; try (with_reducible rfl)
  change wpAnyC _ _ _ _ _ _ _ (Act.put _ (some 20) (.pointer (some ⟨it, 5, none⟩))) _
  try simp only [Act.put, List.setIfInBounds_toArray, List.set_cons_succ, List.set_cons_zero]
  refine wpAnyC_take (i := 3) (v := .pointer (some ⟨b, 0, none⟩)) rfl (by kernel_rfl) (by kernel_rfl) (by kernel_rfl) (fun _ _ _ h => h) HC.out (by kernel_rfl) ?_ ?_
  · intro W hW; have i5 := (HXA.out.trans hW).cell (HI.out.cell (j := 5) rfl); go_simp; try (with_reducible rfl)
  change wpAnyC _ _ _ _ _ _ _ (Act.put _ (some 21) (.pointer (some ⟨b, 0, none⟩))) _
  try simp only [Act.put, List.setIfInBounds_toArray, List.set_cons_succ, List.set_cons_zero]
  refine wpAnyC_take (i := 4) (v := rngV F T) rfl (by kernel_rfl) (by kernel_rfl) (by kernel_rfl) (fun _ _ _ h => h) HC.out (by kernel_rfl) ?_ ?_
  · intro W hW; have i0 := (HR.out.ext hW).cell (j := 0) rfl; have i1 := (HR.out.ext hW).cell (j := 1) rfl; go_simp; try (with_reducible rfl)
  change wpAnyC _ _ _ _ _ _ _ (Act.put _ (some 22) (rngV F T)) _
  try simp only [Act.put, List.setIfInBounds_toArray, List.set_cons_succ, List.set_cons_zero]
  refine wpAnyC_one 5 (by kernel_rfl) rfl (by kernel_rfl) (fun KK hKK => ?_)
  go_simp
  refine (HMS.out _ (HXA.out.trans HC.out)).mono ?_
  rintro e w2 ⟨v, rfl, hx2, ho2⟩
  have HX2 := Lib.hid (HC.out.trans hx2)
  have HO2 := Lib.hid ho2
  refine hKK _ _ HX2.out ?_
  clear hKK KK hx2 ho2
  try simp only [Act.put, List.setIfInBounds_toArray, List.set_cons_succ, List.set_cons_zero]
  refine wpAnyC_take (i := 6) (v := v) rfl (by kernel_rfl) (by kernel_rfl) (by kernel_rfl) (fun _ _ _ h => h) HX2.out (by kernel_rfl) ?_ ?_
  · intro W hW; go_simp; try (with_reducible rfl)
  change wpAnyC _ _ _ _ _ _ _ (Act.put _ (some 6) (v)) _
  try simp only [Act.put, List.setIfInBounds_toArray, List.set_cons_succ, List.set_cons_zero]
  refine wpAnyC_take (i := 7) (v := .nilIface) rfl (by kernel_rfl) (by kernel_rfl) (by kernel_rfl) (fun _ _ _ h => h) HX2.out (by kernel_rfl) ?_ ?_
  · intro W hW; go_simp; try (with_reducible rfl)
  change wpAnyC _ _ _ _ _ _ _ (Act.put _ (some 7) (.nilIface)) _
  try simp only [Act.put, List.setIfInBounds_toArray, List.set_cons_succ, List.set_cons_zero]
  refine ⟨by kernel_rfl, ?_⟩
  go_wp2_with fail
  go_ret2
  exact ⟨_, rfl, HXA.out.trans HX2.out, _, HO2.out⟩
end Go.Proofs.YtfgjbbpkkbohhaaGreat
namespace Go.Proofs.YtfgjbbpkkbohhaaGreat
open Go.RowKit Go.Deep
def keyF (n : Nat) : ByteArray := strOfNums [((97 + n % 6 : Nat) : Int)]
def tagF (n : Nat) : ByteArray := if n % 3 = 0 then ⟨#[]⟩ else if n % 3 = 1 then ⟨#[116]⟩ else ⟨#[117]⟩
def lenF (a b : Nat) : Nat := a % 6 * 170 + b % 3 * 30
def txC (a b i : Nat) : Int := ((i : Int) % 256 * 3 + (a : Int) % 6 + 16 * ((b : Int) % 3)) % 256
def textF (a b : Nat) : ByteArray := strOfNums ((List.range (lenF a b)).map (txC a b))
theorem textF_size (a b : Nat) : (textF a b).size = lenF a b := by
  unfold textF
  rw [strOfNums_size]
  simp
theorem keyF_size (n : Nat) : (keyF n).size = 1 := rfl
theorem len_le (a b : Nat) : lenF a b ≤ 910 := by unfold lenF; omega
set_option maxRecDepth 100000 in
theorem key24_any (n : Nat) (hn : n < 256) (w : World) : Calls Tryz.prog 12 #[.int .u8 n] w fun e w' => e = .returned (.string (keyF n)) ∧ Ext w w' := by
  have hb : (convert 36 9 (.slice (some ⟨w.heap.size, 0, none⟩) 1 1)).run Tryz.prog (w.alloc (.cells #[.int .u8 (97 + (n : Int) % 6)] 5)) = .ok (.string (strOfNums [97 + (n : Int) % 6])) (w.alloc (.cells #[.int .u8 (97 + (n : Int) % 6)] 5)) := run_lit_bytes (P := Tryz.prog) 36 5 9 Tryz.underlying36 Tryz.underlying5 Tryz.underlying9 [97 + (n : Int) % 6] w
  have e0 : 0 ≤ (n : Int) % 6 := by omega
  have e1 : (n : Int) % 6 ≤ 5 := by omega
  go_enter Tryz.func12, Tryz.ntmps12
  go_wp2_with fail
  go_ret
  exact ⟨ret_str (by unfold keyF; rw [show ((97 + n % 6 : Nat) : Int) = 97 + (n : Int) % 6 by omega]), (Ext.refl w).alloc _⟩
set_option maxRecDepth 100000 in
theorem tag24_any (n : Nat) (hn : n < 256) (w : World) : Calls Tryz.prog 13 #[.int .u8 n] w fun e w' => e = .returned (.string (tagF n)) ∧ Ext w w' := by
  have h3 : n % 3 = 0 ∨ n % 3 = 1 ∨ n % 3 = 2 := by omega
  go_enter Tryz.func13, Tryz.ntmps13
  rcases h3 with h | h | h
  · have e1 : (n : Int) % 3 = 0 := by omega
    go_wp2_with fail
    go_ret
    exact ⟨ret_str (by unfold tagF; rw [if_pos h]), (Ext.refl w).alloc _⟩
  · have e1 : (n : Int) % 3 = 1 := by omega
    go_wp2_with fail
    go_ret
    exact ⟨ret_str (by unfold tagF; rw [if_neg (by omega), if_pos h]), (Ext.refl w).alloc _⟩
  · have e1 : (n : Int) % 3 = 2 := by omega
    go_wp2_with fail
    go_ret
    exact ⟨ret_str (by unfold tagF; rw [if_neg (by omega), if_neg (by omega)]), (Ext.refl w).alloc _⟩
set_option maxRecDepth 100000 in
theorem length24_any (a b : Nat) (w : World) : Calls Tryz.prog 14 #[.int .u8 a, .int .u8 b] w fun e w' => e = .returned (.int .i64 (lenF a b)) ∧ w = w' := by
  have h1 : (a : Int) % 6 ≤ 5 := by omega
  have h2 : 0 ≤ (a : Int) % 6 := by omega
  have h3 : (b : Int) % 3 ≤ 2 := by omega
  have h4 : 0 ≤ (b : Int) % 3 := by omega
  go_enter Tryz.func14, Tryz.ntmps14
  go_wp2_with fail
  go_ret
  exact ⟨ret_int (by unfold lenF; omega), rfl⟩
set_option maxRecDepth 100000 in
theorem text24_any (a b : Nat) (w : World) :
    Calls Tryz.prog 17 #[.int .u8 a, .int .u8 b] w fun e w' => e = .returned (.string (textF a b)) ∧ Ext w w' := by
  have HLN := Lib.hid (length24_any a b)
  obtain ⟨m, hm⟩ : ∃ m, m = lenF a b := ⟨_, rfl⟩
  have hm2 : m ≤ 910 := by rw [hm]; exact len_le a b
  have HTX := Lib.hid (show textF a b = strOfNums ((List.range m).map (txC a b)) by rw [hm]; rfl)
  rw [← hm] at HLN
  have hmk := fun W => run_make_row' (P := Tryz.prog) 36 5 (.int .u8 0) 1 Tryz.underlying36 (by kernel_rfl) rfl .i64 .i64 m (by omega) (by omega) W
  clear hm
  go_enter Tryz.func17, Tryz.ntmps17
  go_wp2_with (go_at_call 14; refine (HLN.out _).mono ?_; rintro e w' ⟨rfl, rfl⟩)
  go_loopw [13] (fun i wr => ∃ k : Nat, k ≤ m ∧ i = .int .i64 k ∧ wr.rowIs w.heap.size 5 m (fun j => if j < k then .int .u8 (txC a b j) else .int .u8 0) ∧ Ext w wr) (fun i _ => m - (intOf i).toNat)
  case atStart =>
    refine ⟨0, by omega, rfl, ?_, (Ext.refl w).alloc _⟩
    exact (World.rowIs_made w (.int .u8 0) m 5).congr fun j _ => by simp
  case round =>
    obtain ⟨k, hk, rfl, hR, hX⟩ := hrel
    by_cases hlt : k < m
    · have hc := hR.cell hlt
      have hfz := hR.frozen k
      rw [if_neg (Nat.lt_irrefl k)] at hc
      have hki : (k : Int) < (m : Int) := by omega
      go_wp2_with fail
      refine ⟨⟨k + 1, by omega, by go_num, ?_, hX.setCell (Nat.le_refl _) _⟩, by simp [intOf]; omega⟩
      refine (hR.set k _).congr fun j _ => ?_
      by_cases e : j = k
      · rw [if_pos e, if_pos (by omega), e]
        rfl
      · rw [if_neg e]
        by_cases e2 : j < k
        · rw [if_pos e2, if_pos (by omega)]
        · rw [if_neg e2, if_neg (by omega)]
    · obtain rfl : k = m := by omega
      have hcv := run_convert_bytes_arg (P := Tryz.prog) wr 36 5 Tryz.underlying36 Tryz.underlying5 w.heap.size 0 k k ((List.range k).map (txC a b)) (by simp) (fun i hi => by
        rw [Nat.zero_add, hR.cell hi, if_pos hi]
        simp [List.getD, hi]) 9 Tryz.underlying9
      go_wp2_with fail
      go_ret
      exact ⟨ret_str HTX.out.symm, hX⟩
def partF (t : ByteArray) (i : Nat) : ByteArray := if i * 256 < t.size then pcS t i else ⟨#[]⟩
set_option maxRecDepth 100000 in
theorem part24_in (t : ByteArray) (i : Nat) (hl : t.size ≤ 65536) (hi : i * 256 < t.size) (w : World) :
    Calls Tryz.prog 16 #[.string t, .int .i64 i] w fun e w' => e = .returned (.string (pcS t i)) ∧ Ext w w' := by
  have b1 : i * 256 ≤ pto i t.size := by unfold pto; omega
  have b2 : pto i t.size ≤ t.size := by unfold pto; omega
  go_enter Tryz.func16, Tryz.ntmps16
  go_wp2_with (go_at_call 53; refine (piece9_in i t.size hl hi _).mono ?_; rintro e w' ⟨rfl, hx⟩)
  go_ret
  exact ⟨rfl, hx.alloc _⟩
end Go.Proofs.YtfgjbbpkkbohhaaGreat
