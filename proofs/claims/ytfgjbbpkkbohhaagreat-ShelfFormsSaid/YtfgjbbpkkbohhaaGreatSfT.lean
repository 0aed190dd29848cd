/- Chapter 24 without a device: bytes.Clone; what Held says of few pieces. -/
import Derived.Test.YtfgjbbpkkbohhaaGreatSfS
import Derived.Deep.DeepCutAuto
namespace Go.Proofs.YtfgjbbpkkbohhaaGreat
open Go.RowKit Go.Deep
set_option maxRecDepth 100000 in
theorem bclone_nil (w : World) : Calls Tryz.prog 49 #[.slice none 0 0] w fun e w' => e = .returned (.slice none 0 0) ∧ w = w' := by
  have hq := fun W => Lib.run_eql_slice_nil (P := Tryz.prog) W 36 5 none 0 0 0 0 Tryz.underlying36
  go_enter Tryz.func49, Tryz.ntmps49
  go_wp2_with fail
  go_ret
  exact ⟨rfl, rfl⟩
set_option maxRecDepth 100000 in
theorem bclone_any {w : World} (a : Addr) (n c : Nat) (xs : List Value) (hr : Reads w w.heap.size 1 (some a) n xs) (h1 : ∀ u ∈ xs, u.oneCell' = true) (hn : n ≤ 1000000) :
    Calls Tryz.prog 49 #[.slice (some a) n c] w fun e w' => (∃ A' c', e = .returned (.slice A' n c') ∧ Hid (w'.ownsRow w.heap.size 5 1 (.slice A' n c') n xs)) ∧ Ext w w' := by
  obtain ⟨i0, hi0, hz0, hz1, hz2⟩ := info_parts u8_info
  have X1 : Ext w (w.alloc (.cells #[] 5)) := (Ext.refl w).alloc _
  have HR := Lib.hid ((hr.keep (w' := w.alloc (.cells #[] 5)) (fun p hp => Below.cell X1 hp)))
  have hown0 : (w.alloc (.cells #[] 5)).ownsRow w.heap.size 5 1 (.slice (some ⟨w.heap.size, 0, none⟩) 0 0) 0 [] :=
    ⟨rfl, .inr ⟨w.heap.size, 0, #[], rfl, Nat.le_refl _, heap_alloc_new w _, Nat.le_refl _, by simp only [maxLen]; omega, rfl, rfl⟩⟩
  have HO := Lib.hid hown0
  have HX1 := Lib.hid X1
  have hq := fun W => Lib.run_eql_slice_nil (P := Tryz.prog) W 36 5 (some a) n c 0 0 Tryz.underlying36
  clear hr hown0 X1
  go_enter Tryz.func49, Tryz.ntmps49
  go_wp2_with (at_builtin; refine wpList_append_any _ rfl (.tmp 5) (.tmp 6) _ rfl w.heap.size 5 i0 _ 1 1 Tryz.underlying36 hi0 hz0 hz1 hz2 rfl (by omega) _ 0 [] rfl HO.out _ _ n c _ rfl HR.out h1 (by simp only [maxLen]; omega) (by omega) (by simp) ?_; intro v2 w2 hown2 hg2 hat2; obtain ⟨A2, c2, rfl⟩ : ∃ A c, v2 = .slice A n c := (by rcases hown2.2 with ⟨e, e2⟩ | ⟨g, cap, cur, e, -⟩ <;> first | exact ⟨_, _, by rw [e]; rw [Nat.zero_add] at e2; rw [e2]⟩ | exact ⟨_, _, by rw [e, Nat.zero_add]⟩))
  go_ret
  rw [Nat.zero_add, List.nil_append] at hown2
  exact ⟨⟨A2, c2, rfl, Lib.hid hown2⟩, Below.grown HX1.out hg2 HX1.out.size (own_ge (Nat.le_refl _))⟩
theorem hlK_one {len : Nat} {D : Nat → Option ByteArray} (j : Nat) (hj : (D j).isSome = true) (ho : ∀ i, i ≠ j → D i = none) : ∀ n, hlK len D n = if j < n then [(j * 256, pto j len)] else []
  | 0 => by simp [hlK]
  | n + 1 => by
    show hlK len D n ++ (if (D n).isSome = true then [(n * 256, pto n len)] else []) = _
    rw [hlK_one j hj ho n]
    by_cases h : n = j
    · subst h
      rw [if_neg (Nat.lt_irrefl _), if_pos hj, if_pos (Nat.lt_succ_self _), List.nil_append]
    · have e : (if (D n).isSome = true then [(n * 256, pto n len)] else []) = [] := by rw [ho n h]; rfl
      rw [e, List.append_nil]
      by_cases h2 : j < n
      · rw [if_pos h2, if_pos (by omega)]
      · rw [if_neg h2, if_neg (by omega)]
theorem mg_one (x : Nat × Nat) : mg [x] = [x] := by
  unfold mg
  simp [mgS]
theorem held_is {w : World} {B b l len : Nat} {A : Nat → Prop} {tag : ByteArray} {D : Nat → Option ByteArray} (h : BodyAt w B A b l tag len D) (hok : PcOk len D) (hl : len ≤ 3072) : HeldIs w b (mg (hlK len D (npc len))) :=
  fun _ hW => (held_rng (h.ext hW) hok hl).mono fun _ _ ⟨v, e, hx, ho, _⟩ => ⟨v, _, e, hx, ho⟩
theorem held_no {w : World} {B b l len : Nat} {A : Nat → Prop} {tag : ByteArray} (h : BodyAt w B A b l tag len fun _ => none) (hl : len ≤ 65536) : HeldIs w b [] :=
  fun _ hW => (held_none (h.ext hW) hl).mono fun _ _ ⟨e, hx⟩ => ⟨_, 0, e, hx, World.ownsRow_nil _ _ _ _⟩
/-- the bytes of a Meta -/
def MV (w : World) (v : Value) (t : ByteArray) : Prop := (v = .slice none 0 0 ∧ t = ⟨#[]⟩) ∨ ∃ g cap, v = .slice (some ⟨g, 0, none⟩) t.size cap ∧ RowB w g 5 (t.data.toList.map fun b => Value.int .u8 b.toNat)
theorem MV.mod {F : Nat → Prop} {w w' : World} {v : Value} {t : ByteArray} (h : MV w v t) (hm : Mod F w w') (hF : ∀ g, RowB w g 5 (t.data.toList.map fun b => Value.int .u8 b.toNat) → ¬ F g) : MV w' v t := by
  rcases h with h | ⟨g, cap, e, hr⟩
  · exact .inl h
  · exact .inr ⟨g, cap, e, hm.rowB hr (hF g hr)⟩
theorem MV.ext {w w' : World} {v : Value} {t : ByteArray} (h : MV w v t) (hx : Ext w w') : MV w' v t := h.mod (Mod.of_ext (fun _ => False) hx) (fun _ _ h => h)
/-- what a store changes, and a byte row: apart -/
theorem sh_apart {w : World} {B s mp q k d : Nat} {r : Option Nat} {C : Int} {R : Option (ByteArray × Int)} {l : List (ByteArray × Value)} (h : ShAt w B s mp q k d r C R l) {g : Nat} {T : TypeId} {xs : List Value} (hr : RowB w g T xs) (h1 : T ≠ 146) (h2 : T ≠ 192) : ¬ (g = mp ∨ g = q ∨ r = some g) := by
  have hq := h.q.apart_row hr h1 h2
  rintro (e | e | e)
  · exact h.m.apart hr e.symm
  · exact hq.1 e
  · exact hq.2 _ e rfl
/-- a shelf with one object -/
structure OneAt (w : World) (B s mp q k d : Nat) (r : Option Nat) (C : Int) (key : ByteArray) (z : Int) (it : Nat) (A : Option Addr) (n c : Nat) (mt tag : ByteArray) (len : Nat) (asof : Int) (b lb Bb : Nat) (D : Nat → Option ByteArray) : Prop where
  sh : ShAt w B s mp q k d r C (some (key, z)) [(key, .pointer (some ⟨it, 0, none⟩))]
  item : ItemAt w it key A n c tag len asof b
  body : BodyAt w Bb (fun x => x = it ∨ r = some x ∨ x = s ∨ x = mp ∨ x = q ∨ x = k ∨ x = d) b lb tag len D
  meta_ : MV w (.slice A n c) mt
theorem OneAt.ext {w w' : World} {B s mp q k d : Nat} {r : Option Nat} {C : Int} {key : ByteArray} {z : Int} {it : Nat} {A : Option Addr} {n c : Nat} {mt tag : ByteArray} {len : Nat} {asof : Int} {b lb Bb : Nat} {D : Nat → Option ByteArray}
    (h : OneAt w B s mp q k d r C key z it A n c mt tag len asof b lb Bb D) (hx : Ext w w') : OneAt w' B s mp q k d r C key z it A n c mt tag len asof b lb Bb D := ⟨h.sh.ext hx, RowB.ext h.item hx, h.body.ext hx, h.meta_.ext hx⟩
theorem happ_nil (W : World) : (Builtin.append_ #[31, 31] 31 #[.slice none 0 0, .slice none 0 0]).run Tryz.prog W = .ok (.slice none 0 0) W := by kernel_rfl
set_option maxRecDepth 100000 in
/-- the first Put -/
theorem put_first {w : World} {B s mp q k d : Nat} {r : Option Nat} {C : Int} (h : ShAt w B s mp q k d r C none []) (hB : B ≤ w.heap.size) {key tag : ByteArray} (hk : 1 ≤ key.size ∧ key.size ≤ 2048) {A : Option Addr} {n c : Nat} {mt : ByteArray} (hn : n ≤ 8192) {len : Nat} (hl : len ≤ 65536) {asof : Int} (ha : 0 ≤ asof ∧ asof ≤ 1099511627776)
    (hcl : ∀ W, Ext w W → Calls Tryz.prog 49 #[.slice A n c] W fun e w' => (∃ A' c', e = .returned (.slice A' n c') ∧ Hid (MV w' (.slice A' n c') mt)) ∧ Ext W w') (hf : ((n + 64 : Nat) : Int) ≤ C) (hC : C ≤ 1099511627776) :
    Calls Tryz.prog 11 #[.pointer (some ⟨s, 0, none⟩), .agg #[.string key, .slice A n c, .string tag, .int .i64 len, .int .i64 asof]] w fun e w' => e = .returned (.tuple #[.slice none 0 0, .nilIface]) ∧ Mod (fun x => x = mp ∨ x = q ∨ r = some x) w w' ∧
      Hid (∃ r' it A' c' b lb Bb, OneAt w' B s mp q k d r' C key ((n + 64 : Nat) : Int) it A' n c' mt tag len asof b lb Bb (fun _ => none) ∧ w.heap.size ≤ Bb ∧ w.heap.size ≤ it ∧ (r' = r ∨ ∃ g, r' = some g ∧ w.heap.size ≤ g)) := by
  have HS := Lib.hid h
  have HBS := Lib.hid hB
  have HCL := Lib.hid hcl
  have HR := Lib.hid (fun W => right_ok key tag A n c len asof hk hn (by omega) ha W)
  have HK := Lib.hid hk
  have hap := happ_nil
  clear h hB hcl hk ha
  go_enter Tryz.func11, Tryz.ntmps11
  go_upto_region 3 with fail
  obtain ⟨wa, hwa⟩ : ∃ x, x = w.alloc (.cells #[.string key, .slice A n c, .string tag, .int .i64 len, .int .i64 asof] 38) := ⟨_, rfl⟩
  obtain ⟨o, ho⟩ : ∃ o, w.heap.size = o := ⟨_, rfl⟩
  have HXA : Hid (Ext w wa) := Lib.hid (by rw [hwa]; exact (Ext.refl w).alloc _)
  have HOB : Hid (RowB wa o 38 [.string key, .slice A n c, .string tag, .int .i64 len, .int .i64 asof]) := Lib.hid (by rw [hwa, ← ho]; exact row_laid w 38 [.string key, .slice A n c, .string tag, .int .i64 len, .int .i64 asof])
  have HO := Lib.hid ho
  rw [← hwa, ho]
  clear hwa ho
  have c0 := HOB.out.cell (j := 0) rfl
  have c1 := HOB.out.cell (j := 1) rfl
  have c2 := HOB.out.cell (j := 2) rfl
  have c3 := HOB.out.cell (j := 3) rfl
  have c4 := HOB.out.cell (j := 4) rfl
  go_upto_region 4 with (go_at_call 45; refine (HR.out _).mono ?_; rintro e w1 ⟨rfl, hx1⟩)
  have HX1 := Lib.hid (HXA.out.trans hx1)
  have HOB1 := Lib.hid (HOB.out.ext hx1)
  have HS1 := Lib.hid (HS.out.ext HX1.out)
  have HF := Lib.hid (find_no HS1.out key (by have := HK.out.2; unfold maxLen; omega) rfl)
  have d0 := HOB1.out.cell (j := 0) rfl
  clear hx1 c0 c1 c2 c3 c4
  go_upto_region 8 with (go_at_call 46; refine HF.out.mono ?_; rintro e w2 ⟨rfl, rfl⟩)
  clear d0
  refine wp_region_quiet_lit (by kernel_rfl) (by kernel_rfl) ?_
  repeat (go_big_quiet_step (fail))
  refine wpQuiet_nil ?_
  rintro _ ⟨nq, rfl⟩
  have HX2 := Lib.hid (HX1.out.drewN nq)
  have HOB2 := Lib.hid (HOB1.out.ext ((Ext.refl w1).drewN nq))
  have HNW := Lib.hid (new_ok tag len hl (w1.drewN nq) (fun x => x = s ∨ x = mp ∨ x = q ∨ x = k ∨ x = d ∨ r = some x) (fun x hx => by
    have h1 := (HS.out.ext HX2.out)
    rcases hx with rfl | rfl | rfl | rfl | rfl | hr
    · exact h1.row.lt
    · exact h1.m.lt
    · exact h1.q.lt.1
    · exact h1.sk.lt.1
    · exact h1.sk.lt.2
    · exact (h1.q.lt.2 x hr).2))
  have c0 := HOB2.out.cell (j := 2) rfl
  have c3 := HOB2.out.cell (j := 3) rfl
  go_upto_region 13 with (go_at_call 48; refine HNW.out.mono ?_; rintro e w3 ⟨b, lb, rfl, hx3, hb3⟩)
  have HX3 := Lib.hid (HX2.out.trans hx3)
  have HB3 := Lib.hid hb3
  have HOB3 := Lib.hid (HOB2.out.ext hx3)
  have d0 := HOB3.out.cell (j := 0) rfl
  have d1 := HOB3.out.cell (j := 1) rfl
  have d2 := HOB3.out.cell (j := 2) rfl
  have d3 := HOB3.out.cell (j := 3) rfl
  have d4 := HOB3.out.cell (j := 4) rfl
  have HZ3 := Lib.hid hx3.size
  clear hx3 hb3 c0 c3
  go_upto_region 16 with fail
  obtain ⟨w4, hw4⟩ : ∃ x, x = w3.alloc (.cells #[.string key, .slice A n c, .string tag, .int .i64 len, .int .i64 asof, .pointer (some ⟨b, 0, none⟩)] 106) := ⟨_, rfl⟩
  obtain ⟨it, hit⟩ : ∃ z, w3.heap.size = z := ⟨_, rfl⟩
  have X34 : Ext w3 w4 := by rw [hw4]; exact (Ext.refl w3).alloc _
  have HI4 : Hid (RowB w4 it 106 [.string key, .slice A n c, .string tag, .int .i64 len, .int .i64 asof, .pointer (some ⟨b, 0, none⟩)]) := Lib.hid (by rw [hw4, ← hit]; exact row_laid w3 106 [.string key, .slice A n c, .string tag, .int .i64 len, .int .i64 asof, .pointer (some ⟨b, 0, none⟩)])
  rw [← hw4, hit]
  have HX34 := Lib.hid X34
  have HX4 := Lib.hid (HX3.out.trans X34)
  have HB3' := Lib.hid (HB3.out.avoid (fun x => x = it ∨ r = some x ∨ x = s ∨ x = mp ∨ x = q ∨ x = k ∨ x = d) (fun x hx => by
    rcases hx with rfl | hr | rfl | rfl | rfl | rfl | rfl
    · exact .inl (by omega)
    all_goals first | exact .inr (.inr (.inl rfl)) | exact .inr (.inr (.inr (.inl rfl))) | exact .inr (.inr (.inr (.inr (.inl rfl)))) | exact .inr (.inr (.inr (.inr (.inr (.inl rfl))))) | exact .inr (.inr (.inr (.inr (.inr (.inr (.inl rfl)))))) | exact .inr (.inr (.inr (.inr (.inr (.inr (.inr hr))))))))
  have HOB4 := Lib.hid (HOB3.out.ext X34)
  have HIT := Lib.hid hit
  have e1 := HOB4.out.cell (j := 1) rfl
  clear X34 hw4 hit d0 d1 d2 d3 d4
  go_upto_region 17 with (go_at_call 49; refine (HCL.out _ HX4.out).mono ?_; rintro e w5 ⟨⟨A5, c5, rfl, hmv5⟩, hx5⟩; have z1 := hx5.cell (HI4.out.cell (j := 1) rfl); have f1 := (hx5.frozen (HI4.out.cell (j := 1) rfl)).trans (HI4.out.frozen (j := 1) (by simp)))
  have HX35 := Lib.hid (HX34.out.trans hx5)
  have HM5 : Hid (Mod (fun x => x = it) w5 (w5.setCell ⟨it, 1, none⟩ (.slice A5 n c5))) := Lib.hid (Mod.setCell (Mod.refl (fun x => x = it) w5) (p := ⟨it, 1, none⟩) (.inl rfl) _)
  have HI6 : Hid (ItemAt (w5.setCell ⟨it, 1, none⟩ (.slice A5 n c5)) it key A5 n c5 tag len asof b) := Lib.hid ((HI4.out.ext hx5).set 1 _ (by simp))
  have HMV6 := Lib.hid (hmv5.out.mod HM5.out (fun g hr e => (hr.apart (HI4.out.ext hx5) (by decide)) e))
  obtain ⟨w6, hw6⟩ : ∃ x, x = w5.setCell ⟨it, 1, none⟩ (.slice A5 n c5) := ⟨_, rfl⟩
  rw [← hw6] at HI6 HM5 HMV6
  rw [← hw6]
  have HX6 : Hid (Ext w w6) := Lib.hid (((Mod.of_ext _ (HX3.out.trans HX35.out)).then HM5.out (fun i hi => .inr (by
    subst hi
    rw [← HIT.out]
    exact HX3.out.size))).ext (F := fun _ => False) (fun _ h => h.elim))
  have hsw := HS.out.ext HX3.out
  have HS6 := Lib.hid (HS.out.ext HX6.out)
  have HB6 := Lib.hid ((HB3'.out.ext HX35.out).mod HM5.out (fun x hx => .inl (.inl hx)))
  have HOB6 := Lib.hid (HM5.out.rowB (HOB3.out.ext HX35.out) (fun e => by
    have := HOB3.out.lt
    rw [HIT.out] at this
    omega))
  have HER := Lib.hid (erase_nil HS6.out key)
  have g0 := HOB6.out.cell (j := 0) rfl
  clear hw6 z1 f1 e1 hx5 hmv5
  go_upto_region 18 with (go_at_call 50; refine HER.out.mono ?_; rintro e w7 ⟨rfl, rfl⟩)
  have HST := Lib.hid (store_fits HS6.out (Nat.le_trans HBS.out HX6.out.size) HI6.out (held_no HB6.out hl) (by simp) (by simp) (by have := HK.out.2; unfold maxLen; omega) hn (by simp) (by simpa [sumR] using hf) (by simp [sumR]) hC)
  clear g0
  go_wp2_with (go_at_call 47; refine HST.out.mono ?_; rintro e w8 ⟨rfl, hm8, hq8⟩)
  go_ret2
  refine ⟨rfl, (Mod.of_ext _ HX6.out).trans hm8, Lib.hid ?_⟩
  obtain ⟨r', h1, h2⟩ := hq8.out
  have hi8 : ItemAt w8 it key A5 n c5 tag len asof b := hm8.rowB HI6.out (fun h => by
    have hq := HS6.out.q.apart_row HI6.out (by decide) (by decide)
    rcases h with h | h | h
    · exact HS6.out.m.apart HI6.out h.symm
    · exact hq.1 h
    · exact hq.2 _ h rfl)
  have hb8 := ((HB6.out.avoid (fun x => (x = it ∨ r = some x ∨ x = s ∨ x = mp ∨ x = q ∨ x = k ∨ x = d) ∨ w6.heap.size ≤ x) (fun x hx => hx.elim (fun h => .inr (.inr h)) .inl)).mod hm8 (fun x hx => .inl (.inl (by
    rcases hx with h | h | h
    · exact .inr (.inr (.inr (.inl h)))
    · exact .inr (.inr (.inr (.inr (.inl h))))
    · exact .inr (.inl h)))))
  have e8 : (n + 64 + sumR [] : Nat) = n + 64 := by simp [sumR]
  rw [e8] at h1
  refine ⟨r', it, A5, c5, b, lb, (w1.drewN nq).heap.size, ⟨h1, hi8, ?_, HMV6.out.mod hm8 (fun g hr => sh_apart HS6.out hr (by decide) (by decide))⟩, HX2.out.size, by rw [← HIT.out]; exact HX3.out.size, h2.imp id (fun ⟨g, e, hg⟩ => ⟨g, e, Nat.le_trans HX6.out.size hg⟩)⟩
  refine hb8.avoid _ (fun x hx => .inr (.inr ?_))
  rcases hx with h | h | h
  · exact .inl (.inl h)
  · rcases h2 with e | ⟨g, e, hg⟩
    · exact .inl (.inr (.inl (e ▸ h)))
    · refine .inr ?_
      rw [e] at h
      cases h
      exact hg
  · exact .inl (.inr (.inr h))
theorem bs_ext24 {a b : ByteArray} (h : a.toList = b.toList) : a = b := by
  rw [ByteArray.toList_eq, ByteArray.toList_eq] at h
  exact ByteArray.ext (Array.toList_inj.1 h)
set_option maxRecDepth 100000 in
/-- a Put at the same key with another tag, or without one: a body without pieces -/
theorem put_new {w : World} {B s mp q k d : Nat} {r : Option Nat} {C : Int} {key tag tag0 : ByteArray} {z0 : Int} {it0 n0 c00 b0 : Nat} {A0 : Option Addr} {len0 asof0 : Int} (h : ShAt w B s mp q k d r C (some (key, z0)) [(key, .pointer (some ⟨it0, 0, none⟩))]) (hi0 : ItemAt w it0 key A0 n0 c00 tag0 len0 asof0 b0) (ht : tag = ⟨#[]⟩ ∨ tag0 ≠ tag) (hB : B ≤ w.heap.size) (hk : 1 ≤ key.size ∧ key.size ≤ 2048) {A : Option Addr} {n c : Nat} {mt : ByteArray} (hn : n ≤ 8192) {len : Nat} (hl : len ≤ 65536) {asof : Int} (ha : 0 ≤ asof ∧ asof ≤ 1099511627776)
    (hcl : ∀ W, Ext w W → Calls Tryz.prog 49 #[.slice A n c] W fun e w' => (∃ A' c', e = .returned (.slice A' n c') ∧ Hid (MV w' (.slice A' n c') mt)) ∧ Ext W w') (hf : ((n + 64 : Nat) : Int) ≤ C) (hC : C ≤ 1099511627776) :
    Calls Tryz.prog 11 #[.pointer (some ⟨s, 0, none⟩), .agg #[.string key, .slice A n c, .string tag, .int .i64 len, .int .i64 asof]] w fun e w' => e = .returned (.tuple #[.slice none 0 0, .nilIface]) ∧ Mod (fun x => x = mp ∨ x = q ∨ r = some x) w w' ∧
      Hid (∃ r' it A' c' b lb Bb, OneAt w' B s mp q k d r' C key ((n + 64 : Nat) : Int) it A' n c' mt tag len asof b lb Bb (fun _ => none) ∧ w.heap.size ≤ Bb ∧ w.heap.size ≤ it ∧ (r' = r ∨ ∃ g, r' = some g ∧ w.heap.size ≤ g)) := by
  have HS := Lib.hid h
  have HBS := Lib.hid hB
  have HCL := Lib.hid hcl
  have HR := Lib.hid (fun W => right_ok key tag A n c len asof hk hn (by omega) ha W)
  have HK := Lib.hid hk
  have hap := happ_nil
  have HI0 := Lib.hid hi0
  clear h hB hcl hk ha hi0
  go_enter Tryz.func11, Tryz.ntmps11
  go_upto_region 3 with fail
  obtain ⟨wa, hwa⟩ : ∃ x, x = w.alloc (.cells #[.string key, .slice A n c, .string tag, .int .i64 len, .int .i64 asof] 38) := ⟨_, rfl⟩
  obtain ⟨o, ho⟩ : ∃ o, w.heap.size = o := ⟨_, rfl⟩
  have HXA : Hid (Ext w wa) := Lib.hid (by rw [hwa]; exact (Ext.refl w).alloc _)
  have HOB : Hid (RowB wa o 38 [.string key, .slice A n c, .string tag, .int .i64 len, .int .i64 asof]) := Lib.hid (by rw [hwa, ← ho]; exact row_laid w 38 [.string key, .slice A n c, .string tag, .int .i64 len, .int .i64 asof])
  have HO := Lib.hid ho
  rw [← hwa, ho]
  clear hwa ho
  have c0 := HOB.out.cell (j := 0) rfl
  have c1 := HOB.out.cell (j := 1) rfl
  have c2 := HOB.out.cell (j := 2) rfl
  have c3 := HOB.out.cell (j := 3) rfl
  have c4 := HOB.out.cell (j := 4) rfl
  go_upto_region 4 with (go_at_call 45; refine (HR.out _).mono ?_; rintro e w1 ⟨rfl, hx1⟩)
  have HX1 := Lib.hid (HXA.out.trans hx1)
  have HOB1 := Lib.hid (HOB.out.ext hx1)
  have HS1 := Lib.hid (HS.out.ext HX1.out)
  have HF := Lib.hid (find_yes HS1.out key (by have := HK.out.2; unfold maxLen; omega) (it := it0) (by simp [mget]))
  have d0 := HOB1.out.cell (j := 0) rfl
  clear hx1 c0 c1 c2 c3 c4
  go_upto_region 8 with (go_at_call 46; refine HF.out.mono ?_; rintro e w2 ⟨rfl, rfl⟩)
  clear d0
  have q2 := fun q => ((Ext.refl w1).drewN q).cell (HOB1.out.cell (j := 2) rfl)
  have i2 := fun q => (HX1.out.drewN q).cell (HI0.out.cell (j := 2) rfl)
  obtain ⟨T1, hT1⟩ : ∃ T, (!tag.toList.isEmpty) = T := ⟨_, rfl⟩
  obtain ⟨T2, hT2⟩ : ∃ T, (tag0.toList == tag.toList) = T := ⟨_, rfl⟩
  have HT : Hid (T1 = false ∨ T2 = false) := Lib.hid (by
    rcases ht with h | h
    · left; rw [← hT1, h, ByteArray.toList_eq]; rfl
    · right; rw [← hT2]; simpa using fun e => h (bs_ext24 e))
  go_cut [49] (fun v wx => v = .bool false ∧ Hid (∃ nq, wx = w1.drewN nq))
  case first =>
    cases T1 with
    | false =>
      refine wp_region_quiet_lit (by kernel_rfl) (by kernel_rfl) ?_
      repeat (go_big_quiet_step (fail))
      refine wpQuiet_nil ?_
      rintro _ ⟨nq, rfl⟩
      go_wp2_with fail
      go_meet
      exact ⟨rfl, Lib.hid ⟨nq, rfl⟩⟩
    | true =>
      obtain rfl : T2 = false := HT.out.resolve_left (by simp)
      refine wp_region_quiet_lit (by kernel_rfl) (by kernel_rfl) ?_
      repeat (go_big_quiet_step (fail))
      refine wpQuiet_nil ?_
      rintro _ ⟨nq, rfl⟩
      go_wp2_with fail
      go_meet
      exact ⟨rfl, Lib.hid ⟨nq, rfl⟩⟩
  case rest =>
  obtain ⟨rfl, hnq⟩ := hcut
  obtain ⟨nq, rfl⟩ := hnq.out
  clear q2 i2 hT1 hT2 hnq
  have HX2 := Lib.hid (HX1.out.drewN nq)
  have HOB2 := Lib.hid (HOB1.out.ext ((Ext.refl w1).drewN nq))
  have HNW := Lib.hid (new_ok tag len hl (w1.drewN nq) (fun x => x = s ∨ x = mp ∨ x = q ∨ x = k ∨ x = d ∨ r = some x) (fun x hx => by
    have h1 := (HS.out.ext HX2.out)
    rcases hx with rfl | rfl | rfl | rfl | rfl | hr
    · exact h1.row.lt
    · exact h1.m.lt
    · exact h1.q.lt.1
    · exact h1.sk.lt.1
    · exact h1.sk.lt.2
    · exact (h1.q.lt.2 x hr).2))
  have c0 := HOB2.out.cell (j := 2) rfl
  have c3 := HOB2.out.cell (j := 3) rfl
  go_upto_region 13 with (go_at_call 48; refine HNW.out.mono ?_; rintro e w3 ⟨b, lb, rfl, hx3, hb3⟩)
  have HX3 := Lib.hid (HX2.out.trans hx3)
  have HB3 := Lib.hid hb3
  have HOB3 := Lib.hid (HOB2.out.ext hx3)
  have d0 := HOB3.out.cell (j := 0) rfl
  have d1 := HOB3.out.cell (j := 1) rfl
  have d2 := HOB3.out.cell (j := 2) rfl
  have d3 := HOB3.out.cell (j := 3) rfl
  have d4 := HOB3.out.cell (j := 4) rfl
  have HZ3 := Lib.hid hx3.size
  clear hx3 hb3 c0 c3
  go_upto_region 16 with fail
  obtain ⟨w4, hw4⟩ : ∃ x, x = w3.alloc (.cells #[.string key, .slice A n c, .string tag, .int .i64 len, .int .i64 asof, .pointer (some ⟨b, 0, none⟩)] 106) := ⟨_, rfl⟩
  obtain ⟨it, hit⟩ : ∃ z, w3.heap.size = z := ⟨_, rfl⟩
  have X34 : Ext w3 w4 := by rw [hw4]; exact (Ext.refl w3).alloc _
  have HI4 : Hid (RowB w4 it 106 [.string key, .slice A n c, .string tag, .int .i64 len, .int .i64 asof, .pointer (some ⟨b, 0, none⟩)]) := Lib.hid (by rw [hw4, ← hit]; exact row_laid w3 106 [.string key, .slice A n c, .string tag, .int .i64 len, .int .i64 asof, .pointer (some ⟨b, 0, none⟩)])
  rw [← hw4, hit]
  have HX34 := Lib.hid X34
  have HX4 := Lib.hid (HX3.out.trans X34)
  have HB3' := Lib.hid (HB3.out.avoid (fun x => x = it ∨ r = some x ∨ x = s ∨ x = mp ∨ x = q ∨ x = k ∨ x = d) (fun x hx => by
    rcases hx with rfl | hr | rfl | rfl | rfl | rfl | rfl
    · exact .inl (by omega)
    all_goals first | exact .inr (.inr (.inl rfl)) | exact .inr (.inr (.inr (.inl rfl))) | exact .inr (.inr (.inr (.inr (.inl rfl)))) | exact .inr (.inr (.inr (.inr (.inr (.inl rfl))))) | exact .inr (.inr (.inr (.inr (.inr (.inr (.inl rfl)))))) | exact .inr (.inr (.inr (.inr (.inr (.inr (.inr hr))))))))
  have HOB4 := Lib.hid (HOB3.out.ext X34)
  have HIT := Lib.hid hit
  have e1 := HOB4.out.cell (j := 1) rfl
  clear X34 hw4 hit d0 d1 d2 d3 d4
  go_upto_region 17 with (go_at_call 49; refine (HCL.out _ HX4.out).mono ?_; rintro e w5 ⟨⟨A5, c5, rfl, hmv5⟩, hx5⟩; have z1 := hx5.cell (HI4.out.cell (j := 1) rfl); have f1 := (hx5.frozen (HI4.out.cell (j := 1) rfl)).trans (HI4.out.frozen (j := 1) (by simp)))
  have HX35 := Lib.hid (HX34.out.trans hx5)
  have HM5 : Hid (Mod (fun x => x = it) w5 (w5.setCell ⟨it, 1, none⟩ (.slice A5 n c5))) := Lib.hid (Mod.setCell (Mod.refl (fun x => x = it) w5) (p := ⟨it, 1, none⟩) (.inl rfl) _)
  have HI6 : Hid (ItemAt (w5.setCell ⟨it, 1, none⟩ (.slice A5 n c5)) it key A5 n c5 tag len asof b) := Lib.hid ((HI4.out.ext hx5).set 1 _ (by simp))
  have HMV6 := Lib.hid (hmv5.out.mod HM5.out (fun g hr e => (hr.apart (HI4.out.ext hx5) (by decide)) e))
  obtain ⟨w6, hw6⟩ : ∃ x, x = w5.setCell ⟨it, 1, none⟩ (.slice A5 n c5) := ⟨_, rfl⟩
  rw [← hw6] at HI6 HM5 HMV6
  rw [← hw6]
  have HX6 : Hid (Ext w w6) := Lib.hid (((Mod.of_ext _ (HX3.out.trans HX35.out)).then HM5.out (fun i hi => .inr (by
    subst hi
    rw [← HIT.out]
    exact HX3.out.size))).ext (F := fun _ => False) (fun _ h => h.elim))
  have hsw := HS.out.ext HX3.out
  have HS6 := Lib.hid (HS.out.ext HX6.out)
  have HB6 := Lib.hid ((HB3'.out.ext HX35.out).mod HM5.out (fun x hx => .inl (.inl hx)))
  have HOB6 := Lib.hid (HM5.out.rowB (HOB3.out.ext HX35.out) (fun e => by
    have := HOB3.out.lt
    rw [HIT.out] at this
    omega))
  have HER := Lib.hid (erase_nil HS6.out key)
  have g0 := HOB6.out.cell (j := 0) rfl
  clear hw6 z1 f1 e1 hx5 hmv5
  go_upto_region 18 with (go_at_call 50; refine HER.out.mono ?_; rintro e w7 ⟨rfl, rfl⟩)
  have HST := Lib.hid (store_fits HS6.out (Nat.le_trans HBS.out HX6.out.size) HI6.out (held_no HB6.out hl) (by simp) (by simp) (by have := HK.out.2; unfold maxLen; omega) hn (by rintro p hp; cases hp; rfl) (by simpa [sumR] using hf) (by simp [sumR]) hC)
  rw [show mput [(key, Value.pointer (some ⟨it0, 0, none⟩))] key (.pointer (some ⟨it, 0, none⟩)) = [(key, .pointer (some ⟨it, 0, none⟩))] by simp [mput]] at HST
  clear g0
  go_wp2_with (go_at_call 47; refine HST.out.mono ?_; rintro e w8 ⟨rfl, hm8, hq8⟩)
  go_ret2
  refine ⟨rfl, (Mod.of_ext _ HX6.out).trans hm8, Lib.hid ?_⟩
  obtain ⟨r', h1, h2⟩ := hq8.out
  have hi8 : ItemAt w8 it key A5 n c5 tag len asof b := hm8.rowB HI6.out (fun h => by
    have hq := HS6.out.q.apart_row HI6.out (by decide) (by decide)
    rcases h with h | h | h
    · exact HS6.out.m.apart HI6.out h.symm
    · exact hq.1 h
    · exact hq.2 _ h rfl)
  have hb8 := ((HB6.out.avoid (fun x => (x = it ∨ r = some x ∨ x = s ∨ x = mp ∨ x = q ∨ x = k ∨ x = d) ∨ w6.heap.size ≤ x) (fun x hx => hx.elim (fun h => .inr (.inr h)) .inl)).mod hm8 (fun x hx => .inl (.inl (by
    rcases hx with h | h | h
    · exact .inr (.inr (.inr (.inl h)))
    · exact .inr (.inr (.inr (.inr (.inl h))))
    · exact .inr (.inl h)))))
  have e8 : (n + 64 + sumR [] : Nat) = n + 64 := by simp [sumR]
  rw [e8] at h1
  refine ⟨r', it, A5, c5, b, lb, (w1.drewN nq).heap.size, ⟨h1, hi8, ?_, HMV6.out.mod hm8 (fun g hr => sh_apart HS6.out hr (by decide) (by decide))⟩, HX2.out.size, by rw [← HIT.out]; exact HX3.out.size, h2.imp id (fun ⟨g, e, hg⟩ => ⟨g, e, Nat.le_trans HX6.out.size hg⟩)⟩
  refine hb8.avoid _ (fun x hx => .inr (.inr ?_))
  rcases hx with h | h | h
  · exact .inl (.inl h)
  · rcases h2 with e | ⟨g, e, hg⟩
    · exact .inl (.inr (.inl (e ▸ h)))
    · refine .inr ?_
      rw [e] at h
      cases h
      exact hg
  · exact .inl (.inr (.inr h))
end Go.Proofs.YtfgjbbpkkbohhaaGreat
