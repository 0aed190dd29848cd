/- Chapter 24: an object that is greater than the shelf: it is dropped at once. And what is refused. Chapter 24: a Put of an object that is greater than the shelf; what is refused. Chapter 24: refused calls, nil receivers, Recover without a device, Get of a key that is not there, Sync. Chapter 24: Get of a key that is not there; the model's functions find, flash, size. -/
import Derived.Test.YtfgjbbpkkbohhaaGreatSfY
import Derived.Test.YtfgjbbpkkbohhaaGreatSoft
import Derived.Test.YtfgjbbpkkbohhaaGreatPcF
namespace Go.Proofs.YtfgjbbpkkbohhaaGreat
open Go.RowKit Go.Deep
theorem mget_put (l : List (ByteArray × Value)) (k : ByteArray) (v : Value) : mget (mput l k v) k = some v := by
  unfold mput
  split
  · next h =>
    unfold mget
    induction l with
    | nil => simp at h
    | cons p r ih =>
      rw [List.map_cons]
      by_cases e : p.1 = k
      · rw [if_pos e, List.find?_cons_of_pos (by simp)]; rfl
      · rw [if_neg e, List.find?_cons_of_neg (by simpa using e)]
        exact ih (by simpa [e] using h)
  · next h =>
    unfold mget
    rw [List.find?_append, List.find?_eq_none.2 (fun p hp => by
      intro e
      exact h (List.any_eq_true.2 ⟨p, hp, e⟩))]
    simp
theorem str_info24 : (Tryz.prog.info? 9).map (fun i => (i.zero, i.size, i.bytes)) = some (some (.string ⟨#[]⟩), 1, 16) := by kernel_rfl
set_option maxRecDepth 100000 in
theorem burn_nil {w : World} {B s mp q k d : Nat} {r : Option Nat} {C : Int} {R : Option (ByteArray × Int)} {l : List (ByteArray × Value)} (h : ShAt w B s mp q k d r C R l) (it : Value) : Calls Tryz.prog 92 #[.pointer (some ⟨s, 0, none⟩), it] w fun e w' => e = .returned (.bool false) ∧ Ext w w' := by
  have c2 := fun q => ((Ext.refl w).drewN q).cell h.log
  clear h
  go_enter Tryz.func92, Tryz.ntmps92
  go_upto_region 1 with fail
  refine wp_region_quiet_lit (by kernel_rfl) (by kernel_rfl) ?_
  repeat (go_big_quiet_step (fail))
  refine wpQuiet_nil ?_
  rintro _ ⟨nq, rfl⟩
  go_wp2_with fail
  go_ret
  exact ⟨rfl, (Ext.refl w).drewN nq⟩
set_option maxRecDepth 100000 in
theorem store_big {w : World} {B s mp q k d : Nat} {r : Option Nat} {C : Int} {R : Option (ByteArray × Int)} {l : List (ByteArray × Value)} (h : ShAt w B s mp q k d r C R l) (hB : B ≤ w.heap.size) {it : Nat} {key : ByteArray} {A : Option Addr} {n c : Nat} {tag : ByteArray} {len asof : Int} {b : Nat} (hi : ItemAt w it key A n c tag len asof b)
    {xs : List (Nat × Nat)} (hh : HeldIs w b xs) (hxs : ∀ x ∈ xs, x.1 ≤ x.2 ∧ x.2 ≤ 65536) (hxl : xs.length ≤ 300) (hks : key.size ≤ maxLen) (hn : n ≤ 8192) (hk : ∀ p, R = some p → p.1 = key) (hf : C < ((n + 64 + sumR xs : Nat) : Int)) (hsx : sumR xs ≤ 65536) (hl : ∀ p ∈ l, p.1 = key) :
    Calls Tryz.prog 47 #[.pointer (some ⟨s, 0, none⟩), .pointer (some ⟨it, 0, none⟩)] w fun e w' => (∃ g c, e = .returned (.slice (some ⟨g, 0, none⟩) 1 c) ∧ Hid (w'.cell? ⟨g, 0, none⟩ = some (.string key) ∧ w.heap.size ≤ g)) ∧ Mod (fun x => x = mp ∨ x = q ∨ r = some x) w w' ∧
      Hid (ShAt w' B s mp q k d r C none []) := by
  have z1 := hi.cell (j := 1) rfl
  have z5 := hi.cell (j := 5) rfl
  have HS := Lib.hid h
  have HI := Lib.hid hi
  have HH := Lib.hid hh
  have HXS := Lib.hid hxs
  have HK := Lib.hid hk
  have HBS := Lib.hid hB
  have HF := Lib.hid hf
  have HSL := Lib.hid (sumR_le xs)
  clear h hi hh hxs hk hB hf
  go_enter Tryz.func47, Tryz.ntmps47
  go_upto_region 3 with (go_at_call 90; refine (HH.out _ (Ext.refl _)).mono ?_; rintro e w1 ⟨v1, B1, rfl, hx1, ho1⟩; obtain ⟨A1, cap1, rfl, hc1, hra⟩ := ho1.shape2)
  obtain ⟨m, hm⟩ : ∃ m, xs.length = m := ⟨_, rfl⟩
  have HM := Lib.hid hm
  rw [hm] at hc1 hra hxl ⊢
  have HRA := Lib.hid hra
  have HX1 := Lib.hid hx1
  clear hra hx1 ho1 hm z1 z5
  go_wp2_with fail
  go_loopw [5, 25] (fun sz i wr => ∃ j : Nat, j ≤ m ∧ i = .int .i64 j ∧ sz = .int .i64 ((n + 64 + sumR (xs.take j) : Nat) : Int) ∧ Ext w1 wr) (fun _ i _ => m - (intOf i).toNat)
  case atStart => exact ⟨0, by omega, rfl, by simp [sumR], Ext.refl _⟩
  case round =>
    obtain ⟨j, hj, rfl, rfl, hX⟩ := hrel
    by_cases hlt : j < m
    · have hji : (j : Int) < (m : Int) := by omega
      have hj6 : (j : Int) < 301 := by omega
      have hjc : j < cap1 := by omega
      obtain ⟨g, rfl, hg⟩ := HRA.out (by omega)
      obtain ⟨⟨f, t⟩, hp⟩ : ∃ p, xs[j]? = some p := ⟨_, List.getElem?_eq_getElem (by rw [HM.out]; exact hlt)⟩
      have hgg := (hg.ext hX) j (by rw [HM.out]; exact hlt)
      rw [hp] at hgg
      simp only [Option.getD_some] at hgg
      have c0 := hgg.1
      have c1 := hgg.2
      have hft := HXS.out _ (List.mem_of_getElem? hp)
      simp only at hft
      have t1 : f ≤ t := hft.1
      have t2 : t ≤ 65536 := hft.2
      have HT := Lib.hid (sumR_take hp)
      have hsl := HSL.out j
      have HXX := Lib.hid hX
      clear hp hg hgg hft hX
      obtain ⟨S, hS⟩ : ∃ S, sumR (xs.take j) = S := ⟨_, rfl⟩
      rw [hS] at HT hsl ⊢
      have hs2 : S ≤ 65536 := by omega
      clear hS hsl
      go_wp2_with fail
      go_roundw
      case rel => exact ⟨j + 1, by omega, by go_num, by rw [HT.out]; go_num, HXX.out.alloc _⟩
      case measure => simp [intOf]; omega
    · obtain rfl : j = m := by omega
      have htk : xs.take j = xs := by rw [← HM.out, List.take_length]
      rw [htk]
      have HX := Lib.hid (HX1.out.trans hX)
      clear htk hX
      go_upto_region 7 with fail
      have HC0 := Lib.hid (show RowB wr.drew s 99 [.pointer (some ⟨q, 0, none⟩), .map (some mp), .pointer none, .pointer (some ⟨k, 0, none⟩)] ∧ ItemAt wr.drew it key A n c tag len asof b from ⟨HS.out.row.ext HX.out.drew, RowB.ext HI.out HX.out.drew⟩)
      have HMS := Lib.hid (HS.out.m.ext HX.out.drew)
      refine wp_region_C (C := fun W => RowB W s 99 [.pointer (some ⟨q, 0, none⟩), .map (some mp), .pointer none, .pointer (some ⟨k, 0, none⟩)] ∧ ItemAt W it key A n c tag len asof b) (by kernel_rfl) ?_
      refine wpAnyC_take (i := 0) (v := .pointer (some ⟨s, 0, none⟩)) rfl (by kernel_rfl) (by kernel_rfl) (by kernel_rfl) (fun _ _ _ h => h) HC0.out (by kernel_rfl) ?_ ?_
      · intro W hW; go_simp; try (with_reducible rfl)
      change wpAnyC _ _ _ _ _ _ _ (Act.put _ (some 37) (.pointer (some ⟨s, 0, none⟩))) _
      try simp only [Act.put, List.setIfInBounds_toArray, List.set_cons_succ, List.set_cons_zero]
      refine wpAnyC_take (i := 1) (v := .pointer (some ⟨s, 0, none⟩)) rfl (by kernel_rfl) (by kernel_rfl) (by kernel_rfl) (fun _ _ _ h => h) HC0.out (by kernel_rfl) ?_ ?_
      · intro W hW; go_simp; try (with_reducible rfl)
      change wpAnyC _ _ _ _ _ _ _ (Act.put _ (some 38) (.pointer (some ⟨s, 0, none⟩))) _
      try simp only [Act.put, List.setIfInBounds_toArray, List.set_cons_succ, List.set_cons_zero]
      refine wpAnyC_take (i := 2) (v := .pointer (some ⟨s, 1, none⟩)) rfl (by kernel_rfl) (by kernel_rfl) (by kernel_rfl) (fun _ _ _ h => h) HC0.out (by kernel_rfl) ?_ ?_
      · intro W hW; go_simp; try (with_reducible rfl)
      change wpAnyC _ _ _ _ _ _ _ (Act.put _ (some 39) (.pointer (some ⟨s, 1, none⟩))) _
      try simp only [Act.put, List.setIfInBounds_toArray, List.set_cons_succ, List.set_cons_zero]
      refine wpAnyC_take (i := 3) (v := .map (some mp)) rfl (by kernel_rfl) (by kernel_rfl) (by kernel_rfl) (fun _ _ _ h => h) HC0.out (by kernel_rfl) ?_ ?_
      · intro W hW; have z1 := hW.1.cell (j := 1) rfl; go_simp; try (with_reducible rfl)
      change wpAnyC _ _ _ _ _ _ _ (Act.put _ (some 40) (.map (some mp))) _
      try simp only [Act.put, List.setIfInBounds_toArray, List.set_cons_succ, List.set_cons_zero]
      refine wpAnyC_take (i := 4) (v := .pointer (some ⟨it, 0, none⟩)) rfl (by kernel_rfl) (by kernel_rfl) (by kernel_rfl) (fun _ _ _ h => h) HC0.out (by kernel_rfl) ?_ ?_
      · intro W hW; go_simp; try (with_reducible rfl)
      change wpAnyC _ _ _ _ _ _ _ (Act.put _ (some 41) (.pointer (some ⟨it, 0, none⟩))) _
      try simp only [Act.put, List.setIfInBounds_toArray, List.set_cons_succ, List.set_cons_zero]
      refine wpAnyC_take (i := 5) (v := .pointer (some ⟨it, 0, none⟩)) rfl (by kernel_rfl) (by kernel_rfl) (by kernel_rfl) (fun _ _ _ h => h) HC0.out (by kernel_rfl) ?_ ?_
      · intro W hW; go_simp; try (with_reducible rfl)
      change wpAnyC _ _ _ _ _ _ _ (Act.put _ (some 42) (.pointer (some ⟨it, 0, none⟩))) _
      try simp only [Act.put, List.setIfInBounds_toArray, List.set_cons_succ, List.set_cons_zero]
      refine wpAnyC_take (i := 6) (v := .pointer (some ⟨it, 0, none⟩)) rfl (by kernel_rfl) (by kernel_rfl) (by kernel_rfl) (fun _ _ _ h => h) HC0.out (by kernel_rfl) ?_ ?_
      · intro W hW; go_simp; try (with_reducible rfl)
      change wpAnyC _ _ _ _ _ _ _ (Act.put _ (some 43) (.pointer (some ⟨it, 0, none⟩))) _
      try simp only [Act.put, List.setIfInBounds_toArray, List.set_cons_succ, List.set_cons_zero]
      refine wpAnyC_take (i := 7) (v := .pointer (some ⟨it, 0, none⟩)) rfl (by kernel_rfl) (by kernel_rfl) (by kernel_rfl) (fun _ _ _ h => h) HC0.out (by kernel_rfl) ?_ ?_
      · intro W hW; go_simp; try (with_reducible rfl)
      change wpAnyC _ _ _ _ _ _ _ (Act.put _ (some 44) (.pointer (some ⟨it, 0, none⟩))) _
      try simp only [Act.put, List.setIfInBounds_toArray, List.set_cons_succ, List.set_cons_zero]
      refine wpAnyC_take (i := 8) (v := .string key) rfl (by kernel_rfl) (by kernel_rfl) (by kernel_rfl) (fun _ _ _ h => h) HC0.out (by kernel_rfl) ?_ ?_
      · intro W hW; have z0 := RowB.cell hW.2 (j := 0) rfl; go_simp; try (with_reducible rfl)
      change wpAnyC _ _ _ _ _ _ _ (Act.put _ (some 45) (.string key)) _
      try simp only [Act.put, List.setIfInBounds_toArray, List.set_cons_succ, List.set_cons_zero]
      refine wpAnyC_take (i := 9) (v := .pointer (some ⟨it, 0, none⟩)) rfl (by kernel_rfl) (by kernel_rfl) (by kernel_rfl) (fun _ _ _ h => h) HC0.out (by kernel_rfl) ?_ ?_
      · intro W hW; go_simp; try (with_reducible rfl)
      change wpAnyC _ _ _ _ _ _ _ (Act.put _ (some 46) (.pointer (some ⟨it, 0, none⟩))) _
      try simp only [Act.put, List.setIfInBounds_toArray, List.set_cons_succ, List.set_cons_zero]
      obtain ⟨w5, hst, hm5, hz5, hg5⟩ := HMS.out.store Tryz.underlying97 Tryz.underlying9 key hks (.pointer (some ⟨it, 0, none⟩))
      have hsm := HMS.out.apart HC0.out.1
      have him := HMS.out.apart HC0.out.2
      have HM5 := Lib.hid (show Mod (fun x => x = mp) wr.drew w5 from (Mod.refl _ _).grown hg5 (fun g hg => .inl (by cases hg; rfl)))
      have HC5 := Lib.hid (show RowB w5 s 99 [.pointer (some ⟨q, 0, none⟩), .map (some mp), .pointer none, .pointer (some ⟨k, 0, none⟩)] ∧ ItemAt w5 it key A n c tag len asof b from ⟨HM5.out.rowB HC0.out.1 (fun e => hsm e.symm), HM5.out.rowB HC0.out.2 (fun e => him e.symm)⟩)
      have HMS5 := Lib.hid hm5
      clear hm5 hz5 hg5 hsm him
      refine wpAnyC_one 10 (by kernel_rfl) rfl (by kernel_rfl) (fun KK hKK => ?_)
      go_simp
      refine hKK _ _ HC5.out ?_
      clear hKK KK hst
      refine ⟨by kernel_rfl, ?_⟩
      go_upto_region 9 with fail
      have HQW := Lib.hid (HS.out.q.ext HX.out.drew)
      have hqm := HQW.out.apart_map HMS.out
      have HQ5 := Lib.hid (HQW.out.mod HM5.out hqm.1 hqm.2)
      have HC6 := Lib.hid (show RowB w5.drew s 99 [.pointer (some ⟨q, 0, none⟩), .map (some mp), .pointer none, .pointer (some ⟨k, 0, none⟩)] ∧ ItemAt w5.drew it key A n c tag len asof b from ⟨HC5.out.1.ext (Ext.refl _).drew, RowB.ext HC5.out.2 (Ext.refl _).drew⟩)
      have HQ6 := Lib.hid (HQ5.out.ext (Ext.refl w5).drew)
      have HPU := Lib.hid (put_big HQ6.out HK.out ((n + 64 + sumR xs : Nat) : Int) (by omega) HF.out)
      clear hqm
      refine wp_region_C (C := fun W => RowB W s 99 [.pointer (some ⟨q, 0, none⟩), .map (some mp), .pointer none, .pointer (some ⟨k, 0, none⟩)] ∧ ItemAt W it key A n c tag len asof b) (by kernel_rfl) ?_
      refine wpAnyC_take (i := 0) (v := .pointer (some ⟨s, 0, none⟩)) rfl (by kernel_rfl) (by kernel_rfl) (by kernel_rfl) (fun _ _ _ h => h) HC6.out (by kernel_rfl) ?_ ?_
      · intro W hW; go_simp; try (with_reducible rfl)
      change wpAnyC _ _ _ _ _ _ _ (Act.put _ (some 47) (.pointer (some ⟨s, 0, none⟩))) _
      try simp only [Act.put, List.setIfInBounds_toArray, List.set_cons_succ, List.set_cons_zero]
      refine wpAnyC_take (i := 1) (v := .pointer (some ⟨s, 0, none⟩)) rfl (by kernel_rfl) (by kernel_rfl) (by kernel_rfl) (fun _ _ _ h => h) HC6.out (by kernel_rfl) ?_ ?_
      · intro W hW; go_simp; try (with_reducible rfl)
      change wpAnyC _ _ _ _ _ _ _ (Act.put _ (some 48) (.pointer (some ⟨s, 0, none⟩))) _
      try simp only [Act.put, List.setIfInBounds_toArray, List.set_cons_succ, List.set_cons_zero]
      refine wpAnyC_take (i := 2) (v := .pointer (some ⟨s, 0, none⟩)) rfl (by kernel_rfl) (by kernel_rfl) (by kernel_rfl) (fun _ _ _ h => h) HC6.out (by kernel_rfl) ?_ ?_
      · intro W hW; go_simp; try (with_reducible rfl)
      change wpAnyC _ _ _ _ _ _ _ (Act.put _ (some 49) (.pointer (some ⟨s, 0, none⟩))) _
      try simp only [Act.put, List.setIfInBounds_toArray, List.set_cons_succ, List.set_cons_zero]
      refine wpAnyC_take (i := 3) (v := .pointer (some ⟨q, 0, none⟩)) rfl (by kernel_rfl) (by kernel_rfl) (by kernel_rfl) (fun _ _ _ h => h) HC6.out (by kernel_rfl) ?_ ?_
      · intro W hW; have z1 := hW.1.cell (j := 0) rfl; go_simp; try (with_reducible rfl)
      change wpAnyC _ _ _ _ _ _ _ (Act.put _ (some 50) (.pointer (some ⟨q, 0, none⟩))) _
      try simp only [Act.put, List.setIfInBounds_toArray, List.set_cons_succ, List.set_cons_zero]
      refine wpAnyC_take (i := 4) (v := .pointer (some ⟨it, 0, none⟩)) rfl (by kernel_rfl) (by kernel_rfl) (by kernel_rfl) (fun _ _ _ h => h) HC6.out (by kernel_rfl) ?_ ?_
      · intro W hW; go_simp; try (with_reducible rfl)
      change wpAnyC _ _ _ _ _ _ _ (Act.put _ (some 51) (.pointer (some ⟨it, 0, none⟩))) _
      try simp only [Act.put, List.setIfInBounds_toArray, List.set_cons_succ, List.set_cons_zero]
      refine wpAnyC_take (i := 5) (v := .pointer (some ⟨it, 0, none⟩)) rfl (by kernel_rfl) (by kernel_rfl) (by kernel_rfl) (fun _ _ _ h => h) HC6.out (by kernel_rfl) ?_ ?_
      · intro W hW; go_simp; try (with_reducible rfl)
      change wpAnyC _ _ _ _ _ _ _ (Act.put _ (some 52) (.pointer (some ⟨it, 0, none⟩))) _
      try simp only [Act.put, List.setIfInBounds_toArray, List.set_cons_succ, List.set_cons_zero]
      refine wpAnyC_take (i := 6) (v := .pointer (some ⟨it, 0, none⟩)) rfl (by kernel_rfl) (by kernel_rfl) (by kernel_rfl) (fun _ _ _ h => h) HC6.out (by kernel_rfl) ?_ ?_
      · intro W hW; go_simp; try (with_reducible rfl)
      change wpAnyC _ _ _ _ _ _ _ (Act.put _ (some 53) (.pointer (some ⟨it, 0, none⟩))) _
      try simp only [Act.put, List.setIfInBounds_toArray, List.set_cons_succ, List.set_cons_zero]
      refine wpAnyC_take (i := 7) (v := .pointer (some ⟨it, 0, none⟩)) rfl (by kernel_rfl) (by kernel_rfl) (by kernel_rfl) (fun _ _ _ h => h) HC6.out (by kernel_rfl) ?_ ?_
      · intro W hW; go_simp; try (with_reducible rfl)
      change wpAnyC _ _ _ _ _ _ _ (Act.put _ (some 54) (.pointer (some ⟨it, 0, none⟩))) _
      try simp only [Act.put, List.setIfInBounds_toArray, List.set_cons_succ, List.set_cons_zero]
      refine wpAnyC_take (i := 8) (v := .string key) rfl (by kernel_rfl) (by kernel_rfl) (by kernel_rfl) (fun _ _ _ h => h) HC6.out (by kernel_rfl) ?_ ?_
      · intro W hW; have z0 := RowB.cell hW.2 (j := 0) rfl; go_simp; try (with_reducible rfl)
      change wpAnyC _ _ _ _ _ _ _ (Act.put _ (some 55) (.string key)) _
      try simp only [Act.put, List.setIfInBounds_toArray, List.set_cons_succ, List.set_cons_zero]
      refine wpAnyC_take (i := 9) (v := .int .i64 ((n + 64 + sumR xs : Nat) : Int)) rfl (by kernel_rfl) (by kernel_rfl) (by kernel_rfl) (fun _ _ _ h => h) HC6.out (by kernel_rfl) ?_ ?_
      · intro W hW; go_simp; try (with_reducible rfl)
      change wpAnyC _ _ _ _ _ _ _ (Act.put _ (some 56) (.int .i64 ((n + 64 + sumR xs : Nat) : Int))) _
      try simp only [Act.put, List.setIfInBounds_toArray, List.set_cons_succ, List.set_cons_zero]
      refine wpAnyC_take (i := 12) (v := .int .i64 0) rfl (by kernel_rfl) (by kernel_rfl) (by kernel_rfl) (fun _ _ _ h => h) HC6.out (by kernel_rfl) ?_ ?_
      · intro W hW; go_simp; try (with_reducible rfl)
      change wpAnyC _ _ _ _ _ _ _ (Act.put _ (some 59) (.int .i64 0)) _
      try simp only [Act.put, List.setIfInBounds_toArray, List.set_cons_succ, List.set_cons_zero]
      refine wpAnyC_one 10 (by kernel_rfl) rfl (by kernel_rfl) (fun KK hKK => ?_)
      go_simp
      refine HPU.out.mono ?_
      rintro e w7 ⟨g, rfl, hm7, hq7, hg7⟩
      have ha := HQ6.out.apart_row HC6.out.1 (by decide) (by decide)
      have hb := HQ6.out.apart_row HC6.out.2 (by decide) (by decide)
      have HM7 := Lib.hid hm7
      have HQ7 := Lib.hid hq7
      have HG7 := Lib.hid hg7.out
      have HC7 := Lib.hid (show RowB w7 s 99 [.pointer (some ⟨q, 0, none⟩), .map (some mp), .pointer none, .pointer (some ⟨k, 0, none⟩)] ∧ ItemAt w7 it key A n c tag len asof b from ⟨hm7.rowB HC6.out.1 (fun h => h.elim ha.1 (fun h2 => ha.2 _ h2 rfl)), hm7.rowB HC6.out.2 (fun h => h.elim hb.1 (fun h2 => hb.2 _ h2 rfl))⟩)
      clear hm7 hq7 hg7 ha hb
      refine hKK _ _ HC7.out ?_
      clear hKK KK
      try simp only [Act.put, List.setIfInBounds_toArray, List.set_cons_succ, List.set_cons_zero]
      refine wpAnyC_take (i := 11) (v := .int .i64 1) rfl (by kernel_rfl) (by kernel_rfl) (by kernel_rfl) (fun _ _ _ h => h) HC7.out (by kernel_rfl) ?_ ?_
      · intro W hW; go_simp; try (with_reducible rfl)
      change wpAnyC _ _ _ _ _ _ _ (Act.put _ (some 58) (.int .i64 1)) _
      try simp only [Act.put, List.setIfInBounds_toArray, List.set_cons_succ, List.set_cons_zero]
      refine ⟨by kernel_rfl, ?_⟩
      have hskw := HS.out.sk.ext HX.out.drew
      have hsm := hskw.apart_map HMS.out
      have hsq := SkAt.apart_q HQW.out hskw
      have hqm := HQW.out.apart_map HMS.out
      have HMS7 := Lib.hid ((HMS5.out.ext (Ext.refl w5).drew).mod HM7.out (fun h => h.elim (fun e => hqm.1 e.symm) (fun h2 => hqm.2 _ h2 rfl)))
      have HSK7 := Lib.hid (((hskw.mod HM5.out hsm.1 hsm.2).ext (Ext.refl w5).drew).mod HM7.out (fun h => h.elim hsq.1.1 (fun h2 => hsq.1.2 _ h2 rfl)) (fun h => h.elim hsq.2.1 (fun h2 => hsq.2.2 _ h2 rfl)))
      have hqm7 := HQ7.out.apart_map HMS7.out
      have hsm7 := HSK7.out.apart_map HMS7.out
      obtain ⟨w8, hdel, hm8, hz8, hg8⟩ := HMS7.out.drop Tryz.underlying97 Tryz.underlying9 key hks 0
      have HM8 := Lib.hid (show Mod (fun x => x = mp) w7 w8 from (Mod.refl _ _).grown hg8 (fun g hg => .inl (by cases hg; rfl)))
      have hsr7 := HMS7.out.apart HC7.out.1
      have HR8 := Lib.hid (HM8.out.rowB HC7.out.1 (fun e => hsr7 e.symm))
      have HL0 : mdel (mput l key (.pointer (some ⟨it, 0, none⟩))) key = [] := by
        unfold mdel
        rw [List.filter_eq_nil_iff]
        intro p hp
        have : p.1 = key := by
          unfold mput at hp
          split at hp
          · obtain ⟨p0, h0, rfl⟩ := List.mem_map.1 hp
            split
            · rfl
            · exact hl p0 h0
          · rcases List.mem_append.1 hp with h | h
            · exact hl p h
            · simp at h; rw [h]
        simp [this]
      rw [HL0] at hm8
      have HSH8 : Hid (ShAt w8 B s mp q k d r C none []) := Lib.hid ⟨HR8.out, HQ7.out.mod HM8.out hqm7.1 hqm7.2, hm8, HSK7.out.mod HM8.out hsm7.1 hsm7.2⟩
      have HLK := HMS7.out.look Tryz.underlying97 Tryz.underlying9 key hks (zero_ptr w7) false
      rw [mget_put] at HLK
      simp only [Bool.false_eq_true, if_false] at HLK
      have HFL := Lib.hid (flash_nil HSH8.out key)
      have HBU := Lib.hid (burn_nil HSH8.out)
      have g0 := HG7.out.1
      have s1 := HC7.out.1.cell (j := 1) rfl
      clear hskw hsm hsq hqm hqm7 hsm7 hsr7 hm8 hz8 hg8 HL0
      go_wp2_with fail
      refine wp_loop_rounds 2 ?_
      rw [rounds_succ]
      go_upto_region 14 with fail
      go_upto_region 15 with (first
        | (go_at_call 51; refine HFL.out.mono ?_; rintro e w9 ⟨rfl, rfl⟩)
        | (go_at_call 92; refine (HBU.out _).mono ?_; rintro e w9 ⟨rfl, hx9⟩))
      obtain ⟨i0, hi0, hz0, hz1, hz2⟩ := info_parts str_info24
      have XA := (Ext.refl w9).alloc (.cells #[.string key] 9)
      have HRD : Hid (Reads (w9.alloc (.cells #[.string key] 9)) (w9.heap.size + 1) 1 (some ⟨w9.heap.size, 0, none⟩) 1 [.string key]) := Lib.hid ⟨rfl, fun _ => ⟨_, rfl, by show w9.heap.size < w9.heap.size + 1; omega, fun j u hj => by
        have : j = 0 := by
          have := (List.getElem?_eq_some_iff.1 hj).1
          simp at this
          exact this
        subst this
        simp at hj
        subst hj
        simp [Addr.add]⟩⟩
      have HX9 := Lib.hid hx9
      clear hdel HLK g0 s1 hx9
      go_upto_region 16 with (at_builtin; refine wpList_append_any _ rfl (.tmp 84) (.tmp 86) _ rfl w9.heap.size 9 i0 _ 1 16 Tryz.underlying31 hi0 hz0 hz1 hz2 rfl (by omega) _ 0 [] rfl (World.ownsRow_nil _ _ _ _) _ _ 1 1 _ rfl HRD.out (by simp [Value.oneCell']) (by simp only [maxLen]; omega) (by omega) (by simp) ?_; intro v2 w10 hown2 hg2 hat2)

      go_wp2_with fail
      try rw [rounds_succ]
      try go_wp2_with fail
      go_ret
      have hs9 : w.heap.size ≤ w9.heap.size := by
        have h1 := HX.out.size
        have h2 := HM5.out.size
        have h3 := HM7.out.size
        have h4 := HM8.out.size
        have h5 := HX9.out.size
        have h6 : w5.drew.heap.size = w5.heap.size := rfl
        have h7 : wr.drew.heap.size = wr.heap.size := rfl
        omega
      have hm9 : Mod (fun x => x = mp ∨ x = q ∨ r = some x) w w9 := (((((Mod.of_ext _ HX.out.drew).trans (HM5.out.mono (fun x _ h => .inl h))).trans (Mod.of_ext _ (Ext.refl w5).drew)).trans (HM7.out.mono (fun x _ h => .inr h))).trans (HM8.out.mono (fun x _ h => .inl h))).trans (Mod.of_ext _ HX9.out)
      have hg2 : (w9.alloc (.cells #[.string key] 9)).grownBy w10 none := hg2
      rcases hown2.2 with ⟨-, hn⟩ | ⟨g2, cap2, cur2, rfl, hb2, hh2, hn2, hm2, hz2, ht2⟩
      · exact absurd hn (by decide)
      · refine ⟨⟨g2, cap2, rfl, Lib.hid ⟨?_, Nat.le_trans hs9 hb2⟩⟩, ((hm9.alloc _).grown hg2 (fun g hg => by cases hg)), Lib.hid ((HSH8.out.ext (HX9.out.trans XA)).ext ?_)⟩
        · have hr2 : RowB w10 g2 9 [.string key] := ⟨cur2, (0, 0), cur2.toList.drop 1, hh2, fun j h1 h2 => by simp at h2, by
            have : cur2.toList.take 1 = [Value.string key] := by simpa using ht2
            rw [← this, List.take_append_drop]⟩
          exact hr2.cell (j := 0) rfl
        · exact Below.grown (Ext.refl _) hg2 (Nat.le_refl _) (fun k hk => by cases hk)
end Go.Proofs.YtfgjbbpkkbohhaaGreat
namespace Go.Proofs.YtfgjbbpkkbohhaaGreat
open Go.RowKit Go.Deep
/-- append(nil, one string) -/
theorem wpList_append_str1 (w : World) {ops : Array Oper} {rest : List Oper} {o : Oper} {a : Act} {Q : Exit → Act → World → Prop} (hgd : o.guard = none) (s x : Operand)
    (ho : o.op = .call { callee := .builtin .append, args := #[s, x], argTypes := #[31, 31] }) (hs : a.eval s = .slice none 0 0) (g c : Nat) (hx : a.eval x = .slice (some ⟨g, 0, none⟩) 1 c) (k : ByteArray) (hc : w.cell? ⟨g, 0, none⟩ = some (.string k))
    (h : ∀ g' c' w', Ext w w' → w.heap.size ≤ g' → w'.cell? ⟨g', 0, none⟩ = some (.string k) → wpList Tryz.prog ops Q rest (a.put o.dst (.slice (some ⟨g', 0, none⟩) 1 c')) w') : wpList Tryz.prog ops Q (o :: rest) a w := by
  obtain ⟨i0, hi0, hz0, hz1, hz2⟩ := info_parts str_info24
  have hrd : Reads w w.heap.size 1 (some ⟨g, 0, none⟩) 1 [.string k] := ⟨rfl, fun _ => ⟨_, rfl, World.block_lt_of_cell? w _ hc, fun j u hj => by
    have : j = 0 := by
      have := (List.getElem?_eq_some_iff.1 hj).1
      simp at this
      exact this
    subst this
    simp at hj
    subst hj
    simpa [Addr.add] using hc⟩⟩
  refine wpList_append_any w hgd s x _ ho w.heap.size 9 i0 _ 1 16 Tryz.underlying31 hi0 hz0 hz1 hz2 rfl (by omega) _ 0 [] hs (World.ownsRow_nil _ _ _ _) _ _ 1 c _ hx hrd (by simp [Value.oneCell']) (by simp only [maxLen]; omega) (by omega) (by simp) ?_
  intro v2 w10 hown2 hg2 hat2
  have hg3 : w.grownBy w10 none := hg2
  have hX : Ext w w10 := Below.grown (Ext.refl _) hg3 (Nat.le_refl _) (fun k hk => by cases hk)
  rcases hown2.2 with ⟨-, hn⟩ | ⟨g2, cap2, cur2, rfl, hb2, hh2, hn2, hm2, hz2, ht2⟩
  · exact absurd hn (by decide)
  · refine h g2 cap2 w10 hX hb2 ?_
    have hr2 : RowB w10 g2 9 [.string k] := ⟨cur2, (0, 0), cur2.toList.drop 1, hh2, fun j h1 h2 => by simp at h2, by
      have : cur2.toList.take 1 = [Value.string k] := by simpa using ht2
      rw [← this, List.take_append_drop]⟩
    exact hr2.cell (j := 0) rfl
set_option maxRecDepth 100000 in
/-- the first Put, of an object that is greater than the shelf -/
theorem put_over {w : World} {B s mp q k d : Nat} {r : Option Nat} {C : Int} (h : ShAt w B s mp q k d r C none []) (hB : B ≤ w.heap.size) {key tag : ByteArray} (hk : 1 ≤ key.size ∧ key.size ≤ 2048) {A : Option Addr} {n c : Nat} {mt : ByteArray} (hn : n ≤ 8192) {len : Nat} (hl : len ≤ 65536) {asof : Int} (ha : 0 ≤ asof ∧ asof ≤ 1099511627776)
    (hcl : ∀ W, Ext w W → Calls Tryz.prog 49 #[.slice A n c] W fun e w' => (∃ A' c', e = .returned (.slice A' n c') ∧ Hid (MV w' (.slice A' n c') mt)) ∧ Ext W w') (hf : C < ((n + 64 : Nat) : Int)) :
    Calls Tryz.prog 11 #[.pointer (some ⟨s, 0, none⟩), .agg #[.string key, .slice A n c, .string tag, .int .i64 len, .int .i64 asof]] w fun e w' => (∃ g c, e = .returned (.tuple #[.slice (some ⟨g, 0, none⟩) 1 c, .nilIface]) ∧ Hid (w'.cell? ⟨g, 0, none⟩ = some (.string key) ∧ w.heap.size ≤ g)) ∧ Mod (fun x => x = mp ∨ x = q ∨ r = some x) w w' ∧
      Hid (ShAt w' B s mp q k d r C none []) := by
  have HS := Lib.hid h
  have HBS := Lib.hid hB
  have HCL := Lib.hid hcl
  have HR := Lib.hid (fun W => right_ok key tag A n c len asof hk hn (by omega) ha W)
  have HK := Lib.hid hk
  have hap := happ_nil
  clear h hB hcl hk ha
  go_enter Tryz.func11, Tryz.ntmps11
  go_upto_region 3 with fail
  obtain ⟨wa, hwa⟩ : ∃ x, x = w.alloc (.cells #[.string key, .slice A n c, .string tag, .int .i64 len, .int .i64 asof] 38) := ⟨_, rfl⟩
  obtain ⟨o, ho⟩ : ∃ o, w.heap.size = o := ⟨_, rfl⟩
  have HXA : Hid (Ext w wa) := Lib.hid (by rw [hwa]; exact (Ext.refl w).alloc _)
  have HOB : Hid (RowB wa o 38 [.string key, .slice A n c, .string tag, .int .i64 len, .int .i64 asof]) := Lib.hid (by rw [hwa, ← ho]; exact row_laid w 38 [.string key, .slice A n c, .string tag, .int .i64 len, .int .i64 asof])
  have HO := Lib.hid ho
  rw [← hwa, ho]
  clear hwa ho
  have c0 := HOB.out.cell (j := 0) rfl
  have c1 := HOB.out.cell (j := 1) rfl
  have c2 := HOB.out.cell (j := 2) rfl
  have c3 := HOB.out.cell (j := 3) rfl
  have c4 := HOB.out.cell (j := 4) rfl
  go_upto_region 4 with (go_at_call 45; refine (HR.out _).mono ?_; rintro e w1 ⟨rfl, hx1⟩)
  have HX1 := Lib.hid (HXA.out.trans hx1)
  have HOB1 := Lib.hid (HOB.out.ext hx1)
  have HS1 := Lib.hid (HS.out.ext HX1.out)
  have HF := Lib.hid (find_no HS1.out key (by have := HK.out.2; unfold maxLen; omega) rfl)
  have d0 := HOB1.out.cell (j := 0) rfl
  clear hx1 c0 c1 c2 c3 c4
  go_upto_region 8 with (go_at_call 46; refine HF.out.mono ?_; rintro e w2 ⟨rfl, rfl⟩)
  clear d0
  refine wp_region_quiet_lit (by kernel_rfl) (by kernel_rfl) ?_
  repeat (go_big_quiet_step (fail))
  refine wpQuiet_nil ?_
  rintro _ ⟨nq, rfl⟩
  have HX2 := Lib.hid (HX1.out.drewN nq)
  have HOB2 := Lib.hid (HOB1.out.ext ((Ext.refl w1).drewN nq))
  have HNW := Lib.hid (new_ok tag len hl (w1.drewN nq) (fun x => x = s ∨ x = mp ∨ x = q ∨ x = k ∨ x = d ∨ r = some x) (fun x hx => by
    have h1 := (HS.out.ext HX2.out)
    rcases hx with rfl | rfl | rfl | rfl | rfl | hr
    · exact h1.row.lt
    · exact h1.m.lt
    · exact h1.q.lt.1
    · exact h1.sk.lt.1
    · exact h1.sk.lt.2
    · exact (h1.q.lt.2 x hr).2))
  have c0 := HOB2.out.cell (j := 2) rfl
  have c3 := HOB2.out.cell (j := 3) rfl
  go_upto_region 13 with (go_at_call 48; refine HNW.out.mono ?_; rintro e w3 ⟨b, lb, rfl, hx3, hb3⟩)
  have HX3 := Lib.hid (HX2.out.trans hx3)
  have HB3 := Lib.hid hb3
  have HOB3 := Lib.hid (HOB2.out.ext hx3)
  have d0 := HOB3.out.cell (j := 0) rfl
  have d1 := HOB3.out.cell (j := 1) rfl
  have d2 := HOB3.out.cell (j := 2) rfl
  have d3 := HOB3.out.cell (j := 3) rfl
  have d4 := HOB3.out.cell (j := 4) rfl
  have HZ3 := Lib.hid hx3.size
  clear hx3 hb3 c0 c3
  go_upto_region 16 with fail
  obtain ⟨w4, hw4⟩ : ∃ x, x = w3.alloc (.cells #[.string key, .slice A n c, .string tag, .int .i64 len, .int .i64 asof, .pointer (some ⟨b, 0, none⟩)] 106) := ⟨_, rfl⟩
  obtain ⟨it, hit⟩ : ∃ z, w3.heap.size = z := ⟨_, rfl⟩
  have X34 : Ext w3 w4 := by rw [hw4]; exact (Ext.refl w3).alloc _
  have HI4 : Hid (RowB w4 it 106 [.string key, .slice A n c, .string tag, .int .i64 len, .int .i64 asof, .pointer (some ⟨b, 0, none⟩)]) := Lib.hid (by rw [hw4, ← hit]; exact row_laid w3 106 [.string key, .slice A n c, .string tag, .int .i64 len, .int .i64 asof, .pointer (some ⟨b, 0, none⟩)])
  rw [← hw4, hit]
  have HX34 := Lib.hid X34
  have HX4 := Lib.hid (HX3.out.trans X34)
  have HB3' := Lib.hid (HB3.out.avoid (fun x => x = it ∨ r = some x ∨ x = s ∨ x = mp ∨ x = q ∨ x = k ∨ x = d) (fun x hx => by
    rcases hx with rfl | hr | rfl | rfl | rfl | rfl | rfl
    · exact .inl (by omega)
    all_goals first | exact .inr (.inr (.inl rfl)) | exact .inr (.inr (.inr (.inl rfl))) | exact .inr (.inr (.inr (.inr (.inl rfl)))) | exact .inr (.inr (.inr (.inr (.inr (.inl rfl))))) | exact .inr (.inr (.inr (.inr (.inr (.inr (.inl rfl)))))) | exact .inr (.inr (.inr (.inr (.inr (.inr (.inr hr))))))))
  have HOB4 := Lib.hid (HOB3.out.ext X34)
  have HIT := Lib.hid hit
  have e1 := HOB4.out.cell (j := 1) rfl
  clear X34 hw4 hit d0 d1 d2 d3 d4
  go_upto_region 17 with (go_at_call 49; refine (HCL.out _ HX4.out).mono ?_; rintro e w5 ⟨⟨A5, c5, rfl, hmv5⟩, hx5⟩; have z1 := hx5.cell (HI4.out.cell (j := 1) rfl); have f1 := (hx5.frozen (HI4.out.cell (j := 1) rfl)).trans (HI4.out.frozen (j := 1) (by simp)))
  have HX35 := Lib.hid (HX34.out.trans hx5)
  have HM5 : Hid (Mod (fun x => x = it) w5 (w5.setCell ⟨it, 1, none⟩ (.slice A5 n c5))) := Lib.hid (Mod.setCell (Mod.refl (fun x => x = it) w5) (p := ⟨it, 1, none⟩) (.inl rfl) _)
  have HI6 : Hid (ItemAt (w5.setCell ⟨it, 1, none⟩ (.slice A5 n c5)) it key A5 n c5 tag len asof b) := Lib.hid ((HI4.out.ext hx5).set 1 _ (by simp))
  have HMV6 := Lib.hid (hmv5.out.mod HM5.out (fun g hr e => (hr.apart (HI4.out.ext hx5) (by decide)) e))
  obtain ⟨w6, hw6⟩ : ∃ x, x = w5.setCell ⟨it, 1, none⟩ (.slice A5 n c5) := ⟨_, rfl⟩
  rw [← hw6] at HI6 HM5 HMV6
  rw [← hw6]
  have HX6 : Hid (Ext w w6) := Lib.hid (((Mod.of_ext _ (HX3.out.trans HX35.out)).then HM5.out (fun i hi => .inr (by
    subst hi
    rw [← HIT.out]
    exact HX3.out.size))).ext (F := fun _ => False) (fun _ h => h.elim))
  have hsw := HS.out.ext HX3.out
  have HS6 := Lib.hid (HS.out.ext HX6.out)
  have HB6 := Lib.hid ((HB3'.out.ext HX35.out).mod HM5.out (fun x hx => .inl (.inl hx)))
  have HOB6 := Lib.hid (HM5.out.rowB (HOB3.out.ext HX35.out) (fun e => by
    have := HOB3.out.lt
    rw [HIT.out] at this
    omega))
  have HER := Lib.hid (erase_nil HS6.out key)
  have g0 := HOB6.out.cell (j := 0) rfl
  clear hw6 z1 f1 e1 hx5 hmv5
  go_upto_region 18 with (go_at_call 50; refine HER.out.mono ?_; rintro e w7 ⟨rfl, rfl⟩)
  have HST := Lib.hid (store_big HS6.out (Nat.le_trans HBS.out HX6.out.size) HI6.out (held_no HB6.out hl) (by simp) (by simp) (by have := HK.out.2; unfold maxLen; omega) hn (by simp) (by simpa [sumR] using hf) (by simp [sumR]) (by simp))
  clear g0
  go_wp2_with (first
    | (go_at_call 47; refine HST.out.mono ?_; rintro e w8 ⟨⟨g8, c8, rfl, hc8⟩, hm8, hq8⟩)
    | (at_builtin; refine wpList_append_str1 _ rfl (.tmp 94) (.tmp 97) rfl rfl g8 c8 rfl key hc8.out.1 ?_; intro g9 c9 w9 hx9 hge9 hc9))
  go_ret2
  exact ⟨⟨g9, c9, rfl, Lib.hid ⟨hc9, Nat.le_trans (Nat.le_trans HX6.out.size hm8.size) hge9⟩⟩, ((Mod.of_ext _ HX6.out).trans hm8).trans (Mod.of_ext _ hx9), Lib.hid (hq8.out.ext hx9)⟩
set_option maxRecDepth 100000 in
theorem right_bad (key tag : ByteArray) (A : Option Addr) (n c : Nat) (len asof : Int) (code : Int) (h : (code = 8 ∧ (key.size < 1 ∨ 2048 < key.size)) ∨ ((1 ≤ key.size ∧ key.size ≤ 2048) ∧ ((code = 5 ∧ 8192 < n) ∨ (n ≤ 8192 ∧ code = 1 ∧ (len < 0 ∨ 65536 < len ∨ asof < 0 ∨ 1099511627776 < asof))))) (hz : key.size < 100000 ∧ n < 100000) (w : World) :
    Calls Tryz.prog 45 #[.agg #[.string key, .slice A n c, .string tag, .int .i64 len, .int .i64 asof]] w fun e w' => e = .returned (errV code) ∧ Ext w w' := by
  obtain ⟨hz1, hz2⟩ := hz
  rcases h with ⟨rfl, h⟩ | ⟨⟨a1, a2⟩, ⟨rfl, h⟩ | ⟨h, rfl, h2⟩⟩
  · by_cases h1 : key.size < 1
    · go_enter Tryz.func45, Tryz.ntmps45
      go_wp2_with fail
      go_ret
      exact ⟨rfl, (Ext.refl w).alloc _⟩
    · have h2 : 2048 < key.size := h.resolve_left h1
      clear h
      go_enter Tryz.func45, Tryz.ntmps45
      go_wp2_with fail
      go_ret
      exact ⟨rfl, (Ext.refl w).alloc _⟩
  · go_enter Tryz.func45, Tryz.ntmps45
    go_wp2_with fail
    go_ret
    exact ⟨rfl, (Ext.refl w).alloc _⟩
  · by_cases b1 : len < 0
    · clear h2
      go_enter Tryz.func45, Tryz.ntmps45
      go_wp2_with fail
      go_ret
      exact ⟨rfl, (Ext.refl w).alloc _⟩
    · have h3 := h2.resolve_left b1
      clear h2
      by_cases b2 : 65536 < len
      · clear h3
        go_enter Tryz.func45, Tryz.ntmps45
        go_wp2_with fail
        go_ret
        exact ⟨rfl, (Ext.refl w).alloc _⟩
      · have h4 := h3.resolve_left b2
        clear h3
        have b1' : 0 ≤ len := by omega
        have b2' : len ≤ 65536 := by omega
        clear b1 b2
        by_cases b3 : asof < 0
        · clear h4
          go_enter Tryz.func45, Tryz.ntmps45
          go_wp2_with fail
          go_ret
          exact ⟨rfl, (Ext.refl w).alloc _⟩
        · have h5 := h4.resolve_left b3
          clear h4
          have b3' : 0 ≤ asof := by omega
          clear b3
          go_enter Tryz.func45, Tryz.ntmps45
          go_wp2_with fail
          go_ret
          exact ⟨rfl, (Ext.refl w).alloc _⟩
end Go.Proofs.YtfgjbbpkkbohhaaGreat
namespace Go.Proofs.YtfgjbbpkkbohhaaGreat
open Go.RowKit Go.Deep
abbrev objV (key : ByteArray) (A : Option Addr) (n c : Nat) (tag : ByteArray) (len asof : Int) : Value := .agg #[.string key, .slice A n c, .string tag, .int .i64 len, .int .i64 asof]
abbrev objZ : Value := objV ⟨#[]⟩ none 0 0 ⟨#[]⟩ 0 0
set_option maxRecDepth 100000 in
theorem put_bad {w : World} {s : Nat} {key tag : ByteArray} {A : Option Addr} {n c : Nat} {len asof : Int} {code : Int} (h : ∀ W, Calls Tryz.prog 45 #[objV key A n c tag len asof] W fun e w' => e = .returned (errV code) ∧ Ext W w') :
    Calls Tryz.prog 11 #[.pointer (some ⟨s, 0, none⟩), objV key A n c tag len asof] w fun e w' => e = .returned (.tuple #[.slice none 0 0, errV code]) ∧ Ext w w' := by
  have HR := Lib.hid h
  clear h
  go_enter Tryz.func11, Tryz.ntmps11
  go_wp2_with (go_at_call 45; refine (HR.out _).mono ?_; rintro e w1 ⟨rfl, hx1⟩)
  go_ret2
  exact ⟨rfl, ((Ext.refl w).alloc _).trans hx1⟩
set_option maxRecDepth 100000 in
theorem put_nil24 (o : Array Value) (ho : ∃ key A n c tag len asof, Value.agg o = objV key A n c tag len asof) (w : World) : Calls Tryz.prog 11 #[.pointer none, .agg o] w fun e w' => e = .returned (.tuple #[.slice none 0 0, errV 3]) ∧ Ext w w' := by
  obtain ⟨key, A, n, c, tag, len, asof, ho⟩ := ho
  cases ho
  go_enter Tryz.func11, Tryz.ntmps11
  go_wp2_with fail
  go_ret2
  exact ⟨rfl, (Ext.refl w).alloc _⟩
theorem fill_nil24 (key tag : ByteArray) (i : Int) (w : World) : Calls Tryz.prog 15 #[.pointer none, .string key, .string tag, .int .i64 i, .slice none 0 0] w fun e w' => e = .returned (.tuple #[.slice none 0 0, errV 3]) ∧ w = w' := by
  go_enter Tryz.func15, Tryz.ntmps15
  go_wp2_with fail
  go_ret2
  exact ⟨rfl, rfl⟩
set_option maxRecDepth 100000 in
theorem get_nil24 (key : ByteArray) (w : World) : Calls Tryz.prog 18 #[.pointer none, .string key] w fun e w' => e = .returned (.tuple #[objZ, errV 3]) ∧ Ext w w' := by
  go_enter Tryz.func18, Tryz.ntmps18
  go_upto_region 1 with fail
  have HR := row_laid w 38 [.string ⟨#[]⟩, .slice none 0 0, .string ⟨#[]⟩, .int .i64 0, .int .i64 0]
  obtain ⟨wa, hwa⟩ : ∃ x, x = w.alloc (.cells #[.string ⟨#[]⟩, .slice none 0 0, .string ⟨#[]⟩, .int .i64 0, .int .i64 0] 38) := ⟨_, rfl⟩
  have HXA : Hid (Ext w wa) := Lib.hid (by rw [hwa]; exact (Ext.refl w).alloc _)
  have HRA : Hid (RowB wa w.heap.size 38 [.string ⟨#[]⟩, .slice none 0 0, .string ⟨#[]⟩, .int .i64 0, .int .i64 0]) := Lib.hid (by rw [hwa]; exact HR)
  rw [← hwa]
  clear hwa HR
  have g0 := HRA.out.frozen (j := 0) (by simp)
  have g1 := HRA.out.frozen (j := 1) (by simp)
  have g2 := HRA.out.frozen (j := 2) (by simp)
  have g3 := HRA.out.frozen (j := 3) (by simp)
  have g4 := HRA.out.frozen (j := 4) (by simp)
  have c0 := HRA.out.cell (j := 0) rfl
  have c1 := HRA.out.cell (j := 1) rfl
  have c2 := HRA.out.cell (j := 2) rfl
  have c3 := HRA.out.cell (j := 3) rfl
  have c4 := HRA.out.cell (j := 4) rfl
  go_wp2_with fail
  obtain ⟨hr7, hm7⟩ := row_set5 HRA.out (.string ⟨#[]⟩) (.slice none 0 0) (.string ⟨#[]⟩) (.int .i64 0) (.int .i64 0)
  have HX7 := Lib.hid (((Mod.of_ext _ HXA.out).then hm7 (fun i hi => .inr (by omega))).ext (F := fun _ => False) (fun _ h => h.elim))
  have r0 := hr7.cell (j := 0) rfl
  have r1 := hr7.cell (j := 1) rfl
  have r2 := hr7.cell (j := 2) rfl
  have r3 := hr7.cell (j := 3) rfl
  have r4 := hr7.cell (j := 4) rfl
  clear hr7 hm7 g0 g1 g2 g3 g4 c0 c1 c2 c3 c4
  generalize (((((wa.setCell ⟨w.heap.size, 0, none⟩ (.string ⟨#[]⟩)).setCell ⟨w.heap.size, 1, none⟩ (.slice none 0 0)).setCell ⟨w.heap.size, 2, none⟩ (.string ⟨#[]⟩)).setCell ⟨w.heap.size, 3, none⟩ (.int .i64 0)).setCell ⟨w.heap.size, 4, none⟩ (.int .i64 0)) = w7 at *
  refine bodyPost_ret (by simp [results, Tryz.results18, go_sem, r0, r1, r2, r3, r4]; try rfl) rfl ?_
  exact ⟨rfl, HX7.out⟩
theorem read_nil24 (key : ByteArray) (F T : Int) (w : World) : Calls Tryz.prog 32 #[.pointer none, .string key, rngV F T] w fun e w' => e = .returned (.tuple #[.slice none 0 0, errV 3]) ∧ Ext w w' := by
  go_enter Tryz.func32, Tryz.ntmps32
  go_wp2_with fail
  go_ret2
  exact ⟨rfl, (Ext.refl w).alloc _⟩
theorem missing_nil24 (key : ByteArray) (F T : Int) (w : World) : Calls Tryz.prog 19 #[.pointer none, .string key, rngV F T] w fun e w' => e = .returned (.tuple #[.slice none 0 0, errV 3]) ∧ Ext w w' := by
  go_enter Tryz.func19, Tryz.ntmps19
  go_wp2_with fail
  go_ret2
  exact ⟨rfl, (Ext.refl w).alloc _⟩
theorem sync_nil24 (w : World) : Calls Tryz.prog 31 #[.pointer none] w fun e w' => e = .returned (errV 3) ∧ w = w' := by
  go_enter Tryz.func31, Tryz.ntmps31
  go_wp2_with fail
  go_ret
  exact ⟨rfl, rfl⟩
theorem whole_nil24 (key : ByteArray) (w : World) : Calls Tryz.prog 33 #[.pointer none, .string key] w fun e w' => e = .returned (.bool false) ∧ w = w' := by
  go_enter Tryz.func33, Tryz.ntmps33
  go_wp2_with fail
  go_ret
  exact ⟨rfl, rfl⟩
theorem drop_nil24 (key : ByteArray) (w : World) : Calls Tryz.prog 21 #[.pointer none, .string key] w fun e w' => e = .returned (.bool false) ∧ w = w' := by
  go_enter Tryz.func21, Tryz.ntmps21
  go_wp2_with fail
  go_ret
  exact ⟨rfl, rfl⟩
theorem keys_nil24 (w : World) : Calls Tryz.prog 24 #[.pointer none] w fun e w' => e = .returned (.slice none 0 0) ∧ w = w' := by
  go_enter Tryz.func24, Tryz.ntmps24
  go_wp2_with fail
  go_ret
  exact ⟨rfl, rfl⟩
theorem tier_nil24 (key : ByteArray) (w : World) : Calls Tryz.prog 22 #[.pointer none, .string key] w fun e w' => e = .returned (.int .i64 0) ∧ w = w' := by
  go_enter Tryz.func22, Tryz.ntmps22
  go_wp2_with fail
  go_ret
  exact ⟨rfl, rfl⟩
theorem recover_ok (C : Int) (h : 1 ≤ C) (h' : C ≤ 1099511627776) (w : World) : Calls Tryz.prog 35 #[.int .i64 C, .pointer none] w fun e w' => e = .returned (.tuple #[.pointer none, errV 3]) ∧ Ext w w' := by
  have HM := Lib.hid (made_ok C h h' w)
  go_enter Tryz.func35, Tryz.ntmps35
  go_wp2_with (go_at_call 41; refine HM.out.mono ?_; rintro e w1 ⟨⟨s, mp, q, k, d, rfl, hk⟩, hx1⟩)
  go_ret2
  exact ⟨rfl, hx1⟩
theorem recover_no (C : Int) (h : C < 1 ∨ 1099511627776 < C) (w : World) : Calls Tryz.prog 35 #[.int .i64 C, .pointer none] w fun e w' => e = .returned (.tuple #[.pointer none, errV 1]) ∧ w = w' := by
  have HM := Lib.hid (made_no C h w)
  go_enter Tryz.func35, Tryz.ntmps35
  go_wp2_with (go_at_call 41; refine HM.out.mono ?_; rintro e w1 ⟨rfl, rfl⟩)
  go_ret2
  exact ⟨rfl, rfl⟩
theorem sync_ok24 {w : World} {s mp q k : Nat} (hr : RowB w s 99 [.pointer (some ⟨q, 0, none⟩), .map (some mp), .pointer none, .pointer (some ⟨k, 0, none⟩)]) : Calls Tryz.prog 31 #[.pointer (some ⟨s, 0, none⟩)] w fun e w' => e = .returned .nilIface ∧ w = w' := by
  have c2 := hr.cell (j := 2) rfl
  clear hr
  go_enter Tryz.func31, Tryz.ntmps31
  go_wp2_with fail
  go_ret
  exact ⟨rfl, rfl⟩
theorem flash_row {w : World} {s mp q k : Nat} (hr : RowB w s 99 [.pointer (some ⟨q, 0, none⟩), .map (some mp), .pointer none, .pointer (some ⟨k, 0, none⟩)]) (key : ByteArray) : Calls Tryz.prog 51 #[.pointer (some ⟨s, 0, none⟩), .string key] w fun e w' => e = .returned (.pointer none) ∧ w = w' := by
  have c2 := hr.cell (j := 2) rfl
  clear hr
  go_enter Tryz.func51, Tryz.ntmps51
  go_wp2_with fail
  go_ret
  exact ⟨rfl, rfl⟩
end Go.Proofs.YtfgjbbpkkbohhaaGreat
namespace Go.Proofs.YtfgjbbpkkbohhaaGreat
open Go.RowKit Go.Deep
set_option maxRecDepth 100000 in
theorem get_miss {w : World} {B s mp q k d : Nat} {r : Option Nat} {C : Int} {R : Option (ByteArray × Int)} {l : List (ByteArray × Value)} (h : ShAt w B s mp q k d r C R l) (key : ByteArray) (hks : key.size ≤ maxLen) (hn : mget l key = none) :
    Calls Tryz.prog 18 #[.pointer (some ⟨s, 0, none⟩), .string key] w fun e w' => e = .returned (.tuple #[objZ, errV 3]) ∧ Mod (fun x => x = k ∨ x = d) w w' := by
  have c3 := h.row.cell (j := 3) rfl
  have HS := Lib.hid h
  have hk6 : key.size ≤ 9223372036854775807 := by unfold maxLen at hks; omega
  have HKS := Lib.hid hks
  have HSR := Lib.hid (h.sk.apart_row h.row (by decide) (by decide))
  have HSM := Lib.hid (h.sk.apart_map h.m)
  have HN := Lib.hid hn
  clear h hks hn
  go_enter Tryz.func18, Tryz.ntmps18
  go_upto_region 3 with fail
  obtain ⟨wa, hwa⟩ : ∃ x, x = w.alloc (.cells #[.string ⟨#[]⟩, .slice none 0 0, .string ⟨#[]⟩, .int .i64 0, .int .i64 0] 38) := ⟨_, rfl⟩
  have HXA : Hid (Ext w wa) := Lib.hid (by rw [hwa]; exact (Ext.refl w).alloc _)
  have HR : Hid (RowB wa w.heap.size 38 [.string ⟨#[]⟩, .slice none 0 0, .string ⟨#[]⟩, .int .i64 0, .int .i64 0]) := Lib.hid (by rw [hwa]; exact row_laid w _ _)
  rw [← hwa]
  clear hwa
  have HAD := Lib.hid (add_fresh (HS.out.sk.ext HXA.out) key hk6)
  have a3 := HXA.out.cell c3
  clear c3
  go_upto_region 4 with (go_at_call 54; refine HAD.out.mono ?_; rintro e w1 ⟨rfl, hm1⟩)
  have HM1 := Lib.hid hm1
  have HR1 := Lib.hid (hm1.rowB HR.out (fun e => e.elim (fun e => by have := HS.out.sk.lt.1; omega) (fun e => by have := HS.out.sk.lt.2; omega)))
  have HS1 := Lib.hid (show RowB w1 s 99 [.pointer (some ⟨q, 0, none⟩), .map (some mp), .pointer none, .pointer (some ⟨k, 0, none⟩)] ∧ MsAt w1 mp l from
    ⟨hm1.rowB (HS.out.row.ext HXA.out) (fun e => e.elim HSR.out.1 HSR.out.2), (HS.out.m.ext HXA.out).mod hm1 (fun e => e.elim (fun e => HSM.out.1 e.symm) (fun e => HSM.out.2 e.symm))⟩)
  have HL := HS1.out.2.look Tryz.underlying97 Tryz.underlying9 key HKS.out (zero_ptr w1) false
  rw [HN.out] at HL
  simp only [Bool.false_eq_true, if_false] at HL
  have b1 := HS1.out.1.cell (j := 1) rfl
  clear a3 hm1 HAD
  have HF := Lib.hid (flash_row HS1.out.1 key)
  go_upto_region 9 with (go_at_call 51; refine HF.out.mono ?_; rintro e w2 ⟨rfl, rfl⟩)
  have g0 := HR1.out.frozen (j := 0) (by simp)
  have g1 := HR1.out.frozen (j := 1) (by simp)
  have g2 := HR1.out.frozen (j := 2) (by simp)
  have g3 := HR1.out.frozen (j := 3) (by simp)
  have g4 := HR1.out.frozen (j := 4) (by simp)
  have c0 := HR1.out.cell (j := 0) rfl
  have c1 := HR1.out.cell (j := 1) rfl
  have c2 := HR1.out.cell (j := 2) rfl
  have c3 := HR1.out.cell (j := 3) rfl
  have c4 := HR1.out.cell (j := 4) rfl
  clear HL b1
  go_wp2_with fail
  obtain ⟨hr7, hm7⟩ := row_set5 HR1.out (.string ⟨#[]⟩) (.slice none 0 0) (.string ⟨#[]⟩) (.int .i64 0) (.int .i64 0)
  have HX7 := Lib.hid (((Mod.of_ext _ HXA.out).trans HM1.out).then hm7 (fun i hi => .inr (by omega)))
  have r0 := hr7.cell (j := 0) rfl
  have r1 := hr7.cell (j := 1) rfl
  have r2 := hr7.cell (j := 2) rfl
  have r3 := hr7.cell (j := 3) rfl
  have r4 := hr7.cell (j := 4) rfl
  clear hr7 hm7 g0 g1 g2 g3 g4 c0 c1 c2 c3 c4
  generalize (((((w1.setCell ⟨w.heap.size, 0, none⟩ (.string ⟨#[]⟩)).setCell ⟨w.heap.size, 1, none⟩ (.slice none 0 0)).setCell ⟨w.heap.size, 2, none⟩ (.string ⟨#[]⟩)).setCell ⟨w.heap.size, 3, none⟩ (.int .i64 0)).setCell ⟨w.heap.size, 4, none⟩ (.int .i64 0)) = w7 at *
  refine bodyPost_ret (by simp [results, Tryz.results18, go_sem, r0, r1, r2, r3, r4]; try rfl) rfl ?_
  exact ⟨rfl, HX7.out⟩
/-! the model -/
theorem row_set9 {w : World} {g : Nat} {T : TypeId} {x0 x1 x2 x3 x4 x5 x6 x7 x8 : Value} (h : RowB w g T [x0, x1, x2, x3, x4, x5, x6, x7, x8]) (y0 y1 y2 y3 y4 y5 y6 y7 y8 : Value) :
    RowB (((((((((w.setCell ⟨g, 0, none⟩ y0).setCell ⟨g, 1, none⟩ y1).setCell ⟨g, 2, none⟩ y2).setCell ⟨g, 3, none⟩ y3).setCell ⟨g, 4, none⟩ y4).setCell ⟨g, 5, none⟩ y5).setCell ⟨g, 6, none⟩ y6).setCell ⟨g, 7, none⟩ y7).setCell ⟨g, 8, none⟩ y8) g T [y0, y1, y2, y3, y4, y5, y6, y7, y8] ∧ Mod (fun x => x = g) w (((((((((w.setCell ⟨g, 0, none⟩ y0).setCell ⟨g, 1, none⟩ y1).setCell ⟨g, 2, none⟩ y2).setCell ⟨g, 3, none⟩ y3).setCell ⟨g, 4, none⟩ y4).setCell ⟨g, 5, none⟩ y5).setCell ⟨g, 6, none⟩ y6).setCell ⟨g, 7, none⟩ y7).setCell ⟨g, 8, none⟩ y8) :=
  ⟨(((((((((h.set 0 y0 (by simp)).set 1 y1 (by simp)).set 2 y2 (by simp)).set 3 y3 (by simp)).set 4 y4 (by simp)).set 5 y5 (by simp)).set 6 y6 (by simp)).set 7 y7 (by simp)).set 8 y8 (by simp)), ((((((((((Mod.refl (fun x => x = g) w).setCell (p := ⟨g, 0, none⟩) (.inl rfl) y0).setCell (p := ⟨g, 1, none⟩) (.inl rfl) y1).setCell (p := ⟨g, 2, none⟩) (.inl rfl) y2).setCell (p := ⟨g, 3, none⟩) (.inl rfl) y3).setCell (p := ⟨g, 4, none⟩) (.inl rfl) y4).setCell (p := ⟨g, 5, none⟩) (.inl rfl) y5).setCell (p := ⟨g, 6, none⟩) (.inl rfl) y6).setCell (p := ⟨g, 7, none⟩) (.inl rfl) y7).setCell (p := ⟨g, 8, none⟩) (.inl rfl) y8)⟩
theorem row_set4 {w : World} {g : Nat} {T : TypeId} {x0 x1 x2 x3 : Value} (h : RowB w g T [x0, x1, x2, x3]) (y0 y1 y2 y3 : Value) :
    RowB ((((w.setCell ⟨g, 0, none⟩ y0).setCell ⟨g, 1, none⟩ y1).setCell ⟨g, 2, none⟩ y2).setCell ⟨g, 3, none⟩ y3) g T [y0, y1, y2, y3] ∧ Mod (fun x => x = g) w ((((w.setCell ⟨g, 0, none⟩ y0).setCell ⟨g, 1, none⟩ y1).setCell ⟨g, 2, none⟩ y2).setCell ⟨g, 3, none⟩ y3) :=
  ⟨((((h.set 0 y0 (by simp)).set 1 y1 (by simp)).set 2 y2 (by simp)).set 3 y3 (by simp)), (((((Mod.refl (fun x => x = g) w).setCell (p := ⟨g, 0, none⟩) (.inl rfl) y0).setCell (p := ⟨g, 1, none⟩) (.inl rfl) y1).setCell (p := ⟨g, 2, none⟩) (.inl rfl) y2).setCell (p := ⟨g, 3, none⟩) (.inl rfl) y3)⟩
abbrev modV (q k l : Value) (m : Value) : Value := .agg #[q, k, l, m]
abbrev entV (key : ByteArray) (A : Option Addr) (n c : Nat) (tag : ByteArray) (len asof : Int) (bt : ByteArray) (bl : Int) (bd bf : Value) : Value := .agg #[.string key, .slice A n c, .string tag, .int .i64 len, .int .i64 asof, .string bt, .int .i64 bl, bd, bf]
theorem find_none (q k l : Value) (key : ByteArray) (w : World) : Calls Tryz.prog 65 #[modV q k l (.slice none 0 0), .string key] w fun e w' => e = .returned (.int .i64 (-1)) ∧ Ext w w' := by
  go_enter Tryz.func65, Tryz.ntmps65
  go_wp2_with fail
  refine wp_loop_rounds 1 ?_
  rw [rounds_succ]
  go_wp2_with fail
  go_ret
  exact ⟨rfl, (Ext.refl w).alloc _⟩
theorem find_head (q k l : Value) (key : ByteArray) (g c : Nat) {w : World} (hc : w.cell? ⟨g, 0, none⟩ = some (.string key)) : Calls Tryz.prog 65 #[modV q k l (.slice (some ⟨g, 0, none⟩) 1 c), .string key] w fun e w' => e = .returned (.int .i64 0) ∧ Ext w w' := by
  have hq : (key.toList == key.toList) = true := by simp
  have hc2 := ((Ext.refl w).alloc (.cells #[q, k, l, .slice (some ⟨g, 0, none⟩) 1 c] 65)).cell hc
  go_enter Tryz.func65, Tryz.ntmps65
  go_wp2_with fail
  refine wp_loop_rounds 1 ?_
  rw [rounds_succ]
  go_wp2_with fail
  go_ret
  exact ⟨rfl, (Ext.refl w).alloc _⟩
set_option maxRecDepth 100000 in
theorem mflash_nil (q k m : Value) (key : ByteArray) (w : World) : Calls Tryz.prog 67 #[modV q k (.pointer none) m, .string key] w fun e w' => e = .returned (.tuple #[entV ⟨#[]⟩ none 0 0 ⟨#[]⟩ 0 0 ⟨#[]⟩ 0 (.slice none 0 0) (.slice none 0 0), .bool false]) ∧ Ext w w' := by
  go_enter Tryz.func67, Tryz.ntmps67
  go_upto_region 2 with fail
  obtain ⟨wa, hwa⟩ : ∃ x, x = (w.alloc (.cells #[q, k, .pointer none, m] 65)).alloc (.cells #[.string ⟨#[]⟩, .slice none 0 0, .string ⟨#[]⟩, .int .i64 0, .int .i64 0, .string ⟨#[]⟩, .int .i64 0, .slice none 0 0, .slice none 0 0] 131) := ⟨_, rfl⟩
  have HXA : Hid (Ext w wa) := Lib.hid (by rw [hwa]; exact ((Ext.refl w).alloc _).alloc _)
  have HRA : Hid (RowB wa (w.heap.size + 1) 131 [.string ⟨#[]⟩, .slice none 0 0, .string ⟨#[]⟩, .int .i64 0, .int .i64 0, .string ⟨#[]⟩, .int .i64 0, .slice none 0 0, .slice none 0 0]) := Lib.hid (by rw [hwa]; have := row_laid (w.alloc (.cells #[q, k, .pointer none, m] 65)) 131 [.string ⟨#[]⟩, .slice none 0 0, .string ⟨#[]⟩, .int .i64 0, .int .i64 0, .string ⟨#[]⟩, .int .i64 0, .slice none 0 0, .slice none 0 0]; simpa using this)
  rw [← hwa]
  clear hwa
  have c0 := (HRA.out).cell (j := 0) rfl
  have c1 := (HRA.out).cell (j := 1) rfl
  have c2 := (HRA.out).cell (j := 2) rfl
  have c3 := (HRA.out).cell (j := 3) rfl
  have c4 := (HRA.out).cell (j := 4) rfl
  have c5 := (HRA.out).cell (j := 5) rfl
  have c6 := (HRA.out).cell (j := 6) rfl
  have c7 := (HRA.out).cell (j := 7) rfl
  have c8 := (HRA.out).cell (j := 8) rfl
  have g0 := (HRA.out).frozen (j := 0) (by simp)
  have g1 := (HRA.out).frozen (j := 1) (by simp)
  have g2 := (HRA.out).frozen (j := 2) (by simp)
  have g3 := (HRA.out).frozen (j := 3) (by simp)
  have g4 := (HRA.out).frozen (j := 4) (by simp)
  have g5 := (HRA.out).frozen (j := 5) (by simp)
  have g6 := (HRA.out).frozen (j := 6) (by simp)
  have g7 := (HRA.out).frozen (j := 7) (by simp)
  have g8 := (HRA.out).frozen (j := 8) (by simp)
  go_wp2_with fail
  obtain ⟨hr7, hm7⟩ := row_set9 HRA.out (.string ⟨#[]⟩) (.slice none 0 0) (.string ⟨#[]⟩) (.int .i64 0) (.int .i64 0) (.string ⟨#[]⟩) (.int .i64 0) (.slice none 0 0) (.slice none 0 0)
  have HX7 := Lib.hid (((Mod.of_ext _ HXA.out).then hm7 (fun i hi => .inr (by omega))).ext (F := fun _ => False) (fun _ h => h.elim))
  have r0 := (hr7).cell (j := 0) rfl
  have r1 := (hr7).cell (j := 1) rfl
  have r2 := (hr7).cell (j := 2) rfl
  have r3 := (hr7).cell (j := 3) rfl
  have r4 := (hr7).cell (j := 4) rfl
  have r5 := (hr7).cell (j := 5) rfl
  have r6 := (hr7).cell (j := 6) rfl
  have r7 := (hr7).cell (j := 7) rfl
  have r8 := (hr7).cell (j := 8) rfl
  clear hr7 hm7
  clear c0 c1 c2 c3 c4 c5 c6 c7 c8
  clear g0 g1 g2 g3 g4 g5 g6 g7 g8
  generalize (((((((((wa.setCell ⟨w.heap.size + 1, 0, none⟩ (.string ⟨#[]⟩)).setCell ⟨w.heap.size + 1, 1, none⟩ (.slice none 0 0)).setCell ⟨w.heap.size + 1, 2, none⟩ (.string ⟨#[]⟩)).setCell ⟨w.heap.size + 1, 3, none⟩ (.int .i64 0)).setCell ⟨w.heap.size + 1, 4, none⟩ (.int .i64 0)).setCell ⟨w.heap.size + 1, 5, none⟩ (.string ⟨#[]⟩)).setCell ⟨w.heap.size + 1, 6, none⟩ (.int .i64 0)).setCell ⟨w.heap.size + 1, 7, none⟩ (.slice none 0 0)).setCell ⟨w.heap.size + 1, 8, none⟩ (.slice none 0 0)) = w7 at *
  refine bodyPost_ret (by simp [results, Tryz.results67, go_sem, r0, r1, r2, r3, r4, r5, r6, r7, r8]; try rfl) rfl ?_
  exact ⟨rfl, HX7.out⟩
end Go.Proofs.YtfgjbbpkkbohhaaGreat
