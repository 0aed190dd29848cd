/- Chapter 24 without a device: Missing of a shelf with one object. -/
import Derived.Test.YtfgjbbpkkbohhaaGreatSfV
import Derived.Test.YtfgjbbpkkbohhaaGreatAnyD
namespace Go.Proofs.YtfgjbbpkkbohhaaGreat
open Go.RowKit Go.Deep
set_option maxRecDepth 100000 in
theorem find_row {w : World} {s mp q k : Nat} {l : List (ByteArray × Value)} (hr : RowB w s 99 [.pointer (some ⟨q, 0, none⟩), .map (some mp), .pointer none, .pointer (some ⟨k, 0, none⟩)]) (hm : MsAt w mp l) (key : ByteArray) (hk : key.size ≤ maxLen) {it : Nat} (hn : mget l key = some (.pointer (some ⟨it, 0, none⟩))) : Calls Tryz.prog 46 #[.pointer (some ⟨s, 0, none⟩), .string key] w fun e w' => e = .returned (.pointer (some ⟨it, 0, none⟩)) ∧ w = w' := by
  have c1 := hr.cell (j := 1) rfl
  have HL := hm.look Tryz.underlying97 Tryz.underlying9 key hk (zero_ptr w) false
  rw [hn] at HL
  simp only [Bool.false_eq_true, if_false] at HL
  clear hr hm hn
  go_enter Tryz.func46, Tryz.ntmps46
  go_wp2_with fail
  go_ret
  exact ⟨rfl, rfl⟩
set_option maxRecDepth 100000 in
theorem missing_one {w : World} {s mp q k it n c b lb Bb : Nat} {key tag tg : ByteArray} {A : Option Addr} {len : Nat} {ln asof : Int} {D : Nat → Option ByteArray} {AA : Nat → Prop}
    (hr : RowB w s 99 [.pointer (some ⟨q, 0, none⟩), .map (some mp), .pointer none, .pointer (some ⟨k, 0, none⟩)]) (hm : MsAt w mp [(key, .pointer (some ⟨it, 0, none⟩))]) (hi : ItemAt w it key A n c tag ln asof b) (hb : BodyAt w Bb AA b lb tg len D) (hks : key.size ≤ maxLen) (hl : len ≤ 65536)
    (F T : Int) (f t : Nat) (hf : (f : Int) = max 0 F) (hF : F ≤ 9223372036854775807) (ht : t = (min T len).toNat) :
    Calls Tryz.prog 19 #[.pointer (some ⟨s, 0, none⟩), .string key, rngV F T] w fun e w' => ∃ v, e = .returned (.tuple #[v, .nilIface]) ∧ Ext w w' ∧ ∃ B, IntsOwn w' B v (gaps D (pcs f t)) := by
  have HF := Lib.hid (fun W (hW : Ext w W) => find_row (hr.ext hW) (hm.ext hW) key hks (it := it) (by simp [mget]))
  have HI := Lib.hid hi
  have HMS := Lib.hid (fun W (hW : Ext w W) => missing_any (hb.ext hW) F T f t hl hf hF ht)
  clear hr hm hi hb hf ht hF hks
  go_enter Tryz.func19, Tryz.ntmps19
  go_upto_region 1 with fail
  obtain ⟨wa, hwa⟩ : ∃ x, x = w.alloc (.cells #[.int .i64 F, .int .i64 T] 48) := ⟨_, rfl⟩
  have HXA : Hid (Ext w wa) := Lib.hid (by rw [hwa]; exact (Ext.refl w).alloc _)
  have HR : Hid (RowB wa w.heap.size 48 [.int .i64 F, .int .i64 T]) := Lib.hid (by rw [hwa]; exact row_laid w _ _)
  rw [← hwa]
  clear hwa
  go_upto_region 6 with (go_at_call 46; refine (HF.out _ HXA.out).mono ?_; rintro e w1 ⟨rfl, rfl⟩)
  have HC := Lib.hid ((Ext.refl wa).drew)
  refine wp_region_C (C := fun W => Ext wa W) (by kernel_rfl) ?_
  refine wpAnyC_take (i := 0) (v := .pointer (some ⟨it, 0, none⟩)) rfl (by kernel_rfl) (by kernel_rfl) (by kernel_rfl) (fun _ _ _ h => h) HC.out (by kernel_rfl) ?_ ?_
  · intro W hW; go_simp; try (with_reducible rfl)
  change wpAnyC _ _ _ _ _ _ _ (Act.put _ (some 18) (.pointer (some ⟨it, 0, none⟩))) _
  try simp only [Act.put, List.setIfInBounds_toArray, List.set_cons_succ, List.set_cons_zero]
  refine wpAnyC_take (i := 1) (v := .pointer (some ⟨it, 0, none⟩)) rfl (by kernel_rfl) (by kernel_rfl) (by kernel_rfl) (fun _ _ _ h => h) HC.out (by kernel_rfl) ?_ ?_
  · intro W hW; go_simp; try (with_reducible rfl)
  change wpAnyC _ _ _ _ _ _ _ (Act.put _ (some 19) (.pointer (some ⟨it, 0, none⟩))) _
  try simp only [Act.put, List.setIfInBounds_toArray, List.set_cons_succ, List.set_cons_zero]
  refine wpAnyC_take (i := 2) (v := .pointer (some ⟨it, 5, none⟩)) rfl (by kernel_rfl) (by kernel_rfl) (by kernel_rfl) (fun _ _ _ h => h) HC.out (by kernel_rfl) ?_ ?_
  · intro W hW; go_simp; try (with_reducible rfl)
  change wpAnyC _ _ _ _ _ _ _ (Act.put _ (some 20) (.pointer (some ⟨it, 5, none⟩))) _
  try simp only [Act.put, List.setIfInBounds_toArray, List.set_cons_succ, List.set_cons_zero]
  refine wpAnyC_take (i := 3) (v := .pointer (some ⟨b, 0, none⟩)) rfl (by kernel_rfl) (by kernel_rfl) (by kernel_rfl) (fun _ _ _ h => h) HC.out (by kernel_rfl) ?_ ?_
  · intro W hW; have i5 := (HXA.out.trans hW).cell (HI.out.cell (j := 5) rfl); go_simp; try (with_reducible rfl)
  change wpAnyC _ _ _ _ _ _ _ (Act.put _ (some 21) (.pointer (some ⟨b, 0, none⟩))) _
  try simp only [Act.put, List.setIfInBounds_toArray, List.set_cons_succ, List.set_cons_zero]
  refine wpAnyC_take (i := 4) (v := rngV F T) rfl (by kernel_rfl) (by kernel_rfl) (by kernel_rfl) (fun _ _ _ h => h) HC.out (by kernel_rfl) ?_ ?_
  · intro W hW; have i0 := (HR.out.ext hW).cell (j := 0) rfl; have i1 := (HR.out.ext hW).cell (j := 1) rfl; go_simp; try (with_reducible rfl)
  change wpAnyC _ _ _ _ _ _ _ (Act.put _ (some 22) (rngV F T)) _
  try simp only [Act.put, List.setIfInBounds_toArray, List.set_cons_succ, List.set_cons_zero]
  refine wpAnyC_one 5 (by kernel_rfl) rfl (by kernel_rfl) (fun KK hKK => ?_)
  go_simp
  refine (HMS.out _ (HXA.out.trans HC.out)).mono ?_
  rintro e w2 ⟨v, rfl, hx2, ho2⟩
  have HX2 := Lib.hid (HC.out.trans hx2)
  have HO2 := Lib.hid ho2
  refine hKK _ _ HX2.out ?_
  clear hKK KK hx2 ho2
  try simp only [Act.put, List.setIfInBounds_toArray, List.set_cons_succ, List.set_cons_zero]
  refine wpAnyC_take (i := 6) (v := v) rfl (by kernel_rfl) (by kernel_rfl) (by kernel_rfl) (fun _ _ _ h => h) HX2.out (by kernel_rfl) ?_ ?_
  · intro W hW; go_simp; try (with_reducible rfl)
  change wpAnyC _ _ _ _ _ _ _ (Act.put _ (some 6) (v)) _
  try simp only [Act.put, List.setIfInBounds_toArray, List.set_cons_succ, List.set_cons_zero]
  refine wpAnyC_take (i := 7) (v := .nilIface) rfl (by kernel_rfl) (by kernel_rfl) (by kernel_rfl) (fun _ _ _ h => h) HX2.out (by kernel_rfl) ?_ ?_
  · intro W hW; go_simp; try (with_reducible rfl)
  change wpAnyC _ _ _ _ _ _ _ (Act.put _ (some 7) (.nilIface)) _
  try simp only [Act.put, List.setIfInBounds_toArray, List.set_cons_succ, List.set_cons_zero]
  refine ⟨by kernel_rfl, ?_⟩
  go_wp2_with fail
  go_ret2
  exact ⟨_, rfl, HXA.out.trans HX2.out, _, HO2.out⟩
end Go.Proofs.YtfgjbbpkkbohhaaGreat
