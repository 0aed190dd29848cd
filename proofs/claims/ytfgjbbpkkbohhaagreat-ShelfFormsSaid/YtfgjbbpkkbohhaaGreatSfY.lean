/- Chapter 24: the example. -/
import Derived.Test.YtfgjbbpkkbohhaaGreatGV
import Derived.Test.YtfgjbbpkkbohhaaGreatWide
import Derived.Test.YtfgjbbpkkbohhaaGreatPcN
namespace Go.Proofs.YtfgjbbpkkbohhaaGreat
open Go.RowKit Go.Deep Go.Sort
theorem pcok_one {len i : Nat} {t : ByteArray} (hz : t.size = pto i len - i * 256) : PcOk len (upd (fun _ => none) i (some t)) := by
  intro j hj s hs
  unfold upd at hs
  by_cases e : j = i
  · rw [if_pos e] at hs
    cases hs
    rw [e]
    exact hz
  · rw [if_neg e] at hs
    cases hs
theorem held_one {W : World} {B b lb len i : Nat} {A : Nat → Prop} {tag t : ByteArray} (h : BodyAt W B A b lb tag len (upd (fun _ => none) i (some t))) (hi : i < npc len) (hz : t.size = pto i len - i * 256) (hl : len ≤ 3072) : HeldIs W b [(i * 256, pto i len)] := by
  have := held_is h (pcok_one hz) hl
  rw [hlK_one i (by simp [upd]) (fun j hj => by simp [upd, hj]), if_pos hi, mg_one] at this
  exact this
def z256 : ByteArray := ⟨(List.replicate 256 (0 : UInt8)).toArray⟩
set_option maxRecDepth 100000 in
set_option maxHeartbeats 400000 in
theorem awake24 (w : World) : Calls Tryz.prog 9 #[] w fun e w' => e = .returned (.bool true) ∧ Ext w w' := by
  obtain ⟨zb, hzz⟩ : ∃ z, z = z256 := ⟨_, rfl⟩
  have hz0 : ∀ i, i < 256 → (byteIs zb).getD i 0 = 0 := by rw [hzz]; decide
  have hz1 : zb.size = 256 := by rw [hzz]; decide
  have HZ0 := Lib.hid hz0
  have HZ1 := Lib.hid hz1
  have hmk := fun W => run_make_row' (P := Tryz.prog) 36 5 (.int .u8 0) 1 Tryz.underlying36 (by kernel_rfl) rfl .i64 .i64 256 (by omega) (by omega) W
  simp only [Int.cast_ofNat_Int] at hmk
  have HN := Lib.hid (new_ok24 1000 (by omega) (by omega) w)
  have HNK := Lib.hid (show npc 300 = 2 ∧ pto 0 300 = 256 by decide)
  clear hzz hz0 hz1
  go_enter Tryz.func9, Tryz.ntmps9
  go_upto_region 4 with (go_at_call 10; refine HN.out.mono ?_; rintro e w1 ⟨⟨s, mp, q, k, d, rfl, hk1⟩, hx1⟩)
  obtain ⟨hs1, hge⟩ := hk1.out
  have HS1 := Lib.hid hs1
  have HGE := Lib.hid hge
  have HX1 := Lib.hid hx1
  have HP := Lib.hid (put_first (key := ⟨#[97]⟩) (tag := ⟨#[116]⟩) (A := none) (n := 0) (c := 0) (mt := ⟨#[]⟩) (len := 300) (asof := 0) HS1.out HX1.out.size (by decide) (by omega) (by omega) (by omega) (fun W _ => clone_mv (.inl ⟨rfl, rfl⟩) (by omega)) (by omega) (by omega))
  clear hk1 hs1 hge hx1
  go_upto_region 7 with (go_at_call 11; refine HP.out.mono ?_; rintro e w2 ⟨rfl, hm2, hq2⟩)
  obtain ⟨r2, it2, A2, c2, b2, lb2, Bb2, ho2, hb2, hi2, hr2⟩ := hq2.out
  have HO2 := Lib.hid ho2
  have HM2 := Lib.hid hm2
  have HX2 : Hid (Ext w w2) := Lib.hid (((Mod.of_ext _ HX1.out).then hm2 (fun i hi => .inr (by
    rcases hi with h | h | h
    · rw [h]; exact HGE.out.2.1
    · rw [h]; exact HGE.out.2.2.1
    · cases h))).ext (F := fun _ => False) (fun _ h => h.elim))
  have HLB := Lib.hid (show w.heap.size ≤ lb2 from Nat.le_trans HX1.out.size (Nat.le_trans hb2 ho2.body.hl))
  have HRG := Lib.hid (show ∀ g, r2 = some g → w.heap.size ≤ g from fun g hg => by
    rcases hr2 with h | ⟨g', h, h2⟩
    · rw [h] at hg; cases hg
    · rw [h] at hg; cases hg; exact Nat.le_trans HX1.out.size h2)
  clear hq2 ho2 hb2 hi2 hr2 hm2
  have HF := Lib.hid (fun W (hW : Ext w2 W) g (hg : BytesAt W g zb) => fill_one (HO2.out.ext hW) (by
      have := HX1.out.size; have := HX2.out.size; have := hW.size; omega) (by unfold maxLen; decide) (by omega) (by omega) (i := 0) (by rw [HNK.out.1]; omega) rfl (g := g) (cap := 256) hg (by rw [HZ1.out, HNK.out.2]) (xs := [(0 * 256, pto 0 300)]) (fun W A' B' hb => held_one hb (by rw [HNK.out.1]; omega) (by rw [HZ1.out, HNK.out.2]) (by omega)) (by rw [HNK.out.2]; decide) (by simp) (by rw [HNK.out.2]; decide) (by rw [HNK.out.2]; decide) (by omega))
  rw [HZ1.out] at HF
  go_upto_region 8 with (go_at_call 15; refine (HF.out _ ((Ext.refl w2).alloc _) w2.heap.size (fun i hi => by rw [HZ0.out i (by have := HZ1.out; omega)]; exact (World.rowIs_made w2 (.int .u8 0) 256 5).cell (by have := HZ1.out; omega))).mono ?_; rintro e w3 ⟨rfl, hm3, hq3⟩)
  obtain ⟨r3, ho3, hr3⟩ := hq3.out
  have HO3 := Lib.hid ho3
  have HX3 : Hid (Ext w w3) := Lib.hid ((((Mod.of_ext _ HX2.out).alloc _).then hm3 (fun i hi => .inr (by
    rcases hi with h | h | h | h
    · rw [h]; exact HGE.out.2.1
    · rw [h]; exact HGE.out.2.2.1
    · exact HRG.out _ h
    · rw [h]; exact HLB.out))).ext (F := fun _ => False) (fun _ h => h.elim))
  have HMI := Lib.hid (missing_one ho3.sh.row ho3.sh.m ho3.item ho3.body (by unfold maxLen; decide) (by omega) 0 300 0 300 (by omega) (by omega) (by omega))
  rw [show gaps (upd (fun _ => none) 0 (some zb)) (pcs 0 300) = [1] from rfl] at HMI
  clear hq3 ho3 hr3 hm3
  go_upto_region 9 with (go_at_call 19; refine HMI.out.mono ?_; rintro e w4 ⟨v4, rfl, hx4, B4, hi4⟩)
  have HV4 := Lib.hid hi4.reads
  have HX4 := Lib.hid hx4
  have HT := Lib.hid (fun W (hW : Ext w4 W) => tier_one (HO3.out.ext (hx4.trans hW)) (by unfold maxLen; decide))
  clear hi4 hx4
  go_wp2_with (first
    | (go_at_call 40; (refine (ints_any (xs := [1]) (ys := [1]) (HV4.out.ext ((Ext.refl w4).alloc _)) ⟨_, _, rfl, by decide, fun i hi => ⟨w4.heap.size, rfl, by rcases (by simp at hi; omega : i = 0) with rfl; simp⟩⟩ (by decide) (by decide)).mono ?_; rintro e w5 ⟨rfl, hx5⟩))
    | (go_at_call 22; refine (HT.out _ (((Ext.refl w4).alloc _).trans hx5)).mono ?_; rintro e w6 ⟨rfl, rfl⟩))
  go_ret
  exact ⟨rfl, HX3.out.trans (HX4.out.trans (((Ext.refl w4).alloc _).trans hx5))⟩
end Go.Proofs.YtfgjbbpkkbohhaaGreat
