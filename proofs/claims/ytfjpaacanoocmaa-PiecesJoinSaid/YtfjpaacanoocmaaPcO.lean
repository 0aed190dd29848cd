/- Chapter 20: the example. -/
import Derived.Test.YtfjpaacanoocmaaPcN
namespace Go.Proofs.Ytfjpaacanoocmaa
open Go.RowKit Go.Deep Go.Sort

def z88 : ByteArray := ⟨(List.replicate 88 (0 : UInt8)).toArray⟩
set_option maxRecDepth 100000 in
set_option maxHeartbeats 400000 in
theorem awake_any (w : World) : Calls Try.prog 9 #[] w fun e w' => e = .returned (.bool true) ∧ Ext w w' := by
  have hz : z88.size = 88 := by decide
  obtain ⟨z, hzz⟩ : ∃ z, z = z88 := ⟨_, rfl⟩
  have hz0 : ∀ i, i < 88 → (byteIs z).getD i 0 = 0 := by rw [hzz]; decide
  have hz1 : z.size = 88 := by rw [hzz]; exact hz
  have HZ0 := Lib.hid hz0
  have hmk := fun W => run_make_row' (P := Try.prog) 38 5 (.int .u8 0) 1 Try.underlying38 (by kernel_rfl) rfl .i64 .i64 88 (by omega) (by omega) W
  simp only [Int.cast_ofNat_Int] at hmk
  have HP : Hid (∀ (W : World) (B b l g : Nat) (tag : ByteArray), BodyAt W B (fun _ => False) b l tag 600 (fun _ => none) → BytesAt W g z → Calls Try.prog 16 #[.pointer (some ⟨b, 0, none⟩), .int .i64 2, .slice (some ⟨g, 0, none⟩) 88 88] W fun e w' => e = .returned .nilIface ∧ Below B W w' ∧ Kept l W w' ∧ BodyAt w' B (fun _ => False) b l tag 600 (upd (fun _ => none) 2 (some z))) := by
    refine Lib.hid fun W B b l g tag hB hg => ?_
    have := put_ok hB (by omega) 2 (by decide) g 88 z hg (by rw [hz1]; decide) rfl (fun _ h => h.elim)
    rw [hz1] at this
    exact this
  have HZ1 := Lib.hid hz1
  clear hzz hz hz0 hz1
  go_enter Try.func9, Try.ntmps9
  go_wp2_with (first
    | (go_at_call 25; refine (new_ok _ 600 (by omega) _ (fun _ => False) (fun _ h => h.elim)).mono ?_; rintro e w1 ⟨b, l, rfl, hx1, hB1⟩)
    | (go_at_call 16; (refine (HP.out _ _ b l _ _ (hB1.ext ((Ext.refl w1).alloc _)) (fun i hi => by rw [HZ0.out i (by have := HZ1.out; omega)]; exact (World.rowIs_made w1 (.int .u8 0) 88 5).cell (by have := HZ1.out; omega))).mono ?_; rintro e w2 ⟨rfl, hb2, hk2, hB2⟩))
    | (go_at_call_of 17 (Value.int .i64 2); refine (has_in hB2 (by omega) 2 (by decide)).mono ?_; rw [show (upd (fun _ => none) 2 (some z) 2).isSome = true from rfl]; rintro e w' ⟨rfl, rfl⟩)
    | (go_at_call_of 17 (Value.int .i64 1); refine (has_in hB2 (by omega) 1 (by decide)).mono ?_; rw [show (upd (fun _ => none) 2 (some z) 1).isSome = false from rfl]; rintro e w' ⟨rfl, rfl⟩)
    | (go_at_call 22; (refine (missing_any hB2 0 600 0 600 (by omega) (by decide) (by omega) (by decide)).mono ?_; rw [show gaps (upd (fun _ => none) 2 (some z)) (pcs 0 600) = [0, 1] from rfl]; rintro e w3 ⟨v3, rfl, hx3, ho3⟩; have hv3 := ho3.reads; have hE3 := hx3))
    | (go_at_call 21; (refine (ints_any (xs := [0, 1]) (ys := [0, 1]) (hv3.ext ((Ext.refl w3).alloc _)) ⟨_, _, rfl, by decide, fun i hi => ⟨w3.heap.size, rfl, by rcases (by simp at hi; omega : i = 0 ∨ i = 1) with rfl | rfl <;> simp⟩⟩ (by decide) (by decide)).mono ?_; rintro e w4 ⟨rfl, hx4⟩)))
  go_ret
  exact ⟨rfl, Ext.trans (Below.trans (hx1.alloc _) hb2) ((hx3.alloc _).trans hx4)⟩
end Go.Proofs.Ytfjpaacanoocmaa
