/- Chapter 20: the law PiecesForms, walked. -/
import Derived.Test.YtfjpaacanoocmaaPcW
namespace Go.Proofs.Ytfjpaacanoocmaa
open Go.RowKit Go.Deep Go.Sort

theorem none_whole (len : Nat) : decide (∀ i, i < npc len → ((fun _ => none : Nat → Option ByteArray) i).isSome = true) = decide (len = 0) := by
  rw [Bool.eq_iff_iff, decide_eq_true_iff, decide_eq_true_iff]
  constructor
  · intro h
    apply Nat.eq_zero_of_not_pos
    intro h0
    have := h 0 (by unfold npc; omega)
    cases this
  · rintro rfl i hi
    exact absurd hi (by unfold npc; omega)
set_option maxRecDepth 100000 in
set_option maxHeartbeats 4000000 in
theorem forms_law (n i : Int) (tag : ByteArray) (w : World) :
    Calls Try.prog 8 #[.int .i64 n, .int .i64 i, .string tag] w fun e w' => e = .returned (.bool true) ∧ Ext w w' := by
  by_cases hs : 500 < tag.size
  · have hs2 : (500 : Int) < (tag.size : Int) := by omega
    go_enter Try.func8, Try.ntmps8
    go_wp2_with (first
      | (go_at_call 9; refine (awake_any w0).mono ?_; rintro e w1 ⟨rfl, hx1⟩)
      | (go_at_call 9; refine (awake_any _).mono ?_; rintro e w0 ⟨rfl, hx0⟩))
    go_ret
    exact ⟨rfl, hx0.trans hx1⟩
  · have hs2 : ¬ (500 : Int) < (tag.size : Int) := by omega
    clear hs
    by_cases hb : n < 0 ∨ 65536 < n
    · have HB := Lib.hid hb
      have hq : decide (n < 0) = true ∨ (decide (n < 0) = false ∧ decide (65536 < n) = true) := by
        rcases hb with h | h
        · exact .inl (decide_eq_true h)
        · exact .inr ⟨decide_eq_false (by omega), decide_eq_true h⟩
      clear hb
      go_enter Try.func8, Try.ntmps8
      rcases hq with q1 | ⟨q1, q2⟩
      all_goals go_wp2_with (first
        | (go_at_call 9; refine (awake_any _).mono ?_; rintro e w0 ⟨rfl, hx0⟩)
        | (go_at_call 25; refine (new_bad tag n HB.out _).mono ?_; rintro e w' ⟨rfl, rfl⟩)
        | (go_at_call_of 15 (errV 1); refine (is_err 1 _ (by decide)).mono ?_; rintro e w' ⟨rfl, rfl⟩)
        | (go_at_call_of 15 (errV 3); refine (is_err 3 _ (by decide)).mono ?_; rintro e w' ⟨rfl, rfl⟩)
        | (go_at_call 18; refine (read_nil 0 0 _).mono ?_; rintro e w1 ⟨rfl, hx1⟩)
        | (go_at_call 35; refine (tag_nil _).mono ?_; rintro e w' ⟨rfl, rfl⟩)
        | (go_at_call 36; refine (length_nil _).mono ?_; rintro e w' ⟨rfl, rfl⟩)
        | (go_at_call 16; refine (put_nil i _ _).mono ?_; rintro e w' ⟨rfl, rfl⟩)
        | (go_at_call 17; refine (has_nil i _).mono ?_; rintro e w' ⟨rfl, rfl⟩)
        | (go_at_call 22; refine (missing_nil 0 9 _).mono ?_; rintro e w2 ⟨rfl, hx2⟩)
        | (go_at_call 12; refine (whole_nil _).mono ?_; rintro e w' ⟨rfl, rfl⟩)
        | (go_at_call 19; refine (join_nil none _).mono ?_; rintro e w' ⟨rfl, rfl⟩)
        | (go_at_call 24; refine (held_nil _).mono ?_; rintro e w' ⟨rfl, rfl⟩)
        | (go_at_call 13; refine (drop_nil i _).mono ?_; rintro e w' ⟨rfl, rfl⟩))
      all_goals go_ret
      all_goals exact ⟨rfl, hx0.trans (hx1.trans hx2)⟩
    · obtain ⟨len, rfl⟩ : ∃ len : Nat, n = (len : Int) := ⟨n.toNat, by omega⟩
      have hl : len ≤ 65536 := by omega
      have q1 : decide ((len : Int) < 0) = false := by simp
      have q2 : decide (65536 < len) = false := by simp; omega
      have q3 : ¬ (65536 : Int) < (len : Int) := by omega
      have q4 : ¬ (65536 : Nat) < len := by omega
      have HW := Lib.hid (none_whole len)
      have HG := Lib.hid (show gaps (fun _ => none) (pcs 0 0) = [] from rfl)
      have HOK : Hid (PcOk len fun _ => none) := fun i hi s hs => by cases hs
      clear hb
      cases hz : decide (len = 0)
      all_goals have hz2 : ((len : Int) == 0) = decide (len = 0) := by rw [Bool.eq_iff_iff, beq_iff_eq, decide_eq_true_iff]; omega
      all_goals rw [hz] at hz2
      all_goals have HZ := Lib.hid hz
      all_goals clear hz
      all_goals go_enter Try.func8, Try.ntmps8
      all_goals go_upto_region 13 with (first
        | (go_at_call 9; refine (awake_any _).mono ?_; rintro e w0 ⟨rfl, hx0⟩)
        | (go_at_call 25; refine (new_ok tag len hl _ (fun _ => False) (fun _ h => h.elim)).mono ?_; rintro e w1 ⟨b, l, rfl, hx1, hB1⟩)
        | (go_at_call_of 15 (Value.nilIface); refine (is_nil 1 _ (by decide)).mono ?_; rintro e w' ⟨rfl, rfl⟩)
        | (go_at_call_of 15 (errV 3); refine (is_err 3 _ (by decide)).mono ?_; rintro e w' ⟨rfl, rfl⟩)
        | (go_at_call 18; refine (read_nil 0 0 _).mono ?_; rintro e w2 ⟨rfl, hx2⟩)
        | (go_at_call 35; refine (tag_nil _).mono ?_; rintro e w' ⟨rfl, rfl⟩)
        | (go_at_call 36; refine (length_nil _).mono ?_; rintro e w' ⟨rfl, rfl⟩)
        | (go_at_call 16; refine (put_nil i _ _).mono ?_; rintro e w' ⟨rfl, rfl⟩)
        | (go_at_call 17; refine (has_nil i _).mono ?_; rintro e w' ⟨rfl, rfl⟩)
        | (go_at_call 22; refine (missing_nil 0 9 _).mono ?_; rintro e w3 ⟨rfl, hx3⟩)
        | (go_at_call 12; refine (whole_nil _).mono ?_; rintro e w' ⟨rfl, rfl⟩)
        | (go_at_call 19; refine (join_nil (some ⟨b, 0, none⟩) _).mono ?_; rintro e w' ⟨rfl, rfl⟩)
        | (go_at_call 24; refine (held_nil _).mono ?_; rintro e w' ⟨rfl, rfl⟩)
        | (go_at_call 13; refine (drop_nil i _).mono ?_; rintro e w' ⟨rfl, rfl⟩))
      all_goals have hB3 := hB1.ext (hx2.trans hx3)
      all_goals have X3 := hx0.trans (hx1.trans (hx2.trans hx3))
      all_goals clear hB1 hx0 hx1 hx2 hx3
      all_goals go_wp2_with (first
        | (go_at_call 18; refine (read_ok hB3 HOK.out 0 0 hl (by omega) (by omega) HG.out).mono ?_; rintro e w4 ⟨v, rfl, hx4, ho4⟩; obtain ⟨A, cap, rfl⟩ := ho4.shape; rw [show (rdL (fun _ => none) 0 0).length = 0 from rfl])
        | (go_at_call 35; refine (tag_any (hB3.ext hx4)).mono ?_; rintro e w' ⟨rfl, rfl⟩)
        | (go_at_call 36; refine (length_any (hB3.ext hx4)).mono ?_; rintro e w' ⟨rfl, rfl⟩)
        | (go_at_call 12; refine (whole_any (hB3.ext hx4) hl).mono ?_; rw [HW.out, HZ.out]; rintro e w' ⟨rfl, rfl⟩)
        | (go_at_call 24; refine (held_none (hB3.ext hx4) hl).mono ?_; rintro e w5 ⟨rfl, hx5⟩))
      all_goals go_ret
      all_goals exact ⟨rfl, X3.trans (hx4.trans hx5)⟩
end Go.Proofs.Ytfjpaacanoocmaa
