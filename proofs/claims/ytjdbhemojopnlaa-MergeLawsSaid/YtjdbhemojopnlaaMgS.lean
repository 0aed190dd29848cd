/- Chapter 52: the example. -/
import Derived.Test.YtjdbhemojopnlaaMgR
namespace Go.Proofs.Ytjdbhemojopnlaa
open Go.RowKit Go.Maps
abbrev e1S : ByteArray := ⟨#[101, 49]⟩
abbrev eA : Ent := ⟨e1S, 0, 1, 2, 3, 10, 5⟩
abbrev eB : Ent := ⟨e1S, 0, 4, 2, 1, 5, 9⟩
theorem nm_e1 : nmB e1S = true := by decide
theorem good_A : eA.good := ⟨⟨by decide, nm_e1⟩, by unfold okN; decide, by decide, by decide, by unfold okN; decide, by unfold okN; decide, by unfold okN; decide⟩
theorem good_B : eB.good := ⟨⟨by decide, nm_e1⟩, by unfold okN; decide, by decide, by decide, by unfold okN; decide, by unfold okN; decide, by unfold okN; decide⟩
theorem GpsAt.len {w : World} {v : Value} {gs : List Gp} (h : GpsAt w v gs) : ∃ A cap, v = .slice A gs.length cap := by
  rcases h with ⟨rfl, rfl⟩ | ⟨g, cap, rfl, _⟩
  · exact ⟨_, _, rfl⟩
  · exact ⟨_, _, rfl⟩
set_option maxRecDepth 100000 in
set_option maxHeartbeats 2000000 in
theorem awake_any (w : World) : Calls Try.prog 11 #[] w fun e w' => e = .returned (.bool true) ∧ Ext w w' := by
  go_enter Try.func11, Try.ntmps11
  obtain ⟨q, hq⟩ : ∃ q, w.heap.size + 1 = q := ⟨_, rfl⟩
  obtain ⟨b, hb⟩ : ∃ b, w.heap.size = b := ⟨_, rfl⟩
  have HNEW : Hid (Calls Try.prog 18 #[] w fun e w' => e = .returned (.pointer (some ⟨q, 0, none⟩)) ∧ Ext w w' ∧ SetAt w' q b []) := Lib.hid (by rw [← hq, ← hb]; exact new_set w)
  have HB := Lib.hid (show w.heap.size ≤ b by omega)
  clear hq hb
  go_upto_region 2 with (go_at_call 18; refine HNEW.out.mono ?_; rintro e w1 ⟨rfl, hx1, hS1⟩)
  have HP1 : Hid (Calls Try.prog 19 #[.pointer (some ⟨q, 0, none⟩), .agg #[.string e1S, .int .i64 0, .int .i64 1, .int .i64 2, .int .i64 3, .int .i64 10, .int .i64 5]] w1 fun e w' => e = .returned (.tuple #[.bool true, .nilIface]) ∧ Ext w w' ∧ SetAt w' q b [eA]) := Lib.hid (by
    refine (put_good q b [] eA w1 hS1 good_A).mono ?_
    rintro e w' ⟨v, L', hP, rfl, hg, hS⟩
    rcases hP with h | h | ⟨y, hy, _⟩
    · cases h
    · exact ⟨rfl, hx1.grownB hg HB.out, hS⟩
    · cases hy)
  go_upto_region 3 with (go_at_call 19; refine HP1.out.mono ?_; rintro e w2 ⟨rfl, hx2, hS2⟩)
  have HP2 : Hid (Calls Try.prog 19 #[.pointer (some ⟨q, 0, none⟩), .agg #[.string e1S, .int .i64 0, .int .i64 4, .int .i64 2, .int .i64 1, .int .i64 5, .int .i64 9]] w2 fun e w' => e = .returned (.tuple #[.bool true, .nilIface]) ∧ Ext w w' ∧ SetAt w' q b [eA, eB]) := Lib.hid (by
    refine (put_good q b [eA] eB w2 hS2 good_B).mono ?_
    rintro e w' ⟨v, L', hP, rfl, hg, hS⟩
    rcases hP with h | h | ⟨y, hy, hk, _⟩
    · exact absurd h (by decide)
    · exact ⟨rfl, hx2.grownB hg HB.out, hS⟩
    · simp only [List.mem_singleton] at hy
      subst hy
      exact absurd hk (by decide))
  go_upto_region 4 with (go_at_call 19; refine HP2.out.mono ?_; rintro e w3 ⟨rfl, hx3, hS3⟩)
  have hso : [eA, eB].Pairwise ltE := List.pairwise_cons.2 ⟨fun y hy => by simp only [List.mem_singleton] at hy; subst hy; exact .inr ⟨rfl, .inr ⟨rfl, by decide⟩⟩, by simp⟩
  have HLS := fun W (hW : Ext w3 W) => lists_set hso (List.Perm.refl _) (by decide) (hS3.ext hW)
  have hgd : ∀ x ∈ [eA, eB], x.good := by
    intro x hx
    simp only [List.mem_cons, List.not_mem_nil, or_false] at hx
    rcases hx with rfl | rfl
    · exact good_A
    · exact good_B
  have HT : Hid (Calls Try.prog 15 #[.pointer (some ⟨q, 0, none⟩), .int .i64 2] w3 fun e w' => e = .returned (.tuple #[.int .i64 4, .int .i64 15]) ∧ Ext w3 w') := Lib.hid (total_any (r := [eA, eB]) (by decide) hgd 2 w3 (HLS w3 (Ext.refl _)))
  have HG : Hid (∀ W, Ext w3 W → Calls Try.prog 13 #[.pointer (some ⟨q, 0, none⟩)] W fun e w' => (∃ A cap, e = .returned (.slice A 1 cap)) ∧ Ext W w') := Lib.hid (fun W hW => (gaps_any (r := [eA, eB]) (by decide) hgd W (HLS W hW)).mono (by
    rintro e w' ⟨u, rfl, hu, hx⟩
    obtain ⟨A, cap, rfl⟩ := hu.len
    exact ⟨⟨A, cap, rfl⟩, hx⟩))
  clear HLS hgd hso
  go_wp2_with (first
    | (go_at_call 15; refine HT.out.mono ?_; rintro e w4 ⟨rfl, hx4⟩)
    | (go_at_call 13; refine (HG.out _ hx4).mono ?_; rintro e w5 ⟨⟨A, cap, rfl⟩, hx5⟩))
  go_ret
  exact ⟨rfl, (hx3.trans hx4).trans hx5⟩
end Go.Proofs.Ytjdbhemojopnlaa
