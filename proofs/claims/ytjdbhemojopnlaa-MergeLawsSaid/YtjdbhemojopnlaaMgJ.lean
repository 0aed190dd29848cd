/- Chapter 52: what Check and Code say of entries that are out of range; New. -/
import Derived.Test.YtjdbhemojopnlaaMgI
namespace Go.Proofs.Ytjdbhemojopnlaa
open Go.RowKit Go.Maps
set_option maxRecDepth 100000 in
set_option maxHeartbeats 4000000 in
theorem check_bad (nd : ByteArray) (bt sq tn ht by_ at_ : Int) (hs : (nd.size : Int) ≤ 9223372036854775807) (hn : nmB nd = true) (hsq : -9223372036854775808 ≤ sq ∧ sq ≤ 9223372036854775807) (h : ¬ okE bt sq tn ht by_ at_) (w : World) :
    Calls Try.prog 30 #[entV nd bt sq tn ht by_ at_] w fun e w' => e = .returned (errV 1) ∧ Ext w w' := by
  have HN := Lib.hid (fun W => named_any nd hs W)
  have HH := Lib.hid h
  rw [hn] at HN
  clear hn h
  by_cases hq : sq = -9223372036854775808
  · subst hq
    clear hsq HH
    have hw : wrap64 (-9223372036854775809) = 9223372036854775807 := by unfold wrap64; omega
    go_enter Try.func30, Try.ntmps30
    go_wp2_with (go_at_call 43; refine (HN.out _).mono ?_; rintro e w' ⟨rfl, rfl⟩)
    refine wp_loop_rounds 8 ?_
    repeat any_goals (rw [rounds_succ]; go_wp2_with fail)
    all_goals go_ret
    all_goals exact ⟨rfl, ((Ext.refl w).alloc _).alloc _⟩
  · obtain ⟨q1, q2⟩ : -9223372036854775807 ≤ sq ∧ sq ≤ 9223372036854775807 := by omega
    clear hsq hq
    go_enter Try.func30, Try.ntmps30
    go_wp2_with (go_at_call 43; refine (HN.out _).mono ?_; rintro e w' ⟨rfl, rfl⟩)
    refine wp_loop_rounds 8 ?_
    repeat any_goals (rw [rounds_succ]; go_wp2_with fail)
    all_goals go_ret
    all_goals first
      | exact ⟨rfl, ((Ext.refl w).alloc _).alloc _⟩
      | exact absurd (by unfold okE okN; omega) HH.out
set_option maxRecDepth 100000 in
theorem code_name (nd : ByteArray) (bt sq tn ht by_ at_ : Int) (hs : (nd.size : Int) ≤ 9223372036854775807) (hn : nmB nd = false) (w : World) :
    Calls Try.prog 27 #[entV nd bt sq tn ht by_ at_] w fun e w' => e = .returned (.int .i64 8) ∧ Ext w w' := by
  have HN := Lib.hid (fun W => name_any nd hs W)
  rw [hn] at HN
  clear hn
  go_enter Try.func27, Try.ntmps27
  go_wp2_with (go_at_call 42; refine (HN.out _).mono ?_; rintro e w' ⟨rfl, rfl⟩)
  go_ret
  exact ⟨rfl, (Ext.refl w).alloc _⟩
set_option maxRecDepth 100000 in
set_option maxHeartbeats 4000000 in
theorem code_ok (nd : ByteArray) (bt sq tn ht by_ at_ : Int) (hs : (nd.size : Int) ≤ 9223372036854775807) (hn : nmB nd = true) (h : okE bt sq tn ht by_ at_) (w : World) :
    Calls Try.prog 27 #[entV nd bt sq tn ht by_ at_] w fun e w' => e = .returned (.int .i64 0) ∧ Ext w w' := by
  have HN := Lib.hid (fun W => name_any nd hs W)
  rw [hn] at HN
  obtain ⟨⟨a1, a2⟩, ⟨b1, b2⟩, ⟨c1, c2⟩, ⟨d1, d2⟩, ⟨e1, e2⟩, ⟨f1, f2⟩⟩ := h
  have n1 : ¬ bt < 0 := by omega
  have n2 : ¬ 1099511627776 < bt := by omega
  have n3 : ¬ sq < 0 := by omega
  have n4 : ¬ 1099511627776 < sq := by omega
  have n5 : ¬ tn < 0 := by omega
  have n6 : ¬ 1099511627776 < tn := by omega
  have n7 : ¬ ht < 0 := by omega
  have n8 : ¬ 1099511627776 < ht := by omega
  have n9 : ¬ by_ < 0 := by omega
  have n10 : ¬ 1099511627776 < by_ := by omega
  have n11 : ¬ at_ < 0 := by omega
  have n12 : ¬ 1099511627776 < at_ := by omega
  have n13 : ¬ sq < 1 := by omega
  have n14 : ¬ 15 < tn := by omega
  clear hn a1 a2 b1 b2 c1 c2 d1 d2 e1 e2 f1 f2
  go_enter Try.func27, Try.ntmps27
  go_wp2_with (go_at_call 42; refine (HN.out _).mono ?_; rintro e w' ⟨rfl, rfl⟩)
  refine wp_loop_rounds 8 ?_
  repeat any_goals (rw [rounds_succ]; go_wp2_with fail)
  all_goals go_ret
  all_goals exact ⟨rfl, ((Ext.refl w).alloc _).alloc _⟩
set_option maxRecDepth 100000 in
set_option maxHeartbeats 4000000 in
theorem code_bad (nd : ByteArray) (bt sq tn ht by_ at_ : Int) (hs : (nd.size : Int) ≤ 9223372036854775807) (hn : nmB nd = true) (h : ¬ okE bt sq tn ht by_ at_) (w : World) :
    Calls Try.prog 27 #[entV nd bt sq tn ht by_ at_] w fun e w' => e = .returned (.int .i64 1) ∧ Ext w w' := by
  have HN := Lib.hid (fun W => name_any nd hs W)
  have HH := Lib.hid h
  rw [hn] at HN
  clear hn h
  go_enter Try.func27, Try.ntmps27
  go_wp2_with (go_at_call 42; refine (HN.out _).mono ?_; rintro e w' ⟨rfl, rfl⟩)
  refine wp_loop_rounds 8 ?_
  repeat any_goals (rw [rounds_succ]; go_wp2_with fail)
  all_goals go_ret
  all_goals first
    | exact ⟨rfl, ((Ext.refl w).alloc _).alloc _⟩
    | exact absurd (by unfold okE okN; omega) HH.out
set_option maxRecDepth 100000 in
theorem new_set (w : World) : Calls Try.prog 18 #[] w fun e w' => e = .returned (.pointer (some ⟨w.heap.size + 1, 0, none⟩)) ∧ Ext w w' ∧ SetAt w' (w.heap.size + 1) w.heap.size [] := by
  have hmm := @run_makeMap Try.prog
  go_enter Try.func18, Try.ntmps18
  go_wp2_with fail
  go_ret
  refine ⟨rfl, ((Ext.refl w).alloc _).alloc _, ⟨by simp, ?_, by simp, by simp⟩⟩
  have h1 := (MapKept.heap_alloc w (.map #[] 0)).1
  exact ((MapKept.heap_alloc (w.alloc (.map #[] 0)) _).2 w.heap.size (by simp)).trans h1
set_option maxRecDepth 100000 in
theorem put_none (x : Ent) (w : World) : Calls Try.prog 19 #[.pointer none, x.v] w fun e w' => e = .returned (.tuple #[.bool false, errV 3]) ∧ Ext w w' := by
  dsimp only [Ent.v]
  go_enter Try.func19, Try.ntmps19
  go_wp2_with fail
  go_ret2
  exact ⟨rfl, (Ext.refl w).alloc _⟩
set_option maxRecDepth 100000 in
theorem put_err (q : Nat) (x : Ent) (k : Int) (w : World) (HC : ∀ W, Calls Try.prog 30 #[entV x.nd x.bt x.sq x.tn x.ht x.by_ x.at_] W fun e w' => e = .returned (errV k) ∧ Ext W w') :
    Calls Try.prog 19 #[.pointer (some ⟨q, 0, none⟩), x.v] w fun e w' => e = .returned (.tuple #[.bool false, errV k]) ∧ Ext w w' := by
  have HK := Lib.hid HC
  clear HC
  dsimp only [Ent.v]
  go_enter Try.func19, Try.ntmps19
  go_wp2_with (go_at_call 30; refine (HK.out _).mono ?_; rintro e w1 ⟨rfl, hx1⟩)
  go_ret2
  exact ⟨rfl, ((Ext.refl w).alloc _).trans hx1⟩
end Go.Proofs.Ytjdbhemojopnlaa
