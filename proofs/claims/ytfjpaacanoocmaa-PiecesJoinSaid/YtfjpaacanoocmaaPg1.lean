/- Chapter 20: Join refused: nothing to join, other heads, other bytes. -/
import Derived.Test.YtfjpaacanoocmaaPcS
namespace Go.Proofs.Ytfjpaacanoocmaa
open Go.RowKit Go.Deep Go.Sort
theorem join_none {w : World} (b : Nat) : Calls Try.prog 19 #[.pointer (some ⟨b, 0, none⟩), .pointer none] w fun e w' => e = .returned (errV 3) ∧ w = w' := by
  go_enter Try.func19, Try.ntmps19
  go_wp2_with fail
  go_ret
  exact ⟨rfl, rfl⟩
set_option maxRecDepth 100000 in
theorem join_head {w : World} {B b l len : Nat} {A : Nat → Prop} {tag : ByteArray} {D : Nat → Option ByteArray} (h : BodyAt w B A b l tag len D) {B' b' l' len' : Nat} {A' : Nat → Prop} {tag' : ByteArray} {E : Nat → Option ByteArray} (h' : BodyAt w B' A' b' l' tag' len' E)
    (hq : (tag.toList == tag'.toList) = false ∨ tag = ⟨#[]⟩ ∨ len ≠ len') :
    Calls Try.prog 19 #[.pointer (some ⟨b, 0, none⟩), .pointer (some ⟨b', 0, none⟩)] w fun e w' => e = .returned (errV 20) ∧ Ext w w' := by
  have c0 := h.c0
  have c1 := h.c1
  have d0 := h'.c0
  have d1 := h'.c1
  clear h h'
  cases h1 : (tag.toList == tag'.toList) with
  | false =>
    clear hq
    go_enter Try.func19, Try.ntmps19
    go_upto_region 3 with fail
    refine wp_region_quiet_lit (by kernel_rfl) (by kernel_rfl) ?_
    repeat (go_big_quiet_step (fail))
    refine wpQuiet_nil ?_
    rintro _ ⟨nq, rfl⟩
    go_wp2_with fail
    go_ret
    exact ⟨rfl, (Ext.refl w).drewN nq⟩
  | true =>
    obtain rfl := ba_eq h1
    clear h1
    by_cases h2 : tag = ⟨#[]⟩
    · subst h2
      clear hq
      go_enter Try.func19, Try.ntmps19
      go_upto_region 3 with fail
      refine wp_region_quiet_lit (by kernel_rfl) (by kernel_rfl) ?_
      repeat (go_big_quiet_step (fail))
      refine wpQuiet_nil ?_
      rintro _ ⟨nq, rfl⟩
      go_wp2_with fail
      go_ret
      exact ⟨rfl, (Ext.refl w).drewN nq⟩
    · have h3 : len ≠ len' := by rcases hq with h | h | h <;> simp_all
      have q1 : (tag.toList == []) = false := by
        rw [beq_eq_false_iff_ne]
        intro e
        rw [ByteArray.toList_eq] at e
        exact h2 (ByteArray.ext (Array.toList_inj.1 e))
      have q2 : ((len : Int) != (len' : Int)) = true := by rw [bne_iff_ne]; omega
      clear hq h2 h3
      go_enter Try.func19, Try.ntmps19
      go_upto_region 3 with fail
      refine wp_region_quiet_lit (by kernel_rfl) (by kernel_rfl) ?_
      repeat (go_big_quiet_step (fail))
      refine wpQuiet_nil ?_
      rintro _ ⟨nq, rfl⟩
      go_wp2_with fail
      go_ret
      exact ⟨rfl, (Ext.refl w).drewN nq⟩
set_option maxRecDepth 100000 in
set_option maxHeartbeats 4000000 in
theorem join_mixed {w : World} {B b l len : Nat} {A : Nat → Prop} {tag : ByteArray} {D : Nat → Option ByteArray} (h : BodyAt w B A b l tag len D) {B' b' l' : Nat} {A' : Nat → Prop} {E : Nat → Option ByteArray} (h' : BodyAt w B' A' b' l' tag len E)
    (hl : len ≤ 65536) (q1 : (tag.toList == []) = false) (hm : ∃ i s s', i < npc len ∧ D i = some s ∧ E i = some s' ∧ s ≠ s') :
    Calls Try.prog 19 #[.pointer (some ⟨b, 0, none⟩), .pointer (some ⟨b', 0, none⟩)] w fun e w' => e = .returned (errV 20) ∧ Ext w w' := by
  obtain ⟨i0, s0, s0', hi0, hD0, hE0, hne0⟩ := hm
  have hn : npc len ≤ 256 := by unfold npc; omega
  have HH := Lib.hid h
  have HH' := Lib.hid h'
  have H0 := Lib.hid (And.intro hD0 (And.intro hE0 hne0))
  have c0 := h.c0
  have c1 := h.c1
  have c2 := h.c2
  have d0 := h'.c0
  have d1 := h'.c1
  have d2 := h'.c2
  have q2 : ((len : Int) != (len : Int)) = false := by simp
  clear h h' hD0 hE0 hne0
  go_enter Try.func19, Try.ntmps19
  go_upto_region 3 with fail
  refine wp_region_quiet_lit (by kernel_rfl) (by kernel_rfl) ?_
  repeat (go_big_quiet_step (fail))
  refine wpQuiet_nil ?_
  rintro _ ⟨nq, rfl⟩
  go_wp2_with fail
  go_loopw [49] (fun i wr => ∃ k : Nat, k ≤ i0 ∧ i = .int .i64 k ∧ wr = w.drewN nq) (fun i _ => npc len - (intOf i).toNat)
  case atStart => exact ⟨0, by omega, rfl, rfl⟩
  case round =>
    obtain ⟨k, hk, rfl, rfl⟩ := hrel
    have hlt : k < npc len := by omega
    have hki : (k : Int) < (npc len : Int) := by omega
    obtain ⟨f, hf, hp⟩ := HH.out.row
    obtain ⟨f', hf', hp'⟩ := HH'.out.row
    have hc := hf.cell hlt
    have hc' := hf'.cell hlt
    have hpk := hp k hlt
    have hpk' := hp' k hlt
    cases hD : D k with
    | none =>
      have hki0 : k ≠ i0 := fun e => by rw [← e, hD] at H0; cases H0.out.1
      rw [hD] at hpk
      rw [show f k = .slice none 0 0 from hpk] at hc
      clear hp hp' hpk hpk' hD hc'
      go_wp2_with fail
      go_roundw
      case rel => exact ⟨k + 1, by omega, by go_num, by first | rfl | trivial⟩
      case measure => simp [intOf]; omega
    | some s =>
      rw [hD] at hpk
      obtain ⟨g, cap, e1, -, -, -, -, hs⟩ := hpk
      rw [e1] at hc
      cases hE : E k with
      | none =>
        have hki0 : k ≠ i0 := fun e => by rw [← e, hE] at H0; cases H0.out.2.1
        rw [hE] at hpk'
        rw [show f' k = .slice none 0 0 from hpk'] at hc'
        clear hp hp' hpk' hD hE
        go_wp2_with fail
        go_roundw
        case rel => exact ⟨k + 1, by omega, by go_num, by first | rfl | trivial⟩
        case measure => simp [intOf]; omega
      | some s' =>
        rw [hE] at hpk'
        obtain ⟨g', cap', e1', -, -, -, -, hs'⟩ := hpk'
        rw [e1'] at hc'
        by_cases hss : s = s'
        · have hki0 : k ≠ i0 := fun e => by
            rw [← e, hD, hE] at H0
            exact H0.out.2.2 ((Option.some.inj H0.out.1).symm.trans (hss.trans (Option.some.inj H0.out.2.1)))
          subst hss
          clear hp hp' hD hE e1 e1'
          go_wp2_with (go_at_call 38; refine (equal_same (w.drewN nq) g g' cap cap' s (fun i hi => hs i hi) (fun i hi => hs' i hi)).mono ?_; rintro e w' ⟨rfl, rfl⟩)
          go_roundw
          case rel => exact ⟨k + 1, by omega, by go_num, by first | rfl | trivial⟩
          case measure => simp [intOf]; omega
        · have HEQ := Lib.hid (equal_any (w.drewN nq) g g' cap cap' s s' (fun i hi => hs i hi) (fun i hi => hs' i hi))
          rw [decide_eq_false hss] at HEQ
          clear hp hp' hD hE e1 e1' hss
          go_wp2_with (go_at_call 38; refine HEQ.out.mono ?_; rintro e w' ⟨rfl, rfl⟩)
          go_ret
          exact ⟨rfl, (Ext.refl w).drewN nq⟩
end Go.Proofs.Ytfjpaacanoocmaa
