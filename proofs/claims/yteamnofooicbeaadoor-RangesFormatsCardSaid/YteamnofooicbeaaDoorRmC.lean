/- Chapter 09: ranges.Merge of a list of ranges (the program). -/
import Derived.Test.YteamnofooicbeaaDoorRmP
import Derived.Test.YteamnofooicbeaaDoorQuiet
import Derived.Deep.RegionWith
import Derived.Below
namespace Go.Proofs.YteamnofooicbeaaDoor
open Go.RowKit
theorem own_kept {w w' : World} {B : Nat} {e : TypeId} {size n : Nat} {v : Value} {xs : List Value} (h : w.ownsRow B e size v n xs) (hx : Ext w w') : w'.ownsRow B e size v n xs := by
  refine ⟨h.1, ?_⟩
  rcases h.2 with e | ⟨g, cap, cur, rfl, hb, hh, r⟩
  · exact .inl e
  · exact .inr ⟨g, cap, cur, rfl, hb, (Below.block hx g (Array.getElem?_eq_some_iff.1 hh).1).trans hh, r⟩
theorem own_more {w : World} {B B' : Nat} {e : TypeId} {size n : Nat} {v : Value} {xs : List Value} (h : w.ownsRow B e size v n xs) (hb : B' ≤ B) : w.ownsRow B' e size v n xs := by
  refine ⟨h.1, ?_⟩
  rcases h.2 with e | ⟨g, cap, cur, rfl, hg, r⟩
  · exact .inl e
  · exact .inr ⟨g, cap, cur, rfl, Nat.le_trans hb hg, r⟩
theorem ROwn.ext {T : TypeId} {w w' : World} {B : Nat} {v : Value} {xs : List (Int × Int)} (h : ROwn T w B v xs) (hx : Ext w w') : ROwn T w' B v xs := own_kept h hx
theorem ROwn.more {T : TypeId} {w : World} {B B' : Nat} {v : Value} {xs : List (Int × Int)} (h : ROwn T w B v xs) (hb : B' ≤ B) : ROwn T w B' v xs := own_more h hb
theorem ROwn.shape {T : TypeId} {w : World} {B : Nat} {v : Value} {xs : List (Int × Int)} (h : ROwn T w B v xs) : (v = .slice none 0 0 ∧ xs = []) ∨ ∃ g cap, v = .slice (some ⟨g, 0, none⟩) xs.length cap ∧ xs.length ≤ cap ∧ B ≤ g ∧ g < w.heap.size ∧ ∀ i p, xs[i]? = some p → w.cell? ⟨g, i * 2, none⟩ = some (.int .i64 p.1) ∧ w.cell? ⟨g, i * 2 + 1, none⟩ = some (.int .i64 p.2) := by
  rcases h.2 with ⟨rfl, e⟩ | ⟨g, cap, cur, rfl, hb, hh, hl, hm, hc, ht⟩
  · exact .inl ⟨rfl, List.eq_nil_of_length_eq_zero e⟩
  · refine .inr ⟨g, cap, rfl, hl, hb, (Array.getElem?_eq_some_iff.1 hh).1, fun i p hp => ?_⟩
    rcases h.at with ⟨h0, _⟩ | ⟨g', cap', h1, h2⟩
    · cases h0
    · cases h1
      exact ⟨h2 i p hp 0 _ rfl, h2 i p hp 1 _ rfl⟩
/-- a slice value with room, and what it reads as -/
theorem ROwn.parts {T : TypeId} {w : World} {B : Nat} {v : Value} {xs : List (Int × Int)} (h : ROwn T w B v xs) : ∃ A cap, v = .slice A xs.length cap ∧ xs.length ≤ cap := by
  rcases h.shape with ⟨rfl, rfl⟩ | ⟨g, cap, rfl, h1, _⟩
  · exact ⟨none, 0, rfl, Nat.le_refl _⟩
  · exact ⟨_, cap, rfl, h1⟩
theorem RAt.cells {w : World} {A : Option Addr} {n cap : Nat} {xs : List (Int × Int)} (h : RAt w (.slice A n cap) xs) {k : Nat} {p : Int × Int} (hk : xs[k]? = some p) : ∃ g, A = some ⟨g, 0, none⟩ ∧ w.cell? ⟨g, k * 2, none⟩ = some (.int .i64 p.1) ∧ w.cell? ⟨g, k * 2 + 1, none⟩ = some (.int .i64 p.2) := by
  rcases h with ⟨_, h⟩ | ⟨g, c, h1, h2⟩
  · rw [h] at hk; simp at hk
  · cases h1
    exact ⟨g, rfl, h2 k p hk 0 _ rfl, h2 k p hk 1 _ rfl⟩
theorem rcs2_set (out : List (Int × Int)) (q : Nat) (l : Int × Int) (u : Int) (hl : out[q]? = some l) : (out.flatMap rcs2).set (q * 2 + 1) (.int .i64 u) = (out.set q (l.1, u)).flatMap rcs2 := by
  induction out generalizing q with
  | nil => simp at hl
  | cons x xs ih =>
    have e : ∀ (y : Int × Int) (ys : List (Int × Int)), (y :: ys).flatMap rcs2 = .int .i64 y.1 :: .int .i64 y.2 :: ys.flatMap rcs2 := fun _ _ => rfl
    cases q with
    | zero =>
      simp at hl
      subst hl
      rw [e]
      rfl
    | succ q =>
      have := ih q (by simpa using hl)
      rw [e, show (q + 1) * 2 + 1 = q * 2 + 1 + 1 + 1 by omega, List.set_cons_succ, List.set_cons_succ, this, List.set_cons_succ, e]
set_option maxRecDepth 100000 in
set_option maxHeartbeats 4000000 in
theorem mergeR_any {w : World} {v : Value} {xs : List (Int × Int)} (h : RAt w v xs) (hv : xs = [] → v = .slice none 0 0) (hn : xs.length ≤ 300) :
    Calls Tryd.prog 28 #[v] w fun e w' => ∃ v' ys, e = .returned v' ∧ Ext w w' ∧ ys.Perm xs ∧ ys.Pairwise (fun a b => a.1 ≤ b.1) ∧ ROwn 37 w' w.heap.size v' (mg ys) ∧ (mg ys = [] → v' = .slice none 0 0) := by
  have HC := Lib.hid (cloneR_any h (by omega) hv)
  clear h hv
  go_enter Tryd.func28, Tryd.ntmps28
  go_upto_region 2 with (go_at_call 65; refine HC.out.mono ?_; rintro e w1 ⟨v1, rfl, hx1, ho1⟩)
  have HS := Lib.hid (sortR_any ho1 hx1 (by omega))
  have HO1 := Lib.hid ho1
  clear ho1
  go_upto_region 4 with (go_at_call 66; refine HS.out.mono ?_; rintro e w2 ⟨rfl, ys, hperm, hsort, hr2, X2⟩)
  have hny : ys.length ≤ 300 := by rw [hperm.length_eq]; exact hn
  obtain ⟨n, hyn⟩ : ∃ n, ys.length = n := ⟨_, rfl⟩
  obtain ⟨A1, cap1, rfl, hcap⟩ := HO1.out.parts
  rw [← hperm.length_eq, hyn] at hcap hr2 ⊢
  have HN := Lib.hid hyn
  have HR := Lib.hid hr2
  have HP := Lib.hid hperm
  have HSO := Lib.hid hsort
  rw [hyn] at hny
  clear hx1 hr2 hperm hsort hyn hn HO1 HS HC
  go_wp2_with fail
  go_loopw [4, 14] (fun v i wr => ∃ k : Nat, k ≤ n ∧ i = .int .i64 k ∧ ROwn 37 wr w2.heap.size v (mg (ys.take k)) ∧ Ext w2 wr ∧ (mg (ys.take k) = [] → v = .slice none 0 0)) (fun _ i _ => n - (intOf i).toNat)
  case atStart => exact ⟨0, by omega, rfl, ROwn.nil _ _ _, Ext.refl _, fun _ => rfl⟩
  case round =>
    obtain ⟨k, hk, rfl, hown, hX, hni⟩ := hrel
    by_cases hlt : k < n
    · have hki : (k : Int) < (n : Int) := by omega
      obtain ⟨⟨f, t⟩, hr⟩ : ∃ r, ys[k]? = some r := ⟨_, List.getElem?_eq_getElem (by rw [HN.out]; exact hlt)⟩
      obtain ⟨g1, rfl, c0, c1⟩ := (HR.out.ext hX).cells hr
      simp only at c0 c1
      have HM := Lib.hid (mg_take ys k (f, t) hr)
      have hk6 : (k : Int) < 301 := by omega
      have hkc : k < cap1 := by omega
      have hlen := Lib.hid (Nat.le_trans (mg_length (ys.take k)) (by rw [List.length_take]; omega : (ys.take k).length ≤ 300))
      have hsz := hX.size
      clear hr
      by_cases hft : f < t
      · have q1 : ¬ (t ≤ f) := by omega
        have HM2 := Lib.hid (show mg (ys.take (k + 1)) = mgJ (mg (ys.take k)) (f, t) by rw [HM.out]; unfold mgS; rw [if_pos hft])
        clear HM
        rcases hown.shape with ⟨rfl, ho⟩ | ⟨go, co, rfl, ho1, ho2, ho3, ho4⟩
        · clear hni
          rw [ho] at hown HM2
          have HO := Lib.hid hown
          clear ho hown
          have hmg := Lib.hid (show mg (ys.take (k + 1)) = [(f, t)] by rw [HM2.out, mgJ_nil])
          go_upto_region 9 with fail
          refine wp_region_quiet_lit (by kernel_rfl) (by kernel_rfl) ?_
          repeat (go_big_quiet_step (fail))
          refine wpQuiet_nil ?_
          rintro _ ⟨nq, rfl⟩
          have hsz2 : w2.heap.size ≤ ((wr.alloc (.cells #[.int .i64 f, .int .i64 t] 37)).drewN nq).heap.size := Nat.le_trans hsz (((Ext.refl wr).alloc _).drewN nq).size
          go_wp2_with (at_builtin; refine wpList_append_r 37 23 Tryd.underlying23 rng_info ((wr.alloc (.cells #[.int .i64 f, .int .i64 t] 37)).drewN nq) rfl (.tmp 52) (.tmp 54) rfl w2.heap.size f t (HO.out.ext (((Ext.refl wr).alloc _).drewN nq)) rfl rfl (by simp [World.drewN]) (by simp) hsz2 ?_)
          intro v' w3 hown' hb _
          rw [← hmg.out] at hown'
          go_wp2_with fail
          go_roundw
          case rel => exact ⟨k + 1, by omega, by go_num, hown', Below.trans ((hX.alloc _).drewN nq) hb, fun e => by rw [hmg.out] at e; simp at e⟩
          case measure => simp [intOf]; omega
        · obtain ⟨q, hq⟩ : ∃ q, (mg (ys.take k)).length = q := ⟨_, rfl⟩
          rcases Nat.eq_zero_or_pos q with hq0 | hq0
          · exfalso
            have := hni (List.eq_nil_of_length_eq_zero (hq.trans hq0))
            cases this
          · clear hni
            obtain ⟨q, rfl⟩ : ∃ p, q = p + 1 := ⟨q - 1, by omega⟩
            obtain ⟨⟨l, u⟩, hl⟩ : ∃ l, (mg (ys.take k))[q]? = some l := ⟨_, List.getElem?_eq_getElem (by omega)⟩
            have hcl := ho4 q _ hl
            simp only at hcl
            rw [hq] at ho1 ⊢
            have hq6 : (q : Int) < 301 := by have := hlen.out; omega
            have hqc : q < co := by omega
            have HL2 := Lib.hid hl
            have HQ := Lib.hid hq
            have hown' : wr.ownsRow w2.heap.size 37 2 (.slice (some ⟨go, 0, none⟩) (q + 1) co) (q + 1) ((mg (ys.take k)).flatMap rcs2) := by have := hown; unfold ROwn at this; rwa [hq] at this
            have HO := Lib.hid hown'
            have d1 : ∀ o nq, ((wr.alloc o).drewN nq).cell? ⟨go, q * 2 + 1, none⟩ = some (.int .i64 u) := fun o nq => (((Ext.refl wr).alloc o).drewN nq).cell hcl.2
            have d2 : ∀ o, (wr.alloc o).cell? ⟨go, q * 2 + 1, none⟩ = some (.int .i64 u) := fun o => ((Ext.refl wr).alloc o).cell hcl.2
            have d3 : ∀ o nq, ((wr.alloc o).drewN nq).drew.cell? ⟨go, q * 2 + 1, none⟩ = some (.int .i64 u) := fun o nq => ((((Ext.refl wr).alloc o).drewN nq).drew).cell hcl.2
            have qg : decide ((0 : Int) < (q : Int) + 1) = true := by rw [decide_eq_true_iff]; omega
            have HC2 := Lib.hid hcl.2
            clear hcl hown hown' hl hq ho4
            by_cases hfu : f ≤ u
            · have qf : decide (f ≤ u) = true := decide_eq_true hfu
              have hmg := Lib.hid (show mg (ys.take (k + 1)) = (mg (ys.take k)).set q (l, max u t) by rw [HM2.out]; exact mgJ_join HQ.out HL2.out hfu)
              clear hfu
              go_upto_region 9 with fail
              refine wp_region_quiet_lit (by kernel_rfl) (by kernel_rfl) ?_
              repeat (go_big_quiet_step (fail))
              refine wpQuiet_nil ?_
              rintro _ ⟨nq, rfl⟩
              have hfz : ∀ o nq, ((wr.alloc o).drewN nq).drew.frozen? ⟨go, q * 2 + 1, none⟩ = false := fun o nq => by
                rw [Ext.frozen ((((Ext.refl wr).alloc o).drewN nq).drew) (HC2.out)]
                exact HO.out.frozenAt _
              have hfz2 : ∀ o, (wr.alloc o).frozen? ⟨go, q * 2 + 1, none⟩ = false := fun o => by
                rw [Ext.frozen ((Ext.refl wr).alloc o) (HC2.out)]
                exact HO.out.frozenAt _
              have hfz3 : ∀ o nq, ((wr.alloc o).drewN nq).frozen? ⟨go, q * 2 + 1, none⟩ = false := fun o nq => by
                rw [Ext.frozen (((Ext.refl wr).alloc o).drewN nq) (HC2.out)]
                exact HO.out.frozenAt _
              have d4 : ∀ o nq, ((wr.alloc o).drewN nq).drew.cell? ⟨wr.heap.size, 1, none⟩ = (wr.alloc o).cell? ⟨wr.heap.size, 1, none⟩ := fun o nq => rfl
              go_upto_region 10 with fail
              have g1' : (q : Int) + 1 - 1 = (q : Int) := by omega
              have g2' : IntKind.i64.wrap (q : Int) = (q : Int) := IntWalk.i64_in (q : Int) (by omega)
              have g3' : q < q + 1 := by omega
              go_region_with (fail_if_success skip; skip)
              all_goals go_wp2_with fail
              all_goals refine ⟨⟨k + 1, by omega, by go_num, ?_, ((hX.alloc _).drewN _).setCell ho2 _, fun e => ?_⟩, by simp [intOf]; omega⟩
              all_goals first
                | (exfalso; have := congrArg List.length e; rw [hmg.out, List.length_set, HQ.out] at this; simp at this)
                | (unfold ROwn; rw [hmg.out, List.length_set, HQ.out, ← rcs2_set _ q (l, u) _ HL2.out]; exact ((own_kept HO.out (((Ext.refl wr).alloc _).drewN _)).stored _ _).1)
            · have qf : decide (f ≤ u) = false := decide_eq_false hfu
              have hmg := Lib.hid (show mg (ys.take (k + 1)) = mg (ys.take k) ++ [(f, t)] by rw [HM2.out]; exact mgJ_add HQ.out HL2.out hfu)
              clear hfu
              go_upto_region 9 with fail
              refine wp_region_quiet_lit (by kernel_rfl) (by kernel_rfl) ?_
              repeat (go_big_quiet_step (fail))
              refine wpQuiet_nil ?_
              rintro _ ⟨nq, rfl⟩
              have hsz2 : w2.heap.size ≤ ((wr.alloc (.cells #[.int .i64 f, .int .i64 t] 37)).drewN nq).heap.size := Nat.le_trans hsz (((Ext.refl wr).alloc _).drewN nq).size
              have hownR : ROwn 37 wr w2.heap.size (.slice (some ⟨go, 0, none⟩) (q + 1) co) (mg (ys.take k)) := by unfold ROwn; rw [HQ.out]; exact HO.out
              have HOR := Lib.hid hownR
              clear hownR
              go_wp2_with (at_builtin; refine wpList_append_r 37 23 Tryd.underlying23 rng_info ((wr.alloc (.cells #[.int .i64 f, .int .i64 t] 37)).drewN nq) rfl (.tmp 52) (.tmp 54) rfl w2.heap.size f t (HOR.out.ext (((Ext.refl wr).alloc _).drewN nq)) rfl rfl (by simp [World.drewN]) (by have := hlen.out; omega) hsz2 ?_)
              intro v' w3 hown' hb _
              rw [← hmg.out] at hown'
              go_wp2_with fail
              go_roundw
              case rel => exact ⟨k + 1, by omega, by go_num, hown', Below.trans ((hX.alloc _).drewN nq) hb, fun e => by rw [hmg.out] at e; simp at e⟩
              case measure => simp [intOf]; omega
      · have q1 : t ≤ f := by omega
        have HM2 := Lib.hid (show mg (ys.take (k + 1)) = mg (ys.take k) by rw [HM.out]; unfold mgS; rw [if_neg hft])
        have HO := Lib.hid hown
        have HNI := Lib.hid hni
        clear hft HM hown hni
        go_wp2_with fail
        go_roundw
        case rel => exact ⟨k + 1, by omega, by go_num, by rw [HM2.out]; exact HO.out.ext ((Ext.refl wr).alloc _), hX.alloc _, by rw [HM2.out]; exact HNI.out⟩
        case measure => simp [intOf]; omega
    · obtain rfl : k = n := by omega
      rw [← HN.out, List.take_length] at hown hni
      have HO := Lib.hid hown
      have HNI := Lib.hid hni
      have hB := Lib.hid X2.size
      clear hown hni
      go_wp2_with fail
      go_ret
      exact ⟨_, ys, rfl, X2.trans hX, HP.out, HSO.out, own_more HO.out hB.out, HNI.out⟩
end Go.Proofs.YteamnofooicbeaaDoor
