/- Chapter 09: ranges.Merge of a list of ranges (the program). Chapter 09: ranges.Cover of a list of ranges (the program). Chapter 09: Of (ranges of the reference into those of the program); the reference's Has. Chapter 09: the reference's Merge: the walk. Chapter 09: slices of parts (both kinds): rows of three cells. Chapter 09: what is asked of a part's bytes (plain). Chapter 09: a part's bytes in memory; the program's parts. Chapter 09: the append of a part to the program's parts, between two steps of the reader. Chapter 09: what Multipart writes, and what is read of it (plain). -/
import Derived.Test.YtlhnejcjeoecaaaGreatDoorGAH
import Derived.Test.YtlhnejcjeoecaaaGreatDoorGAB
import Derived.Deep.RegionWith
import Derived.Below
import Derived.Test.YtlhnejcjeoecaaaGreatDoorGAA
import Derived.Deep.RegionHeld3
import Derived.Deep.RegionLaw
import Derived.Deep.DrawnRows
import Derived.Deep.DeepCutAuto
import Derived.Deep.Heap
import Derived.Laws.IdiomStrings
namespace Go.Proofs.YtlhnejcjeoecaaaGreatDoor
open Go.RowKit
theorem own_kept {w w' : World} {B : Nat} {e : TypeId} {size n : Nat} {v : Value} {xs : List Value} (h : w.ownsRow B e size v n xs) (hx : Ext w w') : w'.ownsRow B e size v n xs := by
  refine ⟨h.1, ?_⟩
  rcases h.2 with e | ⟨g, cap, cur, rfl, hb, hh, r⟩
  · exact .inl e
  · exact .inr ⟨g, cap, cur, rfl, hb, (Below.block hx g (Array.getElem?_eq_some_iff.1 hh).1).trans hh, r⟩
theorem own_more {w : World} {B B' : Nat} {e : TypeId} {size n : Nat} {v : Value} {xs : List Value} (h : w.ownsRow B e size v n xs) (hb : B' ≤ B) : w.ownsRow B' e size v n xs := by
  refine ⟨h.1, ?_⟩
  rcases h.2 with e | ⟨g, cap, cur, rfl, hg, r⟩
  · exact .inl e
  · exact .inr ⟨g, cap, cur, rfl, Nat.le_trans hb hg, r⟩
theorem ROwn.ext {T : TypeId} {w w' : World} {B : Nat} {v : Value} {xs : List (Int × Int)} (h : ROwn T w B v xs) (hx : Ext w w') : ROwn T w' B v xs := own_kept h hx
theorem ROwn.more {T : TypeId} {w : World} {B B' : Nat} {v : Value} {xs : List (Int × Int)} (h : ROwn T w B v xs) (hb : B' ≤ B) : ROwn T w B' v xs := own_more h hb
theorem ROwn.shape {T : TypeId} {w : World} {B : Nat} {v : Value} {xs : List (Int × Int)} (h : ROwn T w B v xs) : (v = .slice none 0 0 ∧ xs = []) ∨ ∃ g cap, v = .slice (some ⟨g, 0, none⟩) xs.length cap ∧ xs.length ≤ cap ∧ B ≤ g ∧ g < w.heap.size ∧ ∀ i p, xs[i]? = some p → w.cell? ⟨g, i * 2, none⟩ = some (.int .i64 p.1) ∧ w.cell? ⟨g, i * 2 + 1, none⟩ = some (.int .i64 p.2) := by
  rcases h.2 with ⟨rfl, e⟩ | ⟨g, cap, cur, rfl, hb, hh, hl, hm, hc, ht⟩
  · exact .inl ⟨rfl, List.eq_nil_of_length_eq_zero e⟩
  · refine .inr ⟨g, cap, rfl, hl, hb, (Array.getElem?_eq_some_iff.1 hh).1, fun i p hp => ?_⟩
    rcases h.at with ⟨h0, _⟩ | ⟨g', cap', h1, h2⟩
    · cases h0
    · cases h1
      exact ⟨h2 i p hp 0 _ rfl, h2 i p hp 1 _ rfl⟩
/-- a slice value with room, and what it reads as -/
theorem ROwn.parts {T : TypeId} {w : World} {B : Nat} {v : Value} {xs : List (Int × Int)} (h : ROwn T w B v xs) : ∃ A cap, v = .slice A xs.length cap ∧ xs.length ≤ cap := by
  rcases h.shape with ⟨rfl, rfl⟩ | ⟨g, cap, rfl, h1, _⟩
  · exact ⟨none, 0, rfl, Nat.le_refl _⟩
  · exact ⟨_, cap, rfl, h1⟩
theorem RAt.cells {w : World} {A : Option Addr} {n cap : Nat} {xs : List (Int × Int)} (h : RAt w (.slice A n cap) xs) {k : Nat} {p : Int × Int} (hk : xs[k]? = some p) : ∃ g, A = some ⟨g, 0, none⟩ ∧ w.cell? ⟨g, k * 2, none⟩ = some (.int .i64 p.1) ∧ w.cell? ⟨g, k * 2 + 1, none⟩ = some (.int .i64 p.2) := by
  rcases h with ⟨_, h⟩ | ⟨g, c, h1, h2⟩
  · rw [h] at hk; simp at hk
  · cases h1
    exact ⟨g, rfl, h2 k p hk 0 _ rfl, h2 k p hk 1 _ rfl⟩
theorem rcs2_set (out : List (Int × Int)) (q : Nat) (l : Int × Int) (u : Int) (hl : out[q]? = some l) : (out.flatMap rcs2).set (q * 2 + 1) (.int .i64 u) = (out.set q (l.1, u)).flatMap rcs2 := by
  induction out generalizing q with
  | nil => simp at hl
  | cons x xs ih =>
    have e : ∀ (y : Int × Int) (ys : List (Int × Int)), (y :: ys).flatMap rcs2 = .int .i64 y.1 :: .int .i64 y.2 :: ys.flatMap rcs2 := fun _ _ => rfl
    cases q with
    | zero =>
      simp at hl
      subst hl
      rw [e]
      rfl
    | succ q =>
      have := ih q (by simpa using hl)
      rw [e, show (q + 1) * 2 + 1 = q * 2 + 1 + 1 + 1 by omega, List.set_cons_succ, List.set_cons_succ, this, List.set_cons_succ, e]
set_option maxRecDepth 100000 in
set_option maxHeartbeats 4000000 in
theorem mergeR_any {w : World} {v : Value} {xs : List (Int × Int)} (h : RAt w v xs) (hv : xs = [] → v = .slice none 0 0) (hn : xs.length ≤ 300) :
    Calls Tryz.prog 28 #[v] w fun e w' => ∃ v' ys, e = .returned v' ∧ Ext w w' ∧ ys.Perm xs ∧ ys.Pairwise (fun a b => a.1 ≤ b.1) ∧ ROwn 27 w' w.heap.size v' (mg ys) ∧ (mg ys = [] → v' = .slice none 0 0) := by
  have HC := Lib.hid (cloneR_any h (by omega) hv)
  clear h hv
  go_enter Tryz.func28, Tryz.ntmps28
  go_upto_region 2 with (go_at_call 45; refine HC.out.mono ?_; rintro e w1 ⟨v1, rfl, hx1, ho1⟩)
  have HS := Lib.hid (sortR_any ho1 hx1 (by omega))
  have HO1 := Lib.hid ho1
  clear ho1
  go_upto_region 4 with (go_at_call 46; refine HS.out.mono ?_; rintro e w2 ⟨rfl, ys, hperm, hsort, hr2, X2⟩)
  have hny : ys.length ≤ 300 := by rw [hperm.length_eq]; exact hn
  obtain ⟨n, hyn⟩ : ∃ n, ys.length = n := ⟨_, rfl⟩
  obtain ⟨A1, cap1, rfl, hcap⟩ := HO1.out.parts
  rw [← hperm.length_eq, hyn] at hcap hr2 ⊢
  have HN := Lib.hid hyn
  have HR := Lib.hid hr2
  have HP := Lib.hid hperm
  have HSO := Lib.hid hsort
  rw [hyn] at hny
  clear hx1 hr2 hperm hsort hyn hn HO1 HS HC
  go_wp2_with fail
  go_loopw [4, 14] (fun v i wr => ∃ k : Nat, k ≤ n ∧ i = .int .i64 k ∧ ROwn 27 wr w2.heap.size v (mg (ys.take k)) ∧ Ext w2 wr ∧ (mg (ys.take k) = [] → v = .slice none 0 0)) (fun _ i _ => n - (intOf i).toNat)
  case atStart => exact ⟨0, by omega, rfl, ROwn.nil _ _ _, Ext.refl _, fun _ => rfl⟩
  case round =>
    obtain ⟨k, hk, rfl, hown, hX, hni⟩ := hrel
    by_cases hlt : k < n
    · have hki : (k : Int) < (n : Int) := by omega
      obtain ⟨⟨f, t⟩, hr⟩ : ∃ r, ys[k]? = some r := ⟨_, List.getElem?_eq_getElem (by rw [HN.out]; exact hlt)⟩
      obtain ⟨g1, rfl, c0, c1⟩ := (HR.out.ext hX).cells hr
      simp only at c0 c1
      have HM := Lib.hid (mg_take ys k (f, t) hr)
      have hk6 : (k : Int) < 301 := by omega
      have hkc : k < cap1 := by omega
      have hlen := Lib.hid (Nat.le_trans (mg_length (ys.take k)) (by rw [List.length_take]; omega : (ys.take k).length ≤ 300))
      have hsz := hX.size
      clear hr
      by_cases hft : f < t
      · have q1 : ¬ (t ≤ f) := by omega
        have HM2 := Lib.hid (show mg (ys.take (k + 1)) = mgJ (mg (ys.take k)) (f, t) by rw [HM.out]; unfold mgS; rw [if_pos hft])
        clear HM
        rcases hown.shape with ⟨rfl, ho⟩ | ⟨go, co, rfl, ho1, ho2, ho3, ho4⟩
        · clear hni
          rw [ho] at hown HM2
          have HO := Lib.hid hown
          clear ho hown
          have hmg := Lib.hid (show mg (ys.take (k + 1)) = [(f, t)] by rw [HM2.out, mgJ_nil])
          go_upto_region 9 with fail
          refine wp_region_quiet_lit (by kernel_rfl) (by kernel_rfl) ?_
          repeat (go_big_quiet_step (fail))
          refine wpQuiet_nil ?_
          rintro _ ⟨nq, rfl⟩
          have hsz2 : w2.heap.size ≤ ((wr.alloc (.cells #[.int .i64 f, .int .i64 t] 27)).drewN nq).heap.size := Nat.le_trans hsz (((Ext.refl wr).alloc _).drewN nq).size
          go_wp2_with (at_builtin; refine wpList_append_r 27 23 Tryz.underlying23 rng_info ((wr.alloc (.cells #[.int .i64 f, .int .i64 t] 27)).drewN nq) rfl (.tmp 52) (.tmp 54) rfl w2.heap.size f t (HO.out.ext (((Ext.refl wr).alloc _).drewN nq)) rfl rfl (by simp [World.drewN]) (by simp) hsz2 ?_)
          intro v' w3 hown' hb _
          rw [← hmg.out] at hown'
          go_wp2_with fail
          go_roundw
          case rel => exact ⟨k + 1, by omega, by go_num, hown', Below.trans ((hX.alloc _).drewN nq) hb, fun e => by rw [hmg.out] at e; simp at e⟩
          case measure => simp [intOf]; omega
        · obtain ⟨q, hq⟩ : ∃ q, (mg (ys.take k)).length = q := ⟨_, rfl⟩
          rcases Nat.eq_zero_or_pos q with hq0 | hq0
          · exfalso
            have := hni (List.eq_nil_of_length_eq_zero (hq.trans hq0))
            cases this
          · clear hni
            obtain ⟨q, rfl⟩ : ∃ p, q = p + 1 := ⟨q - 1, by omega⟩
            obtain ⟨⟨l, u⟩, hl⟩ : ∃ l, (mg (ys.take k))[q]? = some l := ⟨_, List.getElem?_eq_getElem (by omega)⟩
            have hcl := ho4 q _ hl
            simp only at hcl
            rw [hq] at ho1 ⊢
            have hq6 : (q : Int) < 301 := by have := hlen.out; omega
            have hqc : q < co := by omega
            have HL2 := Lib.hid hl
            have HQ := Lib.hid hq
            have hown' : wr.ownsRow w2.heap.size 27 2 (.slice (some ⟨go, 0, none⟩) (q + 1) co) (q + 1) ((mg (ys.take k)).flatMap rcs2) := by have := hown; unfold ROwn at this; rwa [hq] at this
            have HO := Lib.hid hown'
            have d1 : ∀ o nq, ((wr.alloc o).drewN nq).cell? ⟨go, q * 2 + 1, none⟩ = some (.int .i64 u) := fun o nq => (((Ext.refl wr).alloc o).drewN nq).cell hcl.2
            have d2 : ∀ o, (wr.alloc o).cell? ⟨go, q * 2 + 1, none⟩ = some (.int .i64 u) := fun o => ((Ext.refl wr).alloc o).cell hcl.2
            have d3 : ∀ o nq, ((wr.alloc o).drewN nq).drew.cell? ⟨go, q * 2 + 1, none⟩ = some (.int .i64 u) := fun o nq => ((((Ext.refl wr).alloc o).drewN nq).drew).cell hcl.2
            have qg : decide ((0 : Int) < (q : Int) + 1) = true := by rw [decide_eq_true_iff]; omega
            have HC2 := Lib.hid hcl.2
            clear hcl hown hown' hl hq ho4
            by_cases hfu : f ≤ u
            · have qf : decide (f ≤ u) = true := decide_eq_true hfu
              have hmg := Lib.hid (show mg (ys.take (k + 1)) = (mg (ys.take k)).set q (l, max u t) by rw [HM2.out]; exact mgJ_join HQ.out HL2.out hfu)
              clear hfu
              go_upto_region 9 with fail
              refine wp_region_quiet_lit (by kernel_rfl) (by kernel_rfl) ?_
              repeat (go_big_quiet_step (fail))
              refine wpQuiet_nil ?_
              rintro _ ⟨nq, rfl⟩
              have hfz : ∀ o nq, ((wr.alloc o).drewN nq).drew.frozen? ⟨go, q * 2 + 1, none⟩ = false := fun o nq => by
                rw [Ext.frozen ((((Ext.refl wr).alloc o).drewN nq).drew) (HC2.out)]
                exact HO.out.frozenAt _
              have hfz2 : ∀ o, (wr.alloc o).frozen? ⟨go, q * 2 + 1, none⟩ = false := fun o => by
                rw [Ext.frozen ((Ext.refl wr).alloc o) (HC2.out)]
                exact HO.out.frozenAt _
              have hfz3 : ∀ o nq, ((wr.alloc o).drewN nq).frozen? ⟨go, q * 2 + 1, none⟩ = false := fun o nq => by
                rw [Ext.frozen (((Ext.refl wr).alloc o).drewN nq) (HC2.out)]
                exact HO.out.frozenAt _
              have d4 : ∀ o nq, ((wr.alloc o).drewN nq).drew.cell? ⟨wr.heap.size, 1, none⟩ = (wr.alloc o).cell? ⟨wr.heap.size, 1, none⟩ := fun o nq => rfl
              go_upto_region 10 with fail
              have g1' : (q : Int) + 1 - 1 = (q : Int) := by omega
              have g2' : IntKind.i64.wrap (q : Int) = (q : Int) := IntWalk.i64_in (q : Int) (by omega)
              have g3' : q < q + 1 := by omega
              go_region_with (fail_if_success skip; skip)
              all_goals go_wp2_with fail
              all_goals refine ⟨⟨k + 1, by omega, by go_num, ?_, ((hX.alloc _).drewN _).setCell ho2 _, fun e => ?_⟩, by simp [intOf]; omega⟩
              all_goals first
                | (exfalso; have := congrArg List.length e; rw [hmg.out, List.length_set, HQ.out] at this; simp at this)
                | (unfold ROwn; rw [hmg.out, List.length_set, HQ.out, ← rcs2_set _ q (l, u) _ HL2.out]; exact ((own_kept HO.out (((Ext.refl wr).alloc _).drewN _)).stored _ _).1)
            · have qf : decide (f ≤ u) = false := decide_eq_false hfu
              have hmg := Lib.hid (show mg (ys.take (k + 1)) = mg (ys.take k) ++ [(f, t)] by rw [HM2.out]; exact mgJ_add HQ.out HL2.out hfu)
              clear hfu
              go_upto_region 9 with fail
              refine wp_region_quiet_lit (by kernel_rfl) (by kernel_rfl) ?_
              repeat (go_big_quiet_step (fail))
              refine wpQuiet_nil ?_
              rintro _ ⟨nq, rfl⟩
              have hsz2 : w2.heap.size ≤ ((wr.alloc (.cells #[.int .i64 f, .int .i64 t] 27)).drewN nq).heap.size := Nat.le_trans hsz (((Ext.refl wr).alloc _).drewN nq).size
              have hownR : ROwn 27 wr w2.heap.size (.slice (some ⟨go, 0, none⟩) (q + 1) co) (mg (ys.take k)) := by unfold ROwn; rw [HQ.out]; exact HO.out
              have HOR := Lib.hid hownR
              clear hownR
              go_wp2_with (at_builtin; refine wpList_append_r 27 23 Tryz.underlying23 rng_info ((wr.alloc (.cells #[.int .i64 f, .int .i64 t] 27)).drewN nq) rfl (.tmp 52) (.tmp 54) rfl w2.heap.size f t (HOR.out.ext (((Ext.refl wr).alloc _).drewN nq)) rfl rfl (by simp [World.drewN]) (by have := hlen.out; omega) hsz2 ?_)
              intro v' w3 hown' hb _
              rw [← hmg.out] at hown'
              go_wp2_with fail
              go_roundw
              case rel => exact ⟨k + 1, by omega, by go_num, hown', Below.trans ((hX.alloc _).drewN nq) hb, fun e => by rw [hmg.out] at e; simp at e⟩
              case measure => simp [intOf]; omega
      · have q1 : t ≤ f := by omega
        have HM2 := Lib.hid (show mg (ys.take (k + 1)) = mg (ys.take k) by rw [HM.out]; unfold mgS; rw [if_neg hft])
        have HO := Lib.hid hown
        have HNI := Lib.hid hni
        clear hft HM hown hni
        go_wp2_with fail
        go_roundw
        case rel => exact ⟨k + 1, by omega, by go_num, by rw [HM2.out]; exact HO.out.ext ((Ext.refl wr).alloc _), hX.alloc _, by rw [HM2.out]; exact HNI.out⟩
        case measure => simp [intOf]; omega
    · obtain rfl : k = n := by omega
      rw [← HN.out, List.take_length] at hown hni
      have HO := Lib.hid hown
      have HNI := Lib.hid hni
      have hB := Lib.hid X2.size
      clear hown hni
      go_wp2_with fail
      go_ret
      exact ⟨_, ys, rfl, X2.trans hX, HP.out, HSO.out, own_more HO.out hB.out, HNI.out⟩
end Go.Proofs.YtlhnejcjeoecaaaGreatDoor
namespace Go.Proofs.YtlhnejcjeoecaaaGreatDoor
open Go.RowKit
set_option maxRecDepth 100000 in
set_option maxHeartbeats 2000000 in
theorem coverR_any {w : World} {v : Value} {xs : List (Int × Int)} (h : RAt w v xs) (hv : xs = [] → v = .slice none 0 0) (hn : xs.length ≤ 300) (f t : Int) (c : Bool) (hft : f < t → (c = true ↔ ∀ o, f ≤ o → o < t → cov xs o)) (hc : ¬ f < t → c = true) :
    Calls Tryz.prog 15 #[v, .agg #[.int .i64 f, .int .i64 t]] w fun e w' => e = .returned (.bool c) ∧ Ext w w' := by
  by_cases hlt : f < t
  · have q1 : ¬ (t ≤ f) := by omega
    have HFT := Lib.hid (hft hlt)
    have HLT := Lib.hid hlt
    have hX0 : Ext w (w.alloc (.cells #[.int .i64 f, .int .i64 t] 27)) := (Ext.refl w).alloc _
    have HM := Lib.hid (mergeR_any (h.ext hX0) hv hn)
    have HBX : Hid (RowB (w.alloc (.cells #[.int .i64 f, .int .i64 t] 27)) w.heap.size 27 [.int .i64 f, .int .i64 t]) := Lib.hid (row_laid _ _ _)
    have HXN := Lib.hid hn
    clear hft hc hlt h hv hn
    go_enter Tryz.func15, Tryz.ntmps15
    go_upto_region 4 with (go_at_call 28; refine HM.out.mono ?_; rintro e w1 ⟨v1, ys, rfl, hx1, hperm, hsort, ho1, -⟩; obtain ⟨A1, cap1, rfl, hc1⟩ := ho1.parts)
    have HC : Hid (c = true ↔ ∃ x ∈ mg ys, x.1 ≤ f ∧ t ≤ x.2) := Lib.hid (by
      obtain ⟨m1, m2, m3⟩ := mg_facts ys hsort
      rw [HFT.out, sep_cover m1 HLT.out]
      constructor
      · intro h o h1 h2
        exact (m3 o).2 ((cov_perm hperm o).2 (h o h1 h2))
      · intro h o h1 h2
        exact (cov_perm hperm o).1 ((m3 o).1 (h o h1 h2)))
    have hn3 : (mg ys).length ≤ 300 := Nat.le_trans (mg_length ys) (by rw [hperm.length_eq]; exact HXN.out)
    have hra := ho1.at
    obtain ⟨n, hxn⟩ : ∃ n, (mg ys).length = n := ⟨_, rfl⟩
    have HN := Lib.hid hxn
    rw [hxn] at hc1 hra hn3 ⊢
    have HR := Lib.hid hra
    have X1 := hX0.trans hx1
    have HB1 := Lib.hid (HBX.out.ext hx1)
    clear ho1 hxn hra hperm hsort hX0 hx1 HBX
    go_wp2_with fail
    go_loopw [15] (fun i wr => ∃ k : Nat, k ≤ n ∧ i = .int .i64 k ∧ Ext w1 wr ∧ ∀ j, j < k → ∀ x, (mg ys)[j]? = some x → ¬ (x.1 ≤ f ∧ t ≤ x.2)) (fun i _ => n - (intOf i).toNat)
    case atStart => exact ⟨0, by omega, rfl, Ext.refl _, fun j hj => by omega⟩
    case round =>
      obtain ⟨k, hk, rfl, hX, hall⟩ := hrel
      by_cases hkn : k < n
      · have hki : (k : Int) < (n : Int) := by omega
        have hk6 : (k : Int) < 301 := by omega
        obtain ⟨⟨a, z⟩, hx⟩ : ∃ x, (mg ys)[k]? = some x := ⟨_, List.getElem?_eq_getElem (by rw [HN.out]; exact hkn)⟩
        obtain ⟨g, rfl, c0, c1⟩ := (HR.out.ext hX).cells hx
        simp only at c0 c1
        have b0 := fun o => (HB1.out.ext (hX.alloc o)).cell (j := 0) rfl
        have b1 := fun o => (HB1.out.ext (hX.alloc o)).cell (j := 1) rfl
        have HXX := Lib.hid hx
        have HALL := Lib.hid hall
        have hkc : k < cap1 := by omega
        have hno : ¬ (a ≤ f ∧ t ≤ z) → ∀ j, j < k + 1 → ∀ x, (mg ys)[j]? = some x → ¬ (x.1 ≤ f ∧ t ≤ x.2) := by
          intro hn j hj y hy
          by_cases e : j = k
          · subst e
            rw [HXX.out] at hy
            obtain rfl := Option.some.inj hy
            exact hn
          · exact HALL.out j (by omega) y hy
        have HNO := Lib.hid hno
        clear hx hall hno
        by_cases h1 : a ≤ f
        · have p1 : decide (a ≤ f) = true := decide_eq_true h1
          by_cases h2 : t ≤ z
          · have p2 : decide (t ≤ z) = true := decide_eq_true h2
            have hcc : c = true := (HC.out).2 ⟨(a, z), List.mem_of_getElem? HXX.out, h1, h2⟩
            subst hcc
            go_wp2_with fail
            go_ret
            exact ⟨rfl, X1.trans (hX.alloc _)⟩
          · have p2 : decide (t ≤ z) = false := decide_eq_false h2
            have HH := Lib.hid (HNO.out (fun h => h2 h.2))
            clear h1 h2
            go_wp2_with fail
            go_roundw
            case rel => exact ⟨k + 1, by omega, by go_num, hX.alloc _, HH.out⟩
            case measure => simp [intOf]; omega
        · have p1 : decide (a ≤ f) = false := decide_eq_false h1
          have HH := Lib.hid (HNO.out (fun h => h1 h.1))
          clear h1
          go_wp2_with fail
          go_roundw
          case rel => exact ⟨k + 1, by omega, by go_num, hX.alloc _, HH.out⟩
          case measure => simp [intOf]; omega
      · obtain rfl : k = n := by omega
        have hcc : c = false := by
          cases hc0 : c with
          | false => rfl
          | true =>
            exfalso
            obtain ⟨x, hx, h1, h2⟩ := (HC.out).1 hc0
            obtain ⟨j, hj⟩ := List.getElem?_of_mem hx
            have hjl := (List.getElem?_eq_some_iff.1 hj).1
            rw [HN.out] at hjl
            exact hall j hjl x hj ⟨h1, h2⟩
        subst hcc
        clear hall
        go_wp2_with fail
        go_ret
        exact ⟨rfl, X1.trans hX⟩
  · have q1 : t ≤ f := by omega
    obtain rfl := hc hlt
    clear hft hc hlt h
    go_enter Tryz.func15, Tryz.ntmps15
    go_wp2_with fail
    go_ret
    exact ⟨rfl, (Ext.refl w).alloc _⟩
end Go.Proofs.YtlhnejcjeoecaaaGreatDoor
namespace Go.Proofs.YtlhnejcjeoecaaaGreatDoor
open Go.RowKit
/-- a slice that reads as a list of ranges, wherever it lies -/
def RIn (w : World) (v : Value) (xs : List (Int × Int)) : Prop := ∃ A cap, v = .slice A xs.length cap ∧ xs.length ≤ cap ∧ (0 < xs.length → ∃ a, A = some a ∧ ∀ i p, xs[i]? = some p → w.cell? (a.add (i * 2)) = some (.int .i64 p.1) ∧ w.cell? ⟨(a.add (i * 2)).block, (a.add (i * 2)).off + 1, none⟩ = some (.int .i64 p.2))
theorem RIn.ext {w w' : World} {v : Value} {xs : List (Int × Int)} (h : RIn w v xs) (hx : Ext w w') : RIn w' v xs := by
  obtain ⟨A, cap, e, hc, hr⟩ := h
  refine ⟨A, cap, e, hc, fun h0 => ?_⟩
  obtain ⟨a, e2, hg⟩ := hr h0
  exact ⟨a, e2, fun i p hp => ⟨hx.cell (hg i p hp).1, hx.cell (hg i p hp).2⟩⟩
theorem ROwn.rin {T : TypeId} {w : World} {B : Nat} {v : Value} {xs : List (Int × Int)} (h : ROwn T w B v xs) : RIn w v xs := by
  rcases h.shape with ⟨rfl, rfl⟩ | ⟨g, cap, rfl, h1, h2, h3, h4⟩
  · exact ⟨none, 0, rfl, Nat.le_refl _, fun h => by simp at h⟩
  · refine ⟨_, cap, rfl, h1, fun _ => ⟨_, rfl, fun i p hp => ?_⟩⟩
    rw [Addr.add_lit, Nat.zero_add]
    exact h4 i p hp
end Go.Proofs.YtlhnejcjeoecaaaGreatDoor
namespace Go.Proofs.YtlhnejcjeoecaaaGreatDoor
open Go.RowKit Go.Deep
theorem own_base {w : World} {base : Nat} {e : TypeId} {size : Nat} {v : Value} {n : Nat} {xs : List Value} (h : w.ownsRow base e size v n xs) : ∀ g, v.ownBlock = some g → base ≤ g := by
  intro g hg
  rcases h.2 with ⟨rfl, _⟩ | ⟨g', cap, cur, rfl, hb, _⟩
  · simp [Value.ownBlock] at hg
  · simp [Value.ownBlock] at hg; omega
theorem own_ge {g B n cap : Nat} (h : B ≤ g) : ∀ k, (Value.slice (some ⟨g, 0, none⟩) n cap).ownBlock = some k → B ≤ k := fun k hk => by
  simp [Value.ownBlock] at hk
  omega
theorem own_other {w : World} {B : Nat} {e : TypeId} {size n : Nat} {v : Value} {xs : List Value} (h : w.ownsRow B e size v n xs) {b i : Nat} (hp : b < B) (u : Value) : (w.setCell ⟨b, i, none⟩ u).ownsRow B e size v n xs := by
  refine ⟨h.1, ?_⟩
  rcases h.2 with e | ⟨g, cap, cur, rfl, hb, hh, r⟩
  · exact .inl e
  · exact .inr ⟨g, cap, cur, rfl, hb, (blk_setCell_other w ⟨b, i, none⟩ u g (fun e => by have : g = b := e; omega)).trans hh, r⟩
theorem reads_zero {w : World} {B size : Nat} {A : Option Addr} : Reads w B size A 0 [] := ⟨by simp, fun h => absurd h (by omega)⟩
theorem owns0 (w : World) {B G : Nat} (hB : B ≤ w.heap.size) (hG : G = w.heap.size) (e : TypeId) (size : Nat) : (w.alloc (.cells #[] e)).ownsRow B e size (.slice (some ⟨G, 0, none⟩) 0 0) 0 [] := by
  subst hG
  refine ⟨by simp, .inr ⟨w.heap.size, 0, #[], rfl, hB, heap_alloc_new w _, Nat.le_refl _, by simp only [maxLen]; omega, by simp, by simp⟩⟩
theorem reads_one {w : World} {G : Nat} {e : TypeId} {a b : Value} (h : RowB w G e [a, b]) : Reads w w.heap.size 2 (some ⟨G, 0, none⟩) 1 [a, b] := by
  refine ⟨rfl, fun _ => ⟨_, rfl, h.lt, fun j u hu => ?_⟩⟩
  rw [Addr.add_lit, Nat.zero_add]
  exact h.cell hu
/-- the cells of a list at the head of block g -/
def AtB (w : World) (g : Nat) (xs : List (Int × Int)) : Prop := ∀ i p, xs[i]? = some p → w.cell? ⟨g, i * 2, none⟩ = some (.int .i64 p.1) ∧ w.cell? ⟨g, i * 2 + 1, none⟩ = some (.int .i64 p.2)
theorem AtB.ext {w w' : World} {g : Nat} {xs : List (Int × Int)} (h : AtB w g xs) (hx : Ext w w') : AtB w' g xs := fun i p hp => ⟨hx.cell (h i p hp).1, hx.cell (h i p hp).2⟩
theorem AtB.cell {w : World} {g : Nat} {xs : List (Int × Int)} (h : AtB w g xs) {j : Nat} {u : Value} (hu : (xs.flatMap rcs2)[j]? = some u) : w.cell? ⟨g, j, none⟩ = some u := by
  have hj := (List.getElem?_eq_some_iff.1 hu).1
  rw [r2_flat_len] at hj
  obtain ⟨x, hx⟩ : ∃ x, xs[j / 2]? = some x := ⟨_, List.getElem?_eq_getElem (by omega)⟩
  have e1 := r_flat xs (j / 2) x hx (j % 2) (by omega)
  rw [show j / 2 * 2 + j % 2 = j by omega, hu] at e1
  obtain ⟨h0, h1⟩ := h (j / 2) x hx
  rcases Nat.mod_two_eq_zero_or_one j with e | e
  · rw [show j / 2 * 2 = j by omega] at h0
    rw [e] at e1
    rw [h0, e1]
    rfl
  · rw [show j / 2 * 2 + 1 = j by omega] at h1
    rw [e] at e1
    rw [h1, e1]
    rfl
theorem flat_take (xs : List (Int × Int)) (q : Nat) : (xs.take q).flatMap rcs2 = (xs.flatMap rcs2).take (q * 2) := by
  induction xs generalizing q with
  | nil => simp
  | cons x xs ih =>
    cases q with
    | zero => simp
    | succ q =>
      have e : ∀ (y : Int × Int) (ys : List (Int × Int)), (y :: ys).flatMap rcs2 = .int .i64 y.1 :: .int .i64 y.2 :: ys.flatMap rcs2 := fun _ _ => rfl
      rw [List.take_succ_cons, e, e, ih, show (q + 1) * 2 = q * 2 + 1 + 1 by omega]
      rfl
theorem flat_drop (xs : List (Int × Int)) (q : Nat) : (xs.drop q).flatMap rcs2 = (xs.flatMap rcs2).drop (q * 2) := by
  induction xs generalizing q with
  | nil => simp
  | cons x xs ih =>
    cases q with
    | zero => simp
    | succ q =>
      have e : ∀ (y : Int × Int) (ys : List (Int × Int)), (y :: ys).flatMap rcs2 = .int .i64 y.1 :: .int .i64 y.2 :: ys.flatMap rcs2 := fun _ _ => rfl
      rw [List.drop_succ_cons, e, ih, show (q + 1) * 2 = q * 2 + 1 + 1 by omega]
      rfl
theorem reads_take {w W : World} {g B : Nat} {xs : List (Int × Int)} (h : AtB w g xs) (hg : g < B) (hx : Ext w W) (q : Nat) (hq : q ≤ xs.length) : Reads W B 2 (some ⟨g, 0, none⟩) q ((xs.take q).flatMap rcs2) := by
  refine ⟨by rw [r2_flat_len, List.length_take]; omega, fun _ => ⟨_, rfl, hg, fun j u hu => ?_⟩⟩
  rw [Addr.add_lit, Nat.zero_add]
  rw [flat_take] at hu
  have hj : j < q * 2 := by
    have := (List.getElem?_eq_some_iff.1 hu).1
    rw [List.length_take] at this
    omega
  rw [List.getElem?_take_of_lt hj] at hu
  exact (h.ext hx).cell hu
theorem reads_drop {w W : World} {g B : Nat} {xs : List (Int × Int)} (h : AtB w g xs) (hg : g < B) (hx : Ext w W) (q : Nat) : Reads W B 2 (some ⟨g, q * 2, none⟩) (xs.length - q) ((xs.drop q).flatMap rcs2) := by
  refine ⟨by rw [r2_flat_len, List.length_drop], fun _ => ⟨_, rfl, hg, fun j u hu => ?_⟩⟩
  rw [Addr.add_lit]
  rw [flat_drop, List.getElem?_drop] at hu
  exact (h.ext hx).cell hu
end Go.Proofs.YtlhnejcjeoecaaaGreatDoor
namespace Go.Proofs.YtlhnejcjeoecaaaGreatDoor
open Go.RowKit
def c3 (q : Int × Int × Value) : List Value := [.int .i64 q.1, .int .i64 q.2.1, q.2.2]
def P3 (T : TypeId) (w : World) (B : Nat) (v : Value) (qs : List (Int × Int × Value)) : Prop := w.ownsRow B T 3 v qs.length (qs.flatMap c3)
theorem P3.nil (T : TypeId) (w : World) (B : Nat) : P3 T w B (.slice none 0 0) [] := World.ownsRow_nil _ _ _ _
theorem P3.ext {T : TypeId} {w w' : World} {B : Nat} {v : Value} {qs : List (Int × Int × Value)} (h : P3 T w B v qs) (hx : Ext w w') : P3 T w' B v qs := own_kept h hx
theorem P3.other {T : TypeId} {w : World} {B : Nat} {v : Value} {qs : List (Int × Int × Value)} (h : P3 T w B v qs) {b i : Nat} (hp : b < B) (u : Value) : P3 T (w.setCell ⟨b, i, none⟩ u) B v qs := own_other h hp u
theorem c3_flat : ∀ (xs : List (Int × Int × Value)) (i : Nat) (e : Int × Int × Value), xs[i]? = some e → ∀ j, j < 3 → (xs.flatMap c3)[i * 3 + j]? = (c3 e)[j]?
  | [], i, e, h, _, _ => by simp at h
  | x :: r, 0, e, h, j, hj => by
    simp at h
    subst h
    simp only [List.flatMap_cons, Nat.zero_mul, Nat.zero_add]
    rw [List.getElem?_append_left (by simpa [c3] using hj)]
  | x :: r, i + 1, e, h, j, hj => by
    simp only [List.getElem?_cons_succ] at h
    simp only [List.flatMap_cons]
    have h4 : (c3 x).length = 3 := rfl
    rw [List.getElem?_append_right (by omega), h4, show (i + 1) * 3 + j - 3 = i * 3 + j by omega]
    exact c3_flat r i e h j hj
theorem P3.shape {T : TypeId} {w : World} {B : Nat} {v : Value} {xs : List (Int × Int × Value)} (h : P3 T w B v xs) : (v = .slice none 0 0 ∧ xs = []) ∨ ∃ g cap, v = .slice (some ⟨g, 0, none⟩) xs.length cap ∧ xs.length ≤ cap ∧ B ≤ g ∧ g < w.heap.size ∧ ∀ i p, xs[i]? = some p → w.cell? ⟨g, i * 3, none⟩ = some (.int .i64 p.1) ∧ w.cell? ⟨g, i * 3 + 1, none⟩ = some (.int .i64 p.2.1) ∧ w.cell? ⟨g, i * 3 + 2, none⟩ = some p.2.2 := by
  rcases h.2 with ⟨rfl, e⟩ | ⟨g, cap, cur, rfl, hb, hh, hl, hm, hc, ht⟩
  · exact .inl ⟨rfl, List.eq_nil_of_length_eq_zero e⟩
  · refine .inr ⟨g, cap, rfl, hl, hb, (Array.getElem?_eq_some_iff.1 hh).1, fun i p hp => ?_⟩
    have hi := (List.getElem?_eq_some_iff.1 hp).1
    have key : ∀ j, j < 3 → w.cell? ⟨g, i * 3 + j, none⟩ = (c3 p)[j]? := by
      intro j hj
      rw [cell_of_row w g _ cur _ _ hh]
      have e1 := c3_flat xs i p hp j hj
      rw [← ht, List.getElem?_take_of_lt (by omega)] at e1
      rw [← e1]
      simp
    exact ⟨key 0 (by omega), key 1 (by omega), key 2 (by omega)⟩
theorem P3.parts {T : TypeId} {w : World} {B : Nat} {v : Value} {xs : List (Int × Int × Value)} (h : P3 T w B v xs) : ∃ A cap, v = .slice A xs.length cap ∧ xs.length ≤ cap ∧ ∀ i p, xs[i]? = some p → ∃ g, A = some ⟨g, 0, none⟩ ∧ w.cell? ⟨g, i * 3, none⟩ = some (.int .i64 p.1) ∧ w.cell? ⟨g, i * 3 + 1, none⟩ = some (.int .i64 p.2.1) ∧ w.cell? ⟨g, i * 3 + 2, none⟩ = some p.2.2 := by
  rcases h.shape with ⟨rfl, rfl⟩ | ⟨g, cap, rfl, h1, h2, h3, h4⟩
  · exact ⟨none, 0, rfl, Nat.le_refl _, fun i p hp => by simp at hp⟩
  · exact ⟨_, cap, rfl, h1, fun i p hp => ⟨g, rfl, h4 i p hp⟩⟩
theorem part_info : (Tryz.prog.info? 55).map (fun i => (i.zero, i.size, i.bytes)) = some (some (.agg #[.int .i64 0, .int .i64 0, .slice none 0 0]), 3, 40) := by kernel_rfl
theorem reads_one3 {w : World} {G : Nat} {e : TypeId} {a b c : Value} (h : RowB w G e [a, b, c]) : Reads w w.heap.size 3 (some ⟨G, 0, none⟩) 1 [a, b, c] := by
  refine ⟨rfl, fun _ => ⟨_, rfl, h.lt, fun j u hu => ?_⟩⟩
  rw [Addr.add_lit, Nat.zero_add]
  exact h.cell hu
/-- the reference's parts -/
def rq (ps : List (Int × Int × ByteArray)) : List (Int × Int × Value) := ps.map fun p => (p.1, p.2.1, .string p.2.2)
theorem rq_length (ps : List (Int × Int × ByteArray)) : (rq ps).length = ps.length := by simp [rq]
theorem rq_snoc (ps : List (Int × Int × ByteArray)) (p : Int × Int × ByteArray) : rq (ps ++ [p]) = rq ps ++ [(p.1, p.2.1, .string p.2.2)] := by simp [rq]
/-! ### what makes a part fail, as the reference asks it -/
theorem part_noQ {b s : ByteArray} {st : Option (ByteArray × Int)} (h : ¬ okQ b s) : partF b s st = none := part_no1 (fun h2 => h ((head_same b s).1.2 h2))
theorem part_noR {b s : ByteArray} {st : Option (ByteArray × Int)} (h : crO (l3 b s).1 = none) : partF b s st = none := by
  by_cases h1 : okP b s
  · exact part_no2 (by rw [← ((head_same b s).2 h1).2.1]; exact h)
  · exact part_no1 h1
theorem part_noK {b s : ByteArray} {st : Option (ByteArray × Int)} (h : kindF (k1 b s).1 = false) : partF b s st = none := by
  cases hc : crO (k2 b s).1 with
  | none => exact part_no2 hc
  | some p =>
    obtain ⟨f, t, n⟩ := p
    refine part_no3 hc (fun h2 => ?_)
    rw [h2.1] at h
    cases h
theorem part_noL {b s : ByteArray} {st : Option (ByteArray × Int)} (h : kindF (l2 b s).1 = false) : partF b s st = none := by
  by_cases h1 : okP b s
  · exact part_noK (by rw [← ((head_same b s).2 h1).1]; exact h)
  · exact part_no1 h1
end Go.Proofs.YtlhnejcjeoecaaaGreatDoor
namespace Go.Proofs.YtlhnejcjeoecaaaGreatDoor
open Go.RowKit
theorem crlB_list : crlB.toList = [13, 10] := by
  rw [ByteArray.toList_eq]
  rfl
theorem crlB_size : crlB.size = 2 := rfl
theorem lineF_size (p s : ByteArray) : (lineF p s).1.size ≤ s.size ∧ (lineF p s).2.1.size ≤ s.size := by
  have h := cutB_size (s.extract p.size s.size)
  have h2 : (s.extract p.size s.size).size ≤ s.size := by rw [ByteArray.size_extract]; omega
  have h3 : (⟨#[]⟩ : ByteArray).size = 0 := rfl
  unfold lineF
  split
  · split
    · omega
    · simp only; omega
  · simp only; omega
theorem empty_is {s : ByteArray} (h : s.size = 0) : s = ⟨#[]⟩ := bs_ext (by
  rw [ByteArray.toList_eq, ByteArray.toList_eq]
  exact List.length_eq_zero_iff.1 (by rw [← Lib.size_eq]; exact h))
section
attribute [local irreducible] crlB pfxB holdF kindF k1 k2 okP eB partF crO
theorem ext_ext {s : ByteArray} {z : Nat} (h : z + 2 ≤ s.size) : (s.extract z s.size).extract 0 crlB.size = s.extract z (z + 2) := by
  refine bs_ext ?_
  rw [crlB_size, ext_list, ext_list, ext_list, List.drop_zero, List.take_take]
  congr 1
  omega
theorem aft_ext {s : ByteArray} {z : Nat} (h : z + 2 ≤ s.size) : aft crlB (s.extract z s.size) = s.extract (z + 2) s.size := by
  unfold aft
  refine bs_ext ?_
  rw [crlB_size, ByteArray.size_extract, ext_list, ext_list, ext_list, List.drop_take, List.drop_drop, List.take_take]
  congr 1
  omega
theorem cr_cmp {e : ByteArray} {z : Nat} (h2 : z + 2 ≤ e.size) : ((e.extract z (z + 2)).toList == [13, 10]) = pfxB crlB (e.extract z e.size) := by
  rw [← pfxB_cut, ext_ext h2, crlB_list]
theorem cond_len {b s e : ByteArray} {st : Option (ByteArray × Int)} {f t n : Int} {z : Nat} (hz : szI f t = z) (he : e = eB b s) (h : ¬ z + 2 ≤ e.size) : ¬ condP b s st f t n := by
  unfold condP
  rw [← he, hz]
  rintro ⟨-, -, h3, h4, -⟩
  have h5 := pfxB_size h4
  rw [ByteArray.size_extract, crlB_size] at h5
  omega
theorem cond_cr {b s e : ByteArray} {st : Option (ByteArray × Int)} {f t n : Int} {z : Nat} (hz : szI f t = z) (he : e = eB b s) (h : pfxB crlB (e.extract z e.size) = false) : ¬ condP b s st f t n := by
  unfold condP
  rw [← he, hz, h]
  rintro ⟨-, -, -, h4, -⟩
  cases h4
theorem cond_hold {b s e : ByteArray} {st : Option (ByteArray × Int)} {f t n : Int} {z : Nat} (hz : szI f t = z) (he : e = eB b s) (h : holdF (e.extract 0 z) b = true) : ¬ condP b s st f t n := by
  unfold condP
  rw [← he, hz, h]
  rintro ⟨-, -, -, -, h4⟩
  cases h4
theorem cond_state {b s : ByteArray} {st : Option (ByteArray × Int)} {f t n : Int} {k : ByteArray} {n' : Int} (hst : st = some (k, n')) (h : ¬ ((k1 b s).1 = k ∧ n = n')) : ¬ condP b s st f t n := by
  unfold condP
  rw [hst]
  rintro ⟨-, h2 | h2, -⟩
  · cases h2
  · have h3 := Prod.mk.inj (Option.some.inj h2)
    exact h ⟨h3.1.symm, h3.2.symm⟩
theorem part_go {b s e : ByteArray} {st : Option (ByteArray × Int)} {f t n : Int} {z : Nat} (hP : okP b s) (hc : crO (k2 b s).1 = some (f, t, n)) (hk : kindF (k1 b s).1 = true) (hst : st = none ∨ st = some ((k1 b s).1, n))
    (hz : szI f t = z) (he : e = eB b s) (h2 : z + 2 ≤ e.size) (hcr : pfxB crlB (e.extract z e.size) = true) (hh : holdF (e.extract 0 z) b = false) :
    partF b s st = some ((f, t, e.extract 0 z), ((k1 b s).1, n), e.extract (z + 2) e.size) := by
  have hcond : condP b s st f t n := by
    unfold condP
    rw [← he, hz]
    exact ⟨hk, hst, by omega, hcr, hh⟩
  have h3 := part_yes hP hc hcond
  rw [← he, hz, aft_ext h2] at h3
  exact h3
end
end Go.Proofs.YtlhnejcjeoecaaaGreatDoor
namespace Go.Proofs.YtlhnejcjeoecaaaGreatDoor
open Go.RowKit
/-- a slice that holds the bytes of a text, in a block from B on -/
def BytesV (w : World) (B : Nat) (v : Value) (s : ByteArray) : Prop := ∃ g cap, v = .slice (some ⟨g, 0, none⟩) s.size cap ∧ B ≤ g ∧ RowB w g 5 (s.data.toList.map fun b => Value.int .u8 b.toNat)
theorem BytesV.ext {w w' : World} {B : Nat} {v : Value} {s : ByteArray} (h : BytesV w B v s) (hx : Ext w w') : BytesV w' B v s := by
  obtain ⟨g, cap, e, hb, hr⟩ := h
  exact ⟨g, cap, e, hb, hr.ext hx⟩
theorem RowB.other' {w : World} {g : Nat} {e : TypeId} {xs : List Value} (h : RowB w g e xs) {b i : Nat} (hb : b ≠ g) (u : Value) : RowB (w.setCell ⟨b, i, none⟩ u) g e xs :=
  h.kept (Go.Deep.blk_setCell_other w ⟨b, i, none⟩ u g (fun e => hb (show b = g from e.symm)))
theorem BytesV.other {w : World} {B : Nat} {v : Value} {s : ByteArray} (h : BytesV w B v s) {b i : Nat} (hb : b < B) (u : Value) : BytesV (w.setCell ⟨b, i, none⟩ u) B v s := by
  obtain ⟨g, cap, e, hg, hr⟩ := h
  exact ⟨g, cap, e, hg, hr.other' (by omega) u⟩
/-- the program's parts: the rows, and behind each one its bytes -/
def PPt (w : World) (B : Nat) (v : Value) (ps : List (Int × Int × ByteArray)) : Prop := ∃ ds : List Value, ds.length = ps.length ∧ P3 55 w B v ((ps.zip ds).map fun q => (q.1.1, q.1.2.1, q.2)) ∧ ∀ (i : Nat) (d : Value) (p : Int × Int × ByteArray), ds[i]? = some d → ps[i]? = some p → BytesV w B d p.2.2
theorem PPt.nil (w : World) (B : Nat) : PPt w B (.slice none 0 0) [] := ⟨[], rfl, P3.nil _ _ _, fun i d p h _ => by simp at h⟩
theorem PPt.ext {w w' : World} {B : Nat} {v : Value} {ps : List (Int × Int × ByteArray)} (h : PPt w B v ps) (hx : Ext w w') : PPt w' B v ps := by
  obtain ⟨ds, h1, h2, h3⟩ := h
  exact ⟨ds, h1, h2.ext hx, fun i d p hd hp => (h3 i d p hd hp).ext hx⟩
theorem PPt.other {w : World} {B : Nat} {v : Value} {ps : List (Int × Int × ByteArray)} (h : PPt w B v ps) {b i : Nat} (hb : b < B) (u : Value) : PPt (w.setCell ⟨b, i, none⟩ u) B v ps := by
  obtain ⟨ds, h1, h2, h3⟩ := h
  exact ⟨ds, h1, h2.other hb u, fun i d p hd hp => (h3 i d p hd hp).other hb u⟩
theorem BytesV.conv {w : World} {B : Nat} {v : Value} {s : ByteArray} (h : BytesV w B v s) : (convert 22 9 v).run Tryz.prog w = .ok (.string s) w := by
  obtain ⟨g, cap, rfl, -, hr⟩ := h
  have hc := run_convert_bytes_back (P := Tryz.prog) w 22 9 5 ⟨g, 0, none⟩ cap s.data.toList Tryz.underlying22 Tryz.underlying5 Tryz.underlying9 (fun j hj => by
    rw [Addr.add_lit, Nat.zero_add]
    exact hr.cell (by rw [List.getElem?_map, List.getElem?_eq_getElem hj]; rfl))
  rw [← Lib.size_eq] at hc
  simpa using hc
/-- all blocks but one stay -/
def Keep (g : Nat) (w w' : World) : Prop := ∀ k, k ≠ g → k < w.heap.size → w'.heap[k]? = w.heap[k]?
theorem Keep.row {g : Nat} {w w' : World} (h : Keep g w w') {q : Nat} {e : TypeId} {xs : List Value} (hr : RowB w q e xs) (hq : q ≠ g) : RowB w' q e xs := hr.kept (h q hq hr.lt)
theorem keep_set (w : World) (g i : Nat) (u : Value) : Keep g w (w.setCell ⟨g, i, none⟩ u) := fun k hk _ => Go.Deep.blk_setCell_other w ⟨g, i, none⟩ u k (fun e => hk e)
theorem Keep.trans {g : Nat} {a b c : World} (h : Keep g a b) (k : Keep g b c) (hs : a.heap.size ≤ b.heap.size) : Keep g a c := fun j hj hl => (k j hj (Nat.lt_of_lt_of_le hl hs)).trans (h j hj hl)
theorem keep_ext {g : Nat} {a b : World} (h : Ext a b) : Keep g a b := fun k _ hl => Below.block h k hl
/-- what holds between two steps of the reader -/
structure RS (w0 w : World) (g B : Nat) (s : ByteArray) (bd : Bool) (v : Value) (ps : List (Int × Int × ByteArray)) : Prop where
  row : RowB w g 79 [.string s, .bool bd]
  pts : PPt w B v ps
  ext : Ext w0 w
  lo : w0.heap.size ≤ g
  hi : g < B
theorem RS.grow {w0 w w' : World} {g B : Nat} {s : ByteArray} {bd : Bool} {v : Value} {ps : List (Int × Int × ByteArray)} (h : RS w0 w g B s bd v ps) (hx : Ext w w') : RS w0 w' g B s bd v ps :=
  ⟨h.row.ext hx, h.pts.ext hx, h.ext.trans hx, h.lo, h.hi⟩
theorem RS.set {w0 w : World} {g B : Nat} {s : ByteArray} {bd : Bool} {v : Value} {ps : List (Int × Int × ByteArray)} (h : RS w0 w g B s bd v ps) (x : ByteArray) (y : Bool) : RS w0 ((w.setCell ⟨g, 0, none⟩ (.string x)).setCell ⟨g, 1, none⟩ (.bool y)) g B x y v ps :=
  ⟨(h.row.set 0 (.string x) (by simp)).set 1 (.bool y) (by simp), (h.pts.other h.hi _).other h.hi _, (h.ext.setCell h.lo _).setCell h.lo _, h.lo, h.hi⟩
theorem skip_rs {w0 w : World} {g B : Nat} {s : ByteArray} {bd : Bool} {v : Value} {ps : List (Int × Int × ByteArray)} (h : RS w0 w g B s bd v ps) (p : ByteArray) :
    Calls Tryz.prog 33 #[.pointer (some ⟨g, 0, none⟩), .string p] w fun e w' => e = .returned (.tuple #[]) ∧ ∃ x, x.size ≤ s.size ∧ (pfxB p s = true → x = aft p s) ∧ RS w0 w' g B x (bd || !pfxB p s) v ps ∧ Keep g w w' := by
  refine (skip_any h.row p).mono ?_
  rintro e w' ⟨rfl, x, h1, h2, rfl⟩
  exact ⟨rfl, x, h1, h2, h.set x _, (keep_set w g 0 _).trans (keep_set _ g 1 _) (by simp [World.setCell])⟩
theorem line_rs {w0 w : World} {g B : Nat} {s : ByteArray} {bd : Bool} {v : Value} {ps : List (Int × Int × ByteArray)} (h : RS w0 w g B s bd v ps) (hs : s.size ≤ 100000) (hM : MaxL w0) :
    Calls Tryz.prog 34 #[.pointer (some ⟨g, 0, none⟩)] w fun e w' => e = .returned (.string (cutB s).1) ∧ RS w0 w' g B (cutB s).2.1 (bd || !(cutB s).2.2) v ps ∧ Keep g w w' := by
  refine (line_any h.row hs (hM.ext h.ext)).mono ?_
  rintro e w' ⟨rfl, n, rfl⟩
  have hx : Ext w (w.drewN n) := (Ext.refl w).drewN n
  exact ⟨rfl, (h.grow hx).set _ _, ((keep_ext hx).trans (keep_set _ g 0 _) hx.size).trans (keep_set _ g 1 _) (by simp [World.setCell, World.drewN])⟩
end Go.Proofs.YtlhnejcjeoecaaaGreatDoor
namespace Go.Proofs.YtlhnejcjeoecaaaGreatDoor
open Go.RowKit
theorem P3.ne {T : TypeId} {w : World} {B g : Nat} {v : Value} {qs : List (Int × Int × Value)} {e : TypeId} {xs : List Value} (h : P3 T w B v qs) (hr : RowB w g e xs) (he : e ≠ T) : some g ≠ v.ownBlock := by
  rcases h.2 with ⟨rfl, _⟩ | ⟨g', cap, cur, rfl, _, hg, _⟩
  · simp [Value.ownBlock]
  · intro e'
    simp only [Value.ownBlock, Option.some.injEq] at e'
    obtain ⟨C, fr, rest, hc, _⟩ := hr
    rw [e', hg] at hc
    cases hc
    exact he rfl
theorem wpList_append_part (w : World) {ops : Array Oper} {rest : List Oper} {o : Oper} {a : Act} {Q : Exit → Act → World → Prop} (hg : o.guard = none) (s x : Operand)
    (ho : o.op = .call { callee := .builtin .append, args := #[s, x], argTypes := #[51, 51] })
    {w0 : World} {g B : Nat} {y : ByteArray} {bd : Bool} {v : Value} {ps : List (Int × Int × ByteArray)} (hRS : RS w0 w g B y bd v ps)
    (f t : Int) (d : ByteArray) {dv : Value} (hd : BytesV w B dv d) (hs : a.eval s = v)
    {G : Nat} (hx : a.eval x = .slice (some ⟨G, 0, none⟩) 1 1) (hG : G = w.heap.size) (hlen : ps.length ≤ 1000000000) (hB : B ≤ w.heap.size)
    (h : ∀ A w' c, ps.length + 1 ≤ c → RS w0 w' g B y bd (.slice A (ps.length + 1) c) (ps ++ [(f, t, d)]) → wpList Tryz.prog ops Q rest (a.put o.dst (.slice A (ps.length + 1) c)) w') :
    wpList Tryz.prog ops Q (o :: rest) a (w.alloc (.cells #[.int .i64 f, .int .i64 t, dv] 55)) := by
  subst hG
  obtain ⟨i0, hi0, hz0, hz1, hz2⟩ := info_parts part_info
  obtain ⟨ds, h1, h2, h3⟩ := hRS.pts
  have hzl : ((ps.zip ds).map fun q => (q.1.1, q.1.2.1, q.2)).length = ps.length := by simp [h1]
  have hX : Ext w (w.alloc (.cells #[.int .i64 f, .int .i64 t, dv] 55)) := (Ext.refl w).alloc _
  have hown := h2.ext hX
  have hone : dv.oneCell' = true := by
    obtain ⟨g', cap, rfl, -⟩ := hd
    rfl
  have hown' := hown
  unfold P3 at hown'
  rw [hzl] at hown'
  refine wpList_append_any (w.alloc (.cells #[.int .i64 f, .int .i64 t, dv] 55)) hg s x 51 ho B 55 i0 _ 3 40 Tryz.underlying51 hi0 hz0 hz1 hz2 rfl (by omega) v ps.length _ hs hown' (w.heap.size + 1) (some ⟨w.heap.size, 0, none⟩) 1 1 [.int .i64 f, .int .i64 t, dv] hx ?_ ?_ ?_ ?_ ?_ ?_
  · have hrow : RowB (w.alloc (.cells #[.int .i64 f, .int .i64 t, dv] 55)) w.heap.size 55 [.int .i64 f, .int .i64 t, dv] := row_laid w 55 [.int .i64 f, .int .i64 t, dv]
    have := reads_one3 hrow
    simpa using this
  · intro u hu
    simp at hu
    rcases hu with rfl | rfl | rfl
    · rfl
    · rfl
    · exact hone
  · simp only [maxLen]; omega
  · omega
  · simp; omega
  · intro v' w' hw hgr hat
    have hb2 : Below B w w' := by
      have hb1 : Below B w (w.alloc (.cells #[.int .i64 f, .int .i64 t, dv] 55)) := (Below.refl B w).alloc hB _
      exact hb1.grown hgr (Nat.le_trans hB hX.size) (own_base hown')
    have hP : P3 55 w' B v' (((ps ++ [(f, t, d)]).zip (ds ++ [dv])).map fun q => (q.1.1, q.1.2.1, q.2)) := by
      unfold P3
      rw [List.zip_append h1.symm, List.map_append, List.length_append, List.flatMap_append, hzl]
      exact hw
    have hbytes : ∀ {d' : Value} {z : ByteArray}, BytesV w B d' z → BytesV w' B d' z := by
      rintro d' z ⟨g', cap, rfl, hg', hr⟩
      have hr2 := hr.ext hX
      exact ⟨g', cap, rfl, hg', hr2.kept (hgr.block g' hr2.lt (hown.ne hr2 (by decide)))⟩
    have hPP : PPt w' B v' (ps ++ [(f, t, d)]) := by
      refine ⟨ds ++ [dv], by simp [h1], hP, fun i d' p hd' hp => ?_⟩
      by_cases hi : i < ps.length
      · rw [List.getElem?_append_left (by omega)] at hd' hp
        exact hbytes (h3 i d' p hd' hp)
      · rw [List.getElem?_append_right (by omega)] at hd' hp
        by_cases h0 : i = ps.length
        · subst h0
          rw [h1, Nat.sub_self] at hd'
          rw [Nat.sub_self] at hp
          simp at hd' hp
          subst hd'
          subst hp
          exact hbytes hd
        · rw [List.getElem?_eq_none (by simp; omega)] at hp
          cases hp
    obtain ⟨A, c, e, hc, -⟩ := hP.parts
    have hl : (((ps ++ [(f, t, d)]).zip (ds ++ [dv])).map fun q => (q.1.1, q.1.2.1, q.2)).length = ps.length + 1 := by simp [h1]
    rw [hl] at e hc
    subst e
    refine h A w' c hc ⟨?_, hPP, ?_, hRS.lo, hRS.hi⟩
    · exact hRS.row.below hb2 hRS.hi
    · exact Below.trans hRS.ext (hb2.mono (Nat.le_trans hRS.lo (Nat.le_of_lt hRS.hi)))
end Go.Proofs.YtlhnejcjeoecaaaGreatDoor
namespace Go.Proofs.YtlhnejcjeoecaaaGreatDoor
open Go.RowKit
theorem cut_crl {x y : List UInt8} (h : ∀ c ∈ x, c ≠ 13) : Lib.cut (x ++ ([13, 10] ++ y)) [13, 10] = (x, y, true) := by
  have hi : Lib.index (x ++ ([13, 10] ++ y)) [13, 10] = ((x.length : Nat) : Int) := index_gen ((occ_two _ _).2 ⟨by simp, by simp⟩) (by simp) (fun j hj => by
    rw [← Bool.not_eq_true, occ_two]
    rintro ⟨e1, -⟩
    rw [List.getElem?_append_left hj] at e1
    exact h _ (List.mem_of_getElem? e1) rfl)
  unfold Lib.cut
  rw [hi, if_pos (by omega)]
  simp
theorem ba_list (s : ByteArray) : (⟨s.data.toList.toArray⟩ : ByteArray) = s := by cases s; simp
theorem cutB_app {x y : ByteArray} (h : ∀ c ∈ x.data.toList, c ≠ 13) : cutB (x ++ (crlB ++ y)) = (x, y, true) := by
  unfold cutB
  rw [app_list, app_list, show crlB.data.toList = [13, 10] from rfl, cut_crl h, ba_list, ba_list]
theorem aft_pre (p x : ByteArray) : aft p (p ++ x) = x := bs_ext (by
  rw [ByteArray.toList_eq, ByteArray.toList_eq, aft_list, app_list]
  simp)
theorem pfxB_pre (p x : ByteArray) : pfxB p (p ++ x) = true := by
  unfold pfxB
  rw [app_list]
  exact List.isPrefixOf_iff_prefix.2 (List.prefix_append _ _)
def cr2 : ByteArray := ⟨#[13, 10, 67, 111, 110, 116, 101, 110, 116, 45, 82, 97, 110, 103, 101, 58, 32]⟩
def cr4 : ByteArray := ⟨#[13, 10, 13, 10]⟩
/-- a part's head, as both write it -/
def headS (b k c : ByteArray) : ByteArray := hdB b ++ k ++ cr2 ++ c ++ cr4
def partS (b k c d : ByteArray) : ByteArray := headS b k c ++ d ++ crlB
theorem part_app (b k c d r : ByteArray) : partS b k c d ++ r = hdB b ++ (k ++ (crlB ++ (crB ++ (c ++ (crlB ++ (crlB ++ (d ++ (crlB ++ r)))))))) := by
  have h2 : cr2.data.toList = crlB.data.toList ++ crB.data.toList := rfl
  have h4 : cr4.data.toList = crlB.data.toList ++ crlB.data.toList := rfl
  unfold partS headS
  refine bs_ext ?_
  rw [ByteArray.toList_eq, ByteArray.toList_eq]
  simp only [app_list, h2, h4, List.append_assoc]
theorem part_fin {b k c d r : ByteArray} : partS b k c d ++ r ≠ finB b := by
  intro e
  rw [part_app] at e
  have h := pfxB_size (p := hdB b) (s := finB b) (by rw [← e]; exact pfxB_pre _ _)
  unfold hdB finB at h
  rw [app_size, app_size, app_size, app_size] at h
  have h1 : (⟨#[13, 10, 67, 111, 110, 116, 101, 110, 116, 45, 84, 121, 112, 101, 58, 32]⟩ : ByteArray).size = 16 := rfl
  have h2 : (⟨#[45, 45, 13, 10]⟩ : ByteArray).size = 4 := rfl
  omega
theorem kind_noCR {k : ByteArray} (h : kindF k = true) : ∀ c ∈ k.data.toList, c ≠ 13 := by
  unfold kindF at h
  rw [Bool.and_eq_true] at h
  have h1 := h.1
  unfold cleanF at h1
  rw [decide_eq_true_iff] at h1
  intro c hc e
  obtain ⟨i, hi, hic⟩ := List.getElem_of_mem hc
  have hi' : i < k.size := by rw [Lib.size_eq]; exact hi
  have h2 := h1 i hi'
  have h3 := byt_list k i hi'
  rw [List.getElem?_eq_getElem hi, hic, e] at h3
  rw [byt_is hi', ← Option.some.inj h3] at h2
  exact absurd h2 (by decide)
theorem cr_noCR {f t n : Int} (h : okC f t n = true) : ∀ c ∈ (crS f t n).data.toList, c ≠ 13 := by
  obtain ⟨⟨h1, h2, h3⟩, h4, h5, -⟩ := okC_parts h
  rw [crS_list, show (bs (cpL ++ (Lib.itoa f ++ 45 :: (Lib.itoa (t - 1) ++ 47 :: Lib.itoa n)))).data.toList = cpL ++ (Lib.itoa f ++ 45 :: (Lib.itoa (t - 1) ++ 47 :: Lib.itoa n)) from by unfold bs; simp]
  intro c hc e
  subst e
  have hd : ∀ m : Int, 0 ≤ m → ¬ (13 : UInt8) ∈ Lib.itoa m := fun m hm hx => by
    have := (itoa_dig hm _ hx).1
    exact absurd this (by decide)
  simp only [cpL, List.mem_append, List.mem_cons, List.not_mem_nil] at hc
  rcases hc with hc | hc | hc | hc | hc | hc
  · rcases hc with hc | hc | hc | hc | hc | hc | hc <;> first | cases hc | (exact absurd hc (by decide))
  · exact hd f h1 hc
  · exact absurd hc (by decide)
  · exact hd (t - 1) (by omega) hc
  · exact absurd hc (by decide)
  · exact hd n (by omega) hc
theorem hold_part {s p : ByteArray} (h : holdF s p = false) (f t : Nat) : holdF (s.extract f t) p = false := by
  refine holdF_no fun j hj => ?_
  rw [← Bool.not_eq_true]
  intro hx
  unfold Lib.occAt at hx
  rw [show (s.extract f t).data.toList = (s.data.toList.drop f).take (t - f) by rw [← ByteArray.toList_eq, Lib.extract_toList]] at hx
  have h1 : p.data.toList <+: (s.data.toList.drop f).drop j := by
    have h2 := List.isPrefixOf_iff_prefix.1 hx
    rw [List.drop_take] at h2
    exact h2.trans (List.take_prefix _ _)
  rw [List.drop_drop] at h1
  by_cases hle : f + j ≤ s.size
  · have h3 := holdF_at (s := s) (p := p) (i := f + j) hle (by unfold Lib.occAt; exact List.isPrefixOf_iff_prefix.2 h1)
    rw [h] at h3
    cases h3
  · have hp : p.data.toList = [] := List.length_eq_zero_iff.1 (by
      rw [ByteArray.size_extract] at hj
      rw [← Lib.size_eq]
      omega)
    have h3 := holdF_at (s := s) (p := p) (i := 0) (Nat.zero_le _) (by unfold Lib.occAt; rw [hp]; rfl)
    rw [h] at h3
    cases h3
theorem ext_app (d r : ByteArray) : (d ++ r).extract 0 d.size = d ∧ (d ++ r).extract d.size (d ++ r).size = r := by
  constructor
  · refine bs_ext ?_
    rw [ext_list, ByteArray.toList_eq, ByteArray.toList_eq, app_list, Lib.size_eq]
    simp
  · exact aft_pre d r
/-- a part that was written is read -/
theorem part_read {b k d r : ByteArray} {f t n : Int} {st : Option (ByteArray × Int)} (hk : kindF k = true) (hc : okC f t n = true) (hst : st = none ∨ st = some (k, n)) (hd : szI f t = d.size) (hh : holdF d b = false) :
    partF b (partS b k (crS f t n) d ++ r) st = some ((f, t, d), (k, n), r) := by
  have e1 : k1 b (partS b k (crS f t n) d ++ r) = (k, crB ++ (crS f t n ++ (crlB ++ (crlB ++ (d ++ (crlB ++ r))))), true) := by
    unfold k1
    rw [part_app, aft_pre, cutB_app (kind_noCR hk)]
  have e2 : k2 b (partS b k (crS f t n) d ++ r) = (crS f t n, crlB ++ (d ++ (crlB ++ r)), true) := by
    unfold k2
    rw [e1]
    simp only
    rw [aft_pre, cutB_app (cr_noCR hc)]
  have e3 : eB b (partS b k (crS f t n) d ++ r) = d ++ (crlB ++ r) := by
    unfold eB
    rw [e2]
    exact aft_pre _ _
  obtain ⟨x1, x2⟩ := ext_app d (crlB ++ r)
  have hP : okP b (partS b k (crS f t n) d ++ r) := by
    refine ⟨by rw [part_app]; exact pfxB_pre _ _, by rw [e1], by rw [e1]; exact pfxB_pre _ _, by rw [e2], by rw [e2]; exact pfxB_pre _ _⟩
  have hcr : crO (k2 b (partS b k (crS f t n) d ++ r)).1 = some (f, t, n) := by rw [e2]; exact crO_yes hc rfl
  have hcond : condP b (partS b k (crS f t n) d ++ r) st f t n := by
    unfold condP
    rw [e1, e3, hd, x1, x2]
    refine ⟨hk, hst, ?_, pfxB_pre _ _, hh⟩
    rw [app_size]
    omega
  rw [part_yes hP hcr hcond, e1, e3, hd, x1, x2, aft_pre]
/-- what lies between -/
def cutO (body : ByteArray) (p : Int × Int) : ByteArray := body.extract p.1.toNat p.2.toNat
def preS (b k body : ByteArray) (n : Int) : List (Int × Int) → ByteArray
  | [] => ⟨#[]⟩
  | p :: l => partS b k (crS p.1 p.2 n) (cutO body p) ++ preS b k body n l
theorem app_assoc (a b c : ByteArray) : a ++ b ++ c = a ++ (b ++ c) := bs_ext (by
  rw [ByteArray.toList_eq, ByteArray.toList_eq]
  simp only [app_list, List.append_assoc])
theorem app_nil (a : ByteArray) : a ++ (⟨#[]⟩ : ByteArray) = a := bs_ext (by
  rw [ByteArray.toList_eq, ByteArray.toList_eq, app_list]
  simp)
theorem preS_snoc (b k body : ByteArray) (n : Int) (p : Int × Int) : ∀ l, preS b k body n (l ++ [p]) = preS b k body n l ++ partS b k (crS p.1 p.2 n) (cutO body p)
  | [] => by
    show partS b k (crS p.1 p.2 n) (cutO body p) ++ ⟨#[]⟩ = ⟨#[]⟩ ++ partS b k (crS p.1 p.2 n) (cutO body p)
    rw [app_nil, empty_app]
  | q :: l => by
    show partS b k (crS q.1 q.2 n) (cutO body q) ++ preS b k body n (l ++ [p]) = partS b k (crS q.1 q.2 n) (cutO body q) ++ preS b k body n l ++ partS b k (crS p.1 p.2 n) (cutO body p)
    rw [preS_snoc b k body n p l, app_assoc]
theorem rd_written {b k body : ByteArray} (hk : kindF k = true) (hh : holdF body b = false) : ∀ (l : List (Int × Int)) (st : Option (ByteArray × Int)), (∀ p ∈ l, okC p.1 p.2 body.size = true) → (st = none ∨ st = some (k, (body.size : Int))) → (l ≠ [] ∨ st = some (k, (body.size : Int))) →
    rdF b (preS b k body body.size l ++ finB b) st = some (l.map fun p => (p.1, p.2, cutO body p), (body.size : Int))
  | [], st, _, _, h => by
    have hs : st = some (k, (body.size : Int)) := by
      rcases h with h | h
      · exact absurd rfl h
      · exact h
    show rdF b (⟨#[]⟩ ++ finB b) st = _
    rw [empty_app, rd_fin rfl, hs]
    rfl
  | p :: l, st, hall, hst, _ => by
    obtain ⟨f, t⟩ := p
    have hc := hall (f, t) (by simp)
    obtain ⟨⟨h1, h2, h3⟩, h4, -, -⟩ := okC_parts hc
    simp only at h1 h2 h3 h4
    have hsz : szI f t = (cutO body (f, t)).size := by
      unfold szI cutO
      rw [ByteArray.size_extract]
      simp only
      omega
    show rdF b (partS b k (crS f t body.size) (cutO body (f, t)) ++ preS b k body body.size l ++ finB b) st = _
    rw [app_assoc, rd_step part_fin (part_read hk hc hst hsz (hold_part hh _ _)), rd_written hk hh l (some (k, (body.size : Int))) (fun q hq => hall q (by simp [hq])) (.inr rfl) (.inr rfl)]
    rfl
end Go.Proofs.YtlhnejcjeoecaaaGreatDoor
