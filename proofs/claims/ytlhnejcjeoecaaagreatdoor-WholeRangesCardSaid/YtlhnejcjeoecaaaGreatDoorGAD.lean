/- Chapter 20: ranges.Merge of a short list that is in order: the walk. Chapter 20: what Merge of an ordered list covers (plain lists). Chapter 20: Held and Cover. Chapter 20: Missing where nothing is missing: nil. WholeRanges, plain: bodies whose pieces are those of one text. WholeRanges: the fixed example. WholeRanges: the two bodies and what is there. WholeRanges: whole ranges: what is held covers them, and nothing of them is missing. -/
import Derived.Test.YtlhnejcjeoecaaaGreatDoorGAC
import Derived.Test.YtlhnejcjeoecaaaGreatDoorGAB
import Derived.Deep.RegionWith
import Derived.Lib.SlBytesConst
namespace Go.Proofs.YtlhnejcjeoecaaaGreatDoor.P20
open Go.RowKit Go.Deep Go.Sort

def mgS (out : List (Nat × Nat)) (r : Nat × Nat) : List (Nat × Nat) :=
  match out.getLast? with
  | none => [r]
  | some l => if r.1 ≤ l.2 then out.set (out.length - 1) (l.1, max l.2 r.2) else out ++ [r]
def mg (xs : List (Nat × Nat)) : List (Nat × Nat) := xs.foldl mgS []
theorem mg_take (xs : List (Nat × Nat)) (k : Nat) (r : Nat × Nat) (h : xs[k]? = some r) : mg (xs.take (k + 1)) = mgS (mg (xs.take k)) r := by
  unfold mg
  rw [List.take_add_one, h, List.foldl_append]
  rfl
theorem mgS_length (out : List (Nat × Nat)) (r : Nat × Nat) : (mgS out r).length ≤ out.length + 1 := by
  unfold mgS
  split
  · simp
  · split <;> simp
theorem mg_length (xs : List (Nat × Nat)) : (mg xs).length ≤ xs.length := by
  have : ∀ (ys out : List (Nat × Nat)), (ys.foldl mgS out).length ≤ out.length + ys.length := by
    intro ys
    induction ys with
    | nil => intro out; simp
    | cons y ys ih => intro out; have := ih (mgS out y); have := mgS_length out y; simp only [List.foldl_cons, List.length_cons]; omega
  have := this xs []
  simpa [mg] using this
theorem mgS_nil (r : Nat × Nat) : mgS [] r = [r] := rfl
theorem mgS_join {out : List (Nat × Nat)} {r l : Nat × Nat} {q : Nat} (hq : out.length = q + 1) (hl : out[q]? = some l) (h : r.1 ≤ l.2) : mgS out r = out.set q (l.1, max l.2 r.2) := by
  unfold mgS
  rw [List.getLast?_eq_getElem?, hq, show q + 1 - 1 = q by omega, hl]
  simp [h]
theorem mgS_add {out : List (Nat × Nat)} {r l : Nat × Nat} {q : Nat} (hq : out.length = q + 1) (hl : out[q]? = some l) (h : ¬ r.1 ≤ l.2) : mgS out r = out ++ [r] := by
  unfold mgS
  rw [List.getLast?_eq_getElem?, hq, show q + 1 - 1 = q by omega, hl]
  simp [h]
theorem rcs_set (out : List (Nat × Nat)) (q : Nat) (l : Nat × Nat) (u : Nat) (hl : out[q]? = some l) : (rcs out).set (q * 2 + 1) (.int .i64 (u : Nat)) = rcs (out.set q (l.1, u)) := by
  induction out generalizing q with
  | nil => simp at hl
  | cons x xs ih =>
    cases q with
    | zero =>
      obtain rfl : x = l := by simpa using hl
      rfl
    | succ q =>
      have := ih q (by simpa using hl)
      have e : rcs (x :: xs) = .int .i64 (x.1 : Nat) :: .int .i64 (x.2 : Nat) :: rcs xs := rfl
      have e2 : rcs ((x :: xs).set (q + 1) (l.1, u)) = .int .i64 (x.1 : Nat) :: .int .i64 (x.2 : Nat) :: rcs (xs.set q (l.1, u)) := rfl
      rw [e, e2, show (q + 1) * 2 + 1 = q * 2 + 1 + 1 + 1 by omega, List.set_cons_succ, List.set_cons_succ, this]
theorem own_kept {w w' : World} {B : Nat} {e : TypeId} {size n : Nat} {v : Value} {xs : List Value} (h : w.ownsRow B e size v n xs) (hx : Ext w w') : w'.ownsRow B e size v n xs := by
  refine ⟨h.1, ?_⟩
  rcases h.2 with e | ⟨g, cap, cur, rfl, hb, hh, r⟩
  · exact .inl e
  · exact .inr ⟨g, cap, cur, rfl, hb, (Below.block hx g (Array.getElem?_eq_some_iff.1 hh).1).trans hh, r⟩
set_option maxRecDepth 100000 in
set_option maxHeartbeats 4000000 in
theorem merge_ok {w : World} {g cap : Nat} {xs : List (Nat × Nat)} (h : RngAt w g xs) (hn : xs.length ≤ 12) (hn0 : 0 < xs.length) (hs : ∀ i, i + 1 < xs.length → ((xs[i]?).getD (0, 0)).1 ≤ ((xs[i + 1]?).getD (0, 0)).1)
    (hp : ∀ r ∈ xs, r.1 < r.2 ∧ r.2 ≤ 65536) :
    Calls Tryz.prog 28 #[.slice (some ⟨g, 0, none⟩) xs.length cap] w fun e w' => ∃ v, e = .returned v ∧ Ext w w' ∧ RngOwn w' w.heap.size v (mg xs) := by
  have HC := Lib.hid (clone_ok (cap := cap) h hn0 (by omega))
  have HL := Lib.hid (mg_length xs)
  obtain ⟨n, hxn⟩ : ∃ n, xs.length = n := ⟨_, rfl⟩
  have HN := Lib.hid hxn
  have HNS := Lib.hid hs
  rw [hxn] at hn hn0 HC ⊢
  clear hs h hxn
  go_enter Tryz.func28, Tryz.ntmps28
  go_upto_region 2 with (go_at_call 45; refine HC.out.mono ?_; rintro e w1 ⟨v1, rfl, hx1, ho1⟩)
  have hsh : ∃ g1 cap1, v1 = .slice (some ⟨g1, 0, none⟩) n cap1 ∧ n ≤ cap1 ∧ w.heap.size ≤ g1 ∧ g1 < w1.heap.size ∧ RngAt w1 g1 xs := by
    rcases ho1.shape with ⟨_, e⟩ | ⟨g1, cap1, e, h1, h2, h3, h4⟩
    · have := HN.out; rw [e] at this; simp at this; omega
    · exact ⟨g1, cap1, by rw [e, HN.out], by rw [← HN.out]; exact h1, h2, h3, h4⟩
  obtain ⟨g1, cap1, rfl, hc1, -, hg1, hr1⟩ := hsh
  have HS := Lib.hid (sort_ok hr1 (by rw [HN.out]; exact hn) (by rw [HN.out]; exact hc1) HNS.out)
  rw [HN.out] at HS
  clear ho1
  go_upto_region 4 with (go_at_call 46; refine HS.out.mono ?_; rintro e w2 ⟨rfl, hx2⟩)
  have HR := Lib.hid (hr1.ext hx2)
  have X2 := hx1.trans hx2
  clear hr1 hx1 hx2
  go_wp2_with fail
  go_loopw [4, 14] (fun v i wr => ∃ k : Nat, k ≤ n ∧ i = .int .i64 k ∧ RngOwn wr w2.heap.size v (mg (xs.take k)) ∧ Ext w2 wr ∧ (mg (xs.take k) = [] → v = .slice none 0 0)) (fun _ i _ => n - (intOf i).toNat)
  case atStart => exact ⟨0, by omega, rfl, World.ownsRow_nil _ _ _ _, Ext.refl _, fun _ => rfl⟩
  case round =>
    obtain ⟨k, hk, rfl, hown, hX, hni⟩ := hrel
    by_cases hlt : k < n
    · have hki : (k : Int) < (n : Int) := by omega
      obtain ⟨r, hr⟩ : ∃ r, xs[k]? = some r := ⟨_, List.getElem?_eq_getElem (by rw [HN.out]; exact hlt)⟩
      have hcell := HR.out.ext hX k (by rw [HN.out]; exact hlt)
      rw [hr, Option.getD_some] at hcell
      obtain ⟨c0, c1⟩ := hcell
      have hrp := hp r (List.mem_of_getElem? hr)
      have HM := Lib.hid (mg_take xs k r hr)
      have hr1 : (r.1 : Int) < (r.2 : Int) := by omega
      have hr2 : (r.2 : Int) ≤ 65536 := by omega
      have hk6 : (k : Int) < 13 := by omega
      have hkc : k < cap1 := by omega
      obtain ⟨f, hf⟩ : ∃ f, f = r.1 := ⟨_, rfl⟩
      obtain ⟨t, ht⟩ : ∃ t, t = r.2 := ⟨_, rfl⟩
      have HRE := Lib.hid (show r = (f, t) by rw [hf, ht])
      rw [← hf] at c0 hr1
      rw [← ht] at c1 hr1 hr2
      have hlen := Lib.hid (Nat.le_trans (mg_length (xs.take k)) (by rw [List.length_take]; omega : (xs.take k).length ≤ 12))
      have hsz := hX.size
      clear hr hrp hf ht
      rcases hown.shape with ⟨rfl, ho⟩ | ⟨go, co, rfl, ho1, ho2, ho3, ho4⟩
      · clear hni
        rw [ho] at hown HM
        have HO := Lib.hid hown
        clear ho hown
        have hmg := Lib.hid (show mg (xs.take (k + 1)) = [(f, t)] by rw [HM.out, mgS_nil, HRE.out])
        go_upto_region 9 with fail
        refine wp_region_quiet_lit (by kernel_rfl) (by kernel_rfl) ?_
        repeat (go_big_quiet_step (fail))
        refine wpQuiet_nil ?_
        rintro _ ⟨nq, rfl⟩
        have hsz2 : w2.heap.size ≤ ((wr.alloc (.cells #[.int .i64 f, .int .i64 t] 27)).drewN nq).heap.size := Nat.le_trans hsz (((Ext.refl wr).alloc _).drewN nq).size
        go_wp2_with (at_builtin; (refine wpList_append_rng ((wr.alloc (.cells #[.int .i64 f, .int .i64 t] 27)).drewN nq) rfl (.tmp 52) (.tmp 54) rfl w2.heap.size f t _ _ (HO.out.ext (((Ext.refl wr).alloc _).drewN nq)) rfl rfl rfl rfl (by simp [World.drewN]) (by simp) hsz2 ?_))
        intro v' w3 hown' hb
        rw [← hmg.out] at hown'
        go_wp2_with fail
        go_roundw
        case rel => exact ⟨k + 1, by omega, by go_num, hown', Below.trans ((hX.alloc _).drewN nq) hb, fun e => by rw [hmg.out] at e; simp at e⟩
        case measure => simp [intOf]; omega
      · obtain ⟨q, hq⟩ : ∃ q, (mg (xs.take k)).length = q := ⟨_, rfl⟩
        rcases Nat.eq_zero_or_pos q with hq0 | hq0
        · exfalso
          have := hni (List.eq_nil_of_length_eq_zero (hq.trans hq0))
          cases this
        · clear hni
          obtain ⟨q, rfl⟩ : ∃ p, q = p + 1 := ⟨q - 1, by omega⟩
          obtain ⟨l, hl⟩ : ∃ l, (mg (xs.take k))[q]? = some l := ⟨_, List.getElem?_eq_getElem (by omega)⟩
          have hcl := ho4 q (by omega)
          rw [hl, Option.getD_some] at hcl
          rw [hq] at ho1 ⊢
          have hq6 : (q : Int) < 13 := by have := hlen.out; omega
          have hqc : q < co := by omega
          obtain ⟨u, hu⟩ : ∃ u, u = l.2 := ⟨_, rfl⟩
          have HU := Lib.hid hu
          have HL2 := Lib.hid hl
          have HQ := Lib.hid hq
          rw [← hu] at hcl
          have hown' : wr.ownsRow w2.heap.size 27 2 (.slice (some ⟨go, 0, none⟩) (q + 1) co) (q + 1) (rcs (mg (xs.take k))) := by have := hown; unfold RngOwn at this; rwa [hq] at this
          have HO := Lib.hid hown'
          have d1 : ∀ o nq, ((wr.alloc o).drewN nq).cell? ⟨go, q * 2 + 1, none⟩ = some (.int .i64 (u : Nat)) := fun o nq => (((Ext.refl wr).alloc o).drewN nq).cell hcl.2
          have d2 : ∀ o, (wr.alloc o).cell? ⟨go, q * 2 + 1, none⟩ = some (.int .i64 (u : Nat)) := fun o => ((Ext.refl wr).alloc o).cell hcl.2
          have d3 : ∀ o nq, ((wr.alloc o).drewN nq).drew.cell? ⟨go, q * 2 + 1, none⟩ = some (.int .i64 (u : Nat)) := fun o nq => ((((Ext.refl wr).alloc o).drewN nq).drew).cell hcl.2
          have qg : decide ((0 : Int) < (q : Int) + 1) = true := by rw [decide_eq_true_iff]; omega
          have HC2 := Lib.hid hcl.2
          clear hcl hown hown' hl hq ho4 hu
          by_cases hfu : f ≤ u
          · have qf : decide (f ≤ u) = true := decide_eq_true hfu
            have HFU := Lib.hid hfu
            clear hfu
            go_upto_region 9 with fail
            refine wp_region_quiet_lit (by kernel_rfl) (by kernel_rfl) ?_
            repeat (go_big_quiet_step (fail))
            refine wpQuiet_nil ?_
            rintro _ ⟨nq, rfl⟩
            have hmg := Lib.hid (show mg (xs.take (k + 1)) = (mg (xs.take k)).set q (l.1, max u t) by rw [HM.out, HRE.out, HU.out]; exact mgS_join HQ.out HL2.out (by rw [← HU.out]; exact HFU.out))
            have hfz : ∀ o nq, ((wr.alloc o).drewN nq).drew.frozen? ⟨go, q * 2 + 1, none⟩ = false := fun o nq => by
              rw [Ext.frozen ((((Ext.refl wr).alloc o).drewN nq).drew) (HC2.out)]
              exact HO.out.frozenAt _
            have hfz2 : ∀ o, (wr.alloc o).frozen? ⟨go, q * 2 + 1, none⟩ = false := fun o => by
              rw [Ext.frozen ((Ext.refl wr).alloc o) (HC2.out)]
              exact HO.out.frozenAt _
            have hfz3 : ∀ o nq, ((wr.alloc o).drewN nq).frozen? ⟨go, q * 2 + 1, none⟩ = false := fun o nq => by
              rw [Ext.frozen (((Ext.refl wr).alloc o).drewN nq) (HC2.out)]
              exact HO.out.frozenAt _
            have hmx : max (u : Int) (t : Int) = ((max u t : Nat) : Int) := by omega
            have d4 : ∀ o nq, ((wr.alloc o).drewN nq).drew.cell? ⟨wr.heap.size, 1, none⟩ = (wr.alloc o).cell? ⟨wr.heap.size, 1, none⟩ := fun o nq => rfl
            go_upto_region 10 with fail
            have g1' : (q : Int) + 1 - 1 = (q : Int) := by omega
            have g2' : IntKind.i64.wrap (q : Int) = (q : Int) := IntWalk.i64_in (q : Int) (by omega)
            have g3' : q < q + 1 := by omega
            go_region_with (fail_if_success skip; skip)
            all_goals go_wp2_with fail
            all_goals refine ⟨⟨k + 1, by omega, by go_num, ?_, ((hX.alloc _).drewN _).setCell ho2 _, fun e => ?_⟩, by simp [intOf]; omega⟩
            all_goals first
              | (exfalso; have := congrArg List.length e; rw [hmg.out, List.length_set, HQ.out] at this; simp at this)
              | (unfold RngOwn; rw [hmg.out, List.length_set, HQ.out, ← rcs_set _ q l _ HL2.out]; exact ((own_kept HO.out (((Ext.refl wr).alloc _).drewN _)).stored _ _).1)
          · have qf : decide (f ≤ u) = false := decide_eq_false hfu
            have hmg := Lib.hid (show mg (xs.take (k + 1)) = mg (xs.take k) ++ [(f, t)] by rw [HM.out, HRE.out]; exact mgS_add HQ.out HL2.out (by rw [← HU.out]; exact hfu))
            clear hfu
            go_upto_region 9 with fail
            refine wp_region_quiet_lit (by kernel_rfl) (by kernel_rfl) ?_
            repeat (go_big_quiet_step (fail))
            refine wpQuiet_nil ?_
            rintro _ ⟨nq, rfl⟩
            have hsz2 : w2.heap.size ≤ ((wr.alloc (.cells #[.int .i64 f, .int .i64 t] 27)).drewN nq).heap.size := Nat.le_trans hsz (((Ext.refl wr).alloc _).drewN nq).size
            have hownR : RngOwn wr w2.heap.size (.slice (some ⟨go, 0, none⟩) (q + 1) co) (mg (xs.take k)) := by unfold RngOwn; rw [HQ.out]; exact HO.out
            have HOR := Lib.hid hownR
            clear hownR
            go_wp2_with (at_builtin; (refine wpList_append_rng ((wr.alloc (.cells #[.int .i64 f, .int .i64 t] 27)).drewN nq) rfl (.tmp 52) (.tmp 54) rfl w2.heap.size f t _ _ (HOR.out.ext (((Ext.refl wr).alloc _).drewN nq)) rfl rfl rfl rfl (by simp [World.drewN]) (by have := hlen.out; omega) hsz2 ?_))
            intro v' w3 hown' hb
            rw [← hmg.out] at hown'
            go_wp2_with fail
            go_roundw
            case rel => exact ⟨k + 1, by omega, by go_num, hown', Below.trans ((hX.alloc _).drewN nq) hb, fun e => by rw [hmg.out] at e; simp at e⟩
            case measure => simp [intOf]; omega
    · obtain rfl : k = n := by omega
      rw [← HN.out, List.take_length] at hown
      have HO := Lib.hid hown
      have hB := Lib.hid X2.size
      clear hown hni
      go_wp2_with fail
      go_ret
      exact ⟨_, rfl, X2.trans hX, own_more HO.out hB.out⟩
end Go.Proofs.YtlhnejcjeoecaaaGreatDoor.P20
namespace Go.Proofs.YtlhnejcjeoecaaaGreatDoor.P20

/-- an offset is in a list -/
def cov (l : List (Nat × Nat)) (o : Nat) : Prop := ∃ r ∈ l, r.1 ≤ o ∧ o < r.2
def Sep (l : List (Nat × Nat)) : Prop := l.Pairwise fun x y => x.2 < y.1
def Okr (l : List (Nat × Nat)) : Prop := ∀ r ∈ l, r.1 < r.2 ∧ r.2 ≤ 65536
theorem mgS_concat (o : List (Nat × Nat)) (l r : Nat × Nat) : mgS (o ++ [l]) r = if r.1 ≤ l.2 then o ++ [(l.1, max l.2 r.2)] else o ++ [l] ++ [r] := by
  by_cases h : r.1 ≤ l.2
  · rw [if_pos h, mgS_join (q := o.length) (by simp) (l := l) (by simp) h]
    rw [List.set_append_right _ _ (Nat.le_refl _)]
    simp
  · rw [if_neg h, mgS_add (q := o.length) (by simp) (l := l) (by simp) h]
theorem cov_append (a b : List (Nat × Nat)) (o : Nat) : cov (a ++ b) o ↔ cov a o ∨ cov b o := by
  unfold cov
  constructor
  · rintro ⟨r, hr, h⟩
    rcases List.mem_append.1 hr with h1 | h1
    · exact .inl ⟨r, h1, h⟩
    · exact .inr ⟨r, h1, h⟩
  · rintro (⟨r, hr, h⟩ | ⟨r, hr, h⟩)
    · exact ⟨r, List.mem_append_left _ hr, h⟩
    · exact ⟨r, List.mem_append_right _ hr, h⟩
theorem cov_one (r : Nat × Nat) (o : Nat) : cov [r] o ↔ r.1 ≤ o ∧ o < r.2 := by
  unfold cov
  constructor
  · rintro ⟨x, hx, h⟩
    rw [List.mem_singleton] at hx
    rw [← hx]; exact h
  · intro h
    exact ⟨r, List.mem_singleton.2 rfl, h⟩
theorem cov_nil (o : Nat) : ¬ cov [] o := by
  rintro ⟨r, hr, _⟩
  cases hr
theorem mgS_facts (out : List (Nat × Nat)) (r : Nat × Nat) (hs : Sep out) (ho : Okr out) (hr : r.1 < r.2 ∧ r.2 ≤ 65536) (hle : ∀ x ∈ out, x.1 ≤ r.1) :
    Sep (mgS out r) ∧ Okr (mgS out r) ∧ (∀ o, cov (mgS out r) o ↔ cov out o ∨ cov [r] o) ∧ ∀ y : Nat, r.1 ≤ y → ∀ x ∈ mgS out r, x.1 ≤ y := by
  rcases List.eq_nil_or_concat out with rfl | ⟨o', l, rfl⟩
  · refine ⟨List.pairwise_singleton _ _, fun x hx => ?_, fun o => ?_, fun y hy x hx => ?_⟩
    · rw [mgS_nil, List.mem_singleton] at hx; rw [hx]; exact hr
    · rw [mgS_nil]
      exact ⟨.inr, fun h => h.elim (fun h => absurd h (cov_nil o)) id⟩
    · rw [mgS_nil, List.mem_singleton] at hx; rw [hx]; exact hy
  · rw [List.concat_eq_append] at hs ho hle ⊢
    have hl := ho l (by simp)
    have hlr := hle l (by simp)
    have hs' : Sep o' ∧ ∀ x ∈ o', x.2 < l.1 := by
      have := List.pairwise_append.1 hs
      exact ⟨this.1, fun x hx => this.2.2 x hx l (by simp)⟩
    rw [mgS_concat]
    by_cases h : r.1 ≤ l.2
    · rw [if_pos h]
      refine ⟨?_, ?_, fun o => ?_, fun y hy x hx => ?_⟩
      · refine List.pairwise_append.2 ⟨hs'.1, List.pairwise_singleton _ _, fun x hx y hy => ?_⟩
        rw [List.mem_singleton] at hy
        rw [hy]; exact hs'.2 x hx
      · intro x hx
        rcases List.mem_append.1 hx with h1 | h1
        · exact ho x (List.mem_append_left _ h1)
        · rw [List.mem_singleton] at h1
          rw [h1]
          show l.1 < max l.2 r.2 ∧ max l.2 r.2 ≤ 65536
          omega
      · rw [cov_append, cov_append, cov_one, cov_one, cov_one]
        show cov o' o ∨ (l.1 ≤ o ∧ o < max l.2 r.2) ↔ _
        constructor
        · rintro (h1 | h1)
          · exact .inl (.inl h1)
          · by_cases h2 : o < l.2
            · exact .inl (.inr ⟨h1.1, h2⟩)
            · exact .inr (by omega)
        · rintro ((h1 | h1) | h1)
          · exact .inl h1
          · exact .inr (by omega)
          · exact .inr (by omega)
      · rcases List.mem_append.1 hx with h1 | h1
        · have := hle x (List.mem_append_left _ h1); omega
        · rw [List.mem_singleton] at h1
          rw [h1]
          show l.1 ≤ y
          omega
    · rw [if_neg h]
      refine ⟨?_, ?_, fun o => cov_append _ _ _, fun y hy x hx => ?_⟩
      · refine List.pairwise_append.2 ⟨hs, List.pairwise_singleton _ _, fun x hx y hy => ?_⟩
        rw [List.mem_singleton] at hy
        rw [hy]
        rcases List.mem_append.1 hx with h1 | h1
        · have := hs'.2 x h1; omega
        · rw [List.mem_singleton] at h1; rw [h1]; omega
      · intro x hx
        rcases List.mem_append.1 hx with h1 | h1
        · exact ho x h1
        · rw [List.mem_singleton] at h1; rw [h1]; exact hr
      · rcases List.mem_append.1 hx with h1 | h1
        · have := hle x h1; omega
        · rw [List.mem_singleton] at h1; rw [h1]; exact hy
theorem fold_facts : ∀ (ys out : List (Nat × Nat)), Sep out → Okr out → Okr ys → (∀ x ∈ out, ∀ y ∈ ys, x.1 ≤ y.1) → (ys.Pairwise fun x y => x.1 ≤ y.1) →
    Sep (ys.foldl mgS out) ∧ Okr (ys.foldl mgS out) ∧ ∀ o, cov (ys.foldl mgS out) o ↔ cov out o ∨ cov ys o
  | [], out, hs, ho, _, _, _ => ⟨hs, ho, fun o => ⟨.inl, fun h => h.elim id fun h => absurd h (cov_nil o)⟩⟩
  | y :: ys, out, hs, ho, hy, hle, hp => by
    obtain ⟨f1, f2, f3, f4⟩ := mgS_facts out y hs ho (hy y (by simp)) (fun x hx => hle x hx y (by simp))
    have hp' := List.pairwise_cons.1 hp
    obtain ⟨g1, g2, g3⟩ := fold_facts ys (mgS out y) f1 f2 (fun r hr => hy r (by simp [hr])) (fun x hx z hz => f4 z.1 (hp'.1 z hz) x hx) hp'.2
    refine ⟨g1, g2, fun o => ?_⟩
    rw [List.foldl_cons, g3, f3, or_assoc, ← cov_append]
    rfl
theorem mg_facts (xs : List (Nat × Nat)) (hx : Okr xs) (hp : xs.Pairwise fun x y => x.1 ≤ y.1) : Sep (mg xs) ∧ Okr (mg xs) ∧ ∀ o, cov (mg xs) o ↔ cov xs o := by
  obtain ⟨h1, h2, h3⟩ := fold_facts xs [] List.Pairwise.nil (fun r hr => by cases hr) hx (fun x hx => by cases hx) hp
  exact ⟨h1, h2, fun o => (h3 o).trans ⟨fun h => h.elim (fun h => absurd h (cov_nil o)) id, .inr⟩⟩
theorem sep_le {l : List (Nat × Nat)} (hs : Sep l) (ho : Okr l) : l.Pairwise fun x y => x.1 ≤ y.1 := by
  refine List.Pairwise.imp_of_mem ?_ hs
  intro a b ha hb h
  have := ho a ha
  omega
theorem sep_pair {l : List (Nat × Nat)} (hs : Sep l) : ∀ x ∈ l, ∀ y ∈ l, x = y ∨ x.2 < y.1 ∨ y.2 < x.1 := by
  induction l with
  | nil => intro x hx; cases hx
  | cons a l ih =>
    obtain ⟨h1, h2⟩ := List.pairwise_cons.1 hs
    intro x hx y hy
    rcases List.mem_cons.1 hx with rfl | hx'
    · rcases List.mem_cons.1 hy with rfl | hy'
      · exact .inl rfl
      · exact .inr (.inl (h1 y hy'))
    · rcases List.mem_cons.1 hy with rfl | hy'
      · exact .inr (.inr (h1 x hx'))
      · exact ih h2 x hx' y hy'
theorem sep_cover {l : List (Nat × Nat)} (hs : Sep l) {f t : Nat} (hft : f < t) : (∃ x ∈ l, x.1 ≤ f ∧ t ≤ x.2) ↔ ∀ o, f ≤ o → o < t → cov l o := by
  constructor
  · rintro ⟨x, hx, h1, h2⟩ o ho1 ho2
    exact ⟨x, hx, by omega, by omega⟩
  · intro h
    obtain ⟨x, hx, h1, h2⟩ := h f (Nat.le_refl _) hft
    refine ⟨x, hx, h1, Nat.le_of_not_lt fun h3 => ?_⟩
    obtain ⟨y, hy, h4, h5⟩ := h x.2 (by omega) h3
    rcases sep_pair hs x hx y hy with rfl | h6 | h6 <;> omega
theorem pw_at {l : List (Nat × Nat)} (h : l.Pairwise fun x y => x.1 ≤ y.1) (i : Nat) (hi : i + 1 < l.length) : ((l[i]?).getD (0, 0)).1 ≤ ((l[i + 1]?).getD (0, 0)).1 := by
  rw [List.getElem?_eq_getElem (by omega), List.getElem?_eq_getElem hi]
  exact List.pairwise_iff_getElem.1 h i (i + 1) (by omega) hi (by omega)
/-- the ranges of the pieces that are there -/
def hlK (len : Nat) (D : Nat → Option ByteArray) : Nat → List (Nat × Nat)
  | 0 => []
  | k + 1 => hlK len D k ++ if (D k).isSome then [(k * 256, pto k len)] else []
theorem hlK_mem {len : Nat} {D : Nat → Option ByteArray} {k : Nat} {r : Nat × Nat} (h : r ∈ hlK len D k) : ∃ i, i < k ∧ (D i).isSome = true ∧ r = (i * 256, pto i len) := by
  induction k with
  | zero => cases h
  | succ k ih =>
    rcases List.mem_append.1 h with h1 | h1
    · obtain ⟨i, hi, h2⟩ := ih h1
      exact ⟨i, by omega, h2⟩
    · split at h1
      · rename_i hk
        exact ⟨k, by omega, hk, List.mem_singleton.1 h1⟩
      · cases h1
theorem hlK_in {len : Nat} {D : Nat → Option ByteArray} {k i : Nat} (hi : i < k) (h : (D i).isSome = true) : (i * 256, pto i len) ∈ hlK len D k := by
  induction k with
  | zero => omega
  | succ k ih =>
    by_cases e : i = k
    · subst e
      refine List.mem_append_right _ ?_
      rw [if_pos h]
      simp
    · exact List.mem_append_left _ (ih (by omega))
theorem hlK_length (len : Nat) (D : Nat → Option ByteArray) (k : Nat) : (hlK len D k).length ≤ k := by
  induction k with
  | zero => simp [hlK]
  | succ k ih => unfold hlK; rw [List.length_append]; split <;> simp <;> omega
theorem hlK_pw (len : Nat) (D : Nat → Option ByteArray) (k : Nat) : (hlK len D k).Pairwise fun x y => x.1 ≤ y.1 := by
  induction k with
  | zero => exact List.Pairwise.nil
  | succ k ih =>
    refine List.pairwise_append.2 ⟨ih, ?_, fun x hx y hy => ?_⟩
    · split <;> simp
    · obtain ⟨i, hi, -, rfl⟩ := hlK_mem hx
      split at hy
      · rw [List.mem_singleton] at hy
        rw [hy]
        show i * 256 ≤ k * 256
        omega
      · cases hy
theorem hlK_ok {len : Nat} (D : Nat → Option ByteArray) (hl : len ≤ 65536) : Okr (hlK len D (npc len)) := by
  intro r hr
  obtain ⟨i, hi, -, rfl⟩ := hlK_mem hr
  unfold npc at hi
  show i * 256 < pto i len ∧ pto i len ≤ 65536
  unfold pto
  omega
theorem hlK_cov {len : Nat} (D : Nat → Option ByteArray) (o : Nat) (ho : o < len) : cov (hlK len D (npc len)) o ↔ (D (o / 256)).isSome = true := by
  constructor
  · rintro ⟨r, hr, h1, h2⟩
    obtain ⟨i, hi, h3, rfl⟩ := hlK_mem hr
    have h1' : i * 256 ≤ o := h1
    have h2' : o < pto i len := h2
    unfold pto at h2'
    rwa [show o / 256 = i by omega]
  · intro h
    refine ⟨_, hlK_in (by unfold npc; omega) h, ?_, ?_⟩
    · show o / 256 * 256 ≤ o
      omega
    · show o < pto (o / 256) len
      unfold pto
      omega
/-- covered, and nothing missing: the same -/
theorem cover_gaps {len : Nat} (D : Nat → Option ByteArray) (hl : len ≤ 65536) {f t : Nat} (ht : t ≤ len) (hft : f < t) :
    (∃ x ∈ mg (mg (hlK len D (npc len))), x.1 ≤ f ∧ t ≤ x.2) ↔ gaps D (pcs f t) = [] := by
  obtain ⟨a1, a2, a3⟩ := mg_facts _ (hlK_ok D hl) (hlK_pw len D _)
  obtain ⟨b1, b2, b3⟩ := mg_facts _ a2 (sep_le a1 a2)
  rw [sep_cover b1 hft]
  unfold gaps
  rw [List.filter_eq_nil_iff]
  constructor
  · intro h i hi
    unfold pcs at hi
    rw [if_pos hft, List.mem_range'_1] at hi
    have h1 := (hlK_cov D (max f (i * 256)) (by omega)).1 ((a3 _).1 ((b3 _).1 (h (max f (i * 256)) (by omega) (by omega))))
    rw [show max f (i * 256) / 256 = i by omega] at h1
    rw [h1]
    simp
  · intro h o h1 h2
    rw [b3, a3, hlK_cov D o (by omega)]
    have := h _ (pcs_in h1 h2)
    cases hd : (D (o / 256)).isSome with
    | true => rfl
    | false => rw [hd] at this; simp at this
end Go.Proofs.YtlhnejcjeoecaaaGreatDoor.P20
namespace Go.Proofs.YtlhnejcjeoecaaaGreatDoor.P20
open Go.RowKit Go.Deep Go.Sort

/-- Merge of a list that a call has made, in order, whatever its length -/
theorem merge_own {w : World} {B : Nat} {v : Value} {xs : List (Nat × Nat)} (h : RngOwn w B v xs) (hnil : xs = [] → v = .slice none 0 0) (hn : xs.length ≤ 12) (ho : Okr xs) (hp : xs.Pairwise fun x y => x.1 ≤ y.1) :
    Calls Tryz.prog 28 #[v] w fun e w' => ∃ v', e = .returned v' ∧ Ext w w' ∧ RngOwn w' w.heap.size v' (mg xs) ∧ (mg xs = [] → v' = .slice none 0 0) := by
  rcases Nat.eq_zero_or_pos xs.length with h0 | h0
  · have e := List.eq_nil_of_length_eq_zero h0
    rw [hnil e, e]
    refine (merge_nil w).mono ?_
    rintro e w' ⟨rfl, hx⟩
    exact ⟨_, rfl, hx, World.ownsRow_nil _ _ _ _, fun _ => rfl⟩
  · rcases h.shape with ⟨rfl, e⟩ | ⟨g, cap, rfl, h1, h2, h3, h4⟩
    · rw [e] at h0; simp at h0
    · refine (merge_ok h4 hn h0 (fun i hi => pw_at hp i hi) ho).mono ?_
      rintro e w' ⟨v', rfl, hx, ho'⟩
      refine ⟨v', rfl, hx, ho', fun e => ?_⟩
      exfalso
      obtain ⟨r, hr⟩ := List.exists_mem_of_ne_nil xs (fun e => by rw [e] at h0; simp at h0)
      have hrr := ho r hr
      have := ((mg_facts xs ho hp).2.2 r.1).2 ⟨r, hr, Nat.le_refl _, hrr.1⟩
      rw [e] at this
      exact cov_nil _ this
set_option maxRecDepth 100000 in
theorem held_rng {w : World} {B b l len : Nat} {A : Nat → Prop} {tag : ByteArray} {D : Nat → Option ByteArray} (h : BodyAt w B A b l tag len D) (hok : PcOk len D) (hl : len ≤ 3072) :
    Calls Tryz.prog 16 #[.pointer (some ⟨b, 0, none⟩)] w fun e w' => ∃ v, e = .returned v ∧ Ext w w' ∧ RngOwn w' w.heap.size v (mg (hlK len D (npc len))) ∧ (mg (hlK len D (npc len)) = [] → v = .slice none 0 0) := by
  have hn : npc len ≤ 12 := by unfold npc; omega
  have c2 := h.c2
  obtain ⟨f, hf, hp⟩ := h.row
  have HLN := Lib.hid (hlK_length len D (npc len))
  go_enter Tryz.func16, Tryz.ntmps16
  go_wp2_with fail
  go_loopw [3, 13] (fun v i wr => ∃ k : Nat, k ≤ npc len ∧ i = .int .i64 k ∧ RngOwn wr w.heap.size v (hlK len D k) ∧ (hlK len D k = [] → v = .slice none 0 0) ∧ Ext w wr) (fun _ i _ => npc len - (intOf i).toNat)
  case atStart => exact ⟨0, by omega, rfl, World.ownsRow_nil _ _ _ _, fun _ => rfl, Ext.refl w⟩
  case round =>
    obtain ⟨k, hk, rfl, hown, hnil, hX⟩ := hrel
    by_cases hlt : k < npc len
    · have hki : (k : Int) < (npc len : Int) := by omega
      have hk6 : (k : Int) < 12 := by omega
      have hc := hX.cell (hf.cell hlt)
      have hpk := hp k hlt
      have hsz := hX.size
      cases hD : D k with
      | none =>
        rw [hD] at hpk
        rw [show f k = .slice none 0 0 from hpk] at hc
        have hst := Lib.hid (show hlK len D (k + 1) = hlK len D k by show hlK len D k ++ _ = _; rw [if_neg (by rw [hD]; simp), List.append_nil])
        have HO := Lib.hid hown
        have HNI := Lib.hid hnil
        clear hp hpk hown hD hnil
        go_wp2_with fail
        go_roundw
        case rel => exact ⟨k + 1, by omega, by go_num, by rw [hst.out]; exact HO.out, by rw [hst.out]; exact HNI.out, hX⟩
        case measure => simp [intOf]; omega
      | some s =>
        rw [hD] at hpk
        obtain ⟨g, cap, e1, -⟩ := hpk
        rw [e1] at hc
        have hz := hok k hlt s hD
        have hst := Lib.hid (show hlK len D (k + 1) = hlK len D k ++ [(k * 256, pto k len)] by show hlK len D k ++ _ = _; rw [if_pos (by rw [hD]; rfl)])
        have hlen := Lib.hid (hlK_length len D k)
        have ez : (k : Int) * 256 + (s.size : Int) = ((pto k len : Nat) : Int) := by
          unfold npc at hlt
          rw [hz]; unfold pto; omega
        have hpt : ((pto k len : Nat) : Int) ≤ 4096 := by unfold pto; omega
        have hs6 : (s.size : Int) ≤ 4096 := by omega
        have HO := Lib.hid hown
        clear hp e1 hown hD hnil hz
        go_wp2_with (at_builtin; refine wpList_append_rng wr rfl (.tmp 20) (.tmp 29) rfl w.heap.size (k * 256) (pto k len) _ _ HO.out (by simp) (by first | rfl | exact ez) rfl rfl rfl (by have := hlen.out; omega) hsz ?_)
        intro v' w1 hown' hb
        rw [← hst.out] at hown'
        go_wp2_with fail
        go_roundw
        case rel => exact ⟨k + 1, by omega, by go_num, hown', fun e => by rw [hst.out] at e; simp at e, Below.trans hX hb⟩
        case measure => simp [intOf]; omega
    · obtain rfl : k = npc len := by omega
      have HO := Lib.hid hown
      have HNI := Lib.hid hnil
      have hB := Lib.hid hX.size
      clear hp hown hnil
      go_wp2_with (go_at_call 28; refine (merge_own HO.out HNI.out (Nat.le_trans HLN.out (by omega)) (hlK_ok D (by omega)) (hlK_pw len D _)).mono ?_; rintro e w' ⟨v', rfl, hx, ho', hn'⟩)
      go_ret
      exact ⟨_, rfl, hX.trans hx, own_more ho' hB.out, hn'⟩
theorem RngOwn.shape2 {w : World} {B : Nat} {v : Value} {xs : List (Nat × Nat)} (h : RngOwn w B v xs) : ∃ A cap, v = .slice A xs.length cap ∧ xs.length ≤ cap ∧ (0 < xs.length → ∃ g, A = some ⟨g, 0, none⟩ ∧ RngAt w g xs) := by
  rcases h.shape with ⟨rfl, rfl⟩ | ⟨g, cap, rfl, h1, h2, h3, h4⟩
  · exact ⟨none, 0, rfl, Nat.le_refl _, fun h => by simp at h⟩
  · exact ⟨_, cap, rfl, h1, fun _ => ⟨g, rfl, h4⟩⟩
set_option maxRecDepth 100000 in
theorem cover_any {w : World} {B : Nat} {v : Value} {xs : List (Nat × Nat)} (h : RngOwn w B v xs) (hnil : xs = [] → v = .slice none 0 0) (hn : xs.length ≤ 12) (ho : Okr xs) (hp : xs.Pairwise fun x y => x.1 ≤ y.1) (f t : Nat) (c : Bool) (hft : f < t → (c = true ↔ ∃ x ∈ mg xs, x.1 ≤ f ∧ t ≤ x.2)) (hc : ¬ f < t → c = true) :
    Calls Tryz.prog 15 #[v, rngV f t] w fun e w' => e = .returned (.bool c) ∧ Ext w w' := by
  by_cases hlt : f < t
  · have q1 : ¬ (t ≤ f) := by omega
    have HFT := Lib.hid (hft hlt)
    have hX0 : Ext w (w.alloc (.cells #[.int .i64 f, .int .i64 t] 27)) := (Ext.refl w).alloc _
    have HM := Lib.hid (merge_own (h.ext hX0) hnil hn ho hp)
    have HLN := Lib.hid (Nat.le_trans (mg_length xs) hn)
    have HBX := Lib.hid (RowB.laid w 27 [.int .i64 f, .int .i64 t])
    clear hft hc hlt h hnil
    go_enter Tryz.func15, Tryz.ntmps15
    go_upto_region 4 with (go_at_call 28; refine HM.out.mono ?_; rintro e w1 ⟨v1, rfl, hx1, ho1, -⟩; obtain ⟨A1, cap1, rfl, hc1, hra⟩ := ho1.shape2)
    obtain ⟨n, hxn⟩ : ∃ n, (mg xs).length = n := ⟨_, rfl⟩
    have HN := Lib.hid hxn
    rw [hxn] at hc1 hra ⊢
    have hn12 : n ≤ 12 := by have := HLN.out; omega
    have X1 := hX0.trans hx1
    have HB1 := Lib.hid (HBX.out.ext hx1)
    clear ho1 hxn
    go_wp2_with fail
    go_loopw [15] (fun i wr => ∃ k : Nat, k ≤ n ∧ i = .int .i64 k ∧ Ext w1 wr ∧ ∀ j, j < k → ∀ x, (mg xs)[j]? = some x → ¬ (x.1 ≤ f ∧ t ≤ x.2)) (fun i _ => n - (intOf i).toNat)
    case atStart => exact ⟨0, by omega, rfl, Ext.refl _, fun j hj => by omega⟩
    case round =>
      obtain ⟨k, hk, rfl, hX, hall⟩ := hrel
      by_cases hkn : k < n
      · have hki : (k : Int) < (n : Int) := by omega
        have hk6 : (k : Int) < 13 := by omega
        obtain ⟨g, rfl, hr⟩ := hra (by omega)
        obtain ⟨x, hx⟩ : ∃ x, (mg xs)[k]? = some x := ⟨_, List.getElem?_eq_getElem (by rw [HN.out]; exact hkn)⟩
        have hcell := hr.ext hX k (by rw [HN.out]; exact hkn)
        rw [hx, Option.getD_some] at hcell
        obtain ⟨c0, c1⟩ := hcell
        have b0 := fun o => (HB1.out.ext (hX.alloc o)).cell (j := 0) rfl
        have b1 := fun o => (HB1.out.ext (hX.alloc o)).cell (j := 1) rfl
        obtain ⟨a, ha⟩ : ∃ a, a = x.1 := ⟨_, rfl⟩
        obtain ⟨z, hz⟩ : ∃ z, z = x.2 := ⟨_, rfl⟩
        rw [← ha] at c0
        rw [← hz] at c1
        have HXX := Lib.hid hx
        have HAZ := Lib.hid (And.intro ha hz)
        have HALL := Lib.hid hall
        have hkc : k < cap1 := by omega
        have hno : ¬ (a ≤ f ∧ t ≤ z) → ∀ j, j < k + 1 → ∀ x, (mg xs)[j]? = some x → ¬ (x.1 ≤ f ∧ t ≤ x.2) := by
          intro hn j hj y hy
          by_cases e : j = k
          · subst e
            rw [HXX.out] at hy
            obtain rfl := Option.some.inj hy
            rw [← HAZ.out.1, ← HAZ.out.2]; exact hn
          · exact HALL.out j (by omega) y hy
        have HNO := Lib.hid hno
        clear hx ha hz hall hno hra hr
        by_cases h1 : a ≤ f
        · have p1 : decide (a ≤ f) = true := decide_eq_true h1
          by_cases h2 : t ≤ z
          · have p2 : decide (t ≤ z) = true := decide_eq_true h2
            have hcc : c = true := (HFT.out).2 ⟨x, List.mem_of_getElem? HXX.out, by rw [← HAZ.out.1]; exact h1, by rw [← HAZ.out.2]; exact h2⟩
            subst hcc
            go_wp2_with fail
            go_ret
            exact ⟨rfl, X1.trans (hX.alloc _)⟩
          · have p2 : decide (t ≤ z) = false := decide_eq_false h2
            have HH := Lib.hid (HNO.out (fun h => h2 h.2))
            clear h1 h2
            go_wp2_with fail
            go_roundw
            case rel => exact ⟨k + 1, by omega, by go_num, hX.alloc _, HH.out⟩
            case measure => simp [intOf]; omega
        · have p1 : decide (a ≤ f) = false := decide_eq_false h1
          have HH := Lib.hid (HNO.out (fun h => h1 h.1))
          clear h1
          go_wp2_with fail
          go_roundw
          case rel => exact ⟨k + 1, by omega, by go_num, hX.alloc _, HH.out⟩
          case measure => simp [intOf]; omega
      · obtain rfl : k = n := by omega
        have hcc : c = false := by
          cases hc0 : c with
          | false => rfl
          | true =>
            exfalso
            obtain ⟨x, hx, h1, h2⟩ := (HFT.out).1 hc0
            obtain ⟨j, hj⟩ := List.getElem?_of_mem hx
            have hjl := (List.getElem?_eq_some_iff.1 hj).1
            rw [HN.out] at hjl
            exact hall j hjl x hj ⟨h1, h2⟩
        subst hcc
        clear hall hra
        go_wp2_with fail
        go_ret
        exact ⟨rfl, X1.trans hX⟩
  · have q1 : t ≤ f := by omega
    obtain rfl := hc hlt
    clear hft hc hlt
    go_enter Tryz.func15, Tryz.ntmps15
    go_wp2_with fail
    go_ret
    exact ⟨rfl, (Ext.refl w).alloc _⟩
end Go.Proofs.YtlhnejcjeoecaaaGreatDoor.P20
namespace Go.Proofs.YtlhnejcjeoecaaaGreatDoor.P20
open Go.RowKit Go.Deep Go.Sort
set_option maxRecDepth 100000 in
set_option maxHeartbeats 4000000 in
theorem missing_none {w : World} {B b l len : Nat} {A : Nat → Prop} {tag : ByteArray} {D : Nat → Option ByteArray} (h : BodyAt w B A b l tag len D) (F T : Int) (f t : Nat) (hl : len ≤ 65536) (hf : (f : Int) = max 0 F) (hF : F ≤ 9223372036854775807) (ht : t = (min T len).toNat) (hg : gaps D (pcs f t) = []) :
    Calls Tryz.prog 14 #[.pointer (some ⟨b, 0, none⟩), rngV F T] w fun e w' => e = .returned (.slice none 0 0) ∧ Ext w w' := by
  have c1 := h.c1
  have hb1 : (w.alloc (.cells #[.int .i64 F, .int .i64 T] 27)).drew.cell? ⟨b, 1, none⟩ = some (.int .i64 len) := (((Ext.refl w).alloc _).drew).cell c1
  have hb2 : (w.alloc (.cells #[.int .i64 F, .int .i64 T] 27)).cell? ⟨b, 1, none⟩ = some (.int .i64 len) := ((Ext.refl w).alloc _).cell c1
  have HP := Lib.hid (fun W => pieces_any F T len f t hl hf hF ht W)
  have HT := Lib.hid (show t ≤ len by omega)
  have HG := Lib.hid hg
  clear hf ht hg
  go_enter Tryz.func14, Tryz.ntmps14
  go_upto_region 4 with fail
  go_cut [15, 16, 17] (fun v n i wx => ∃ A1 cap1, v = .slice A1 (pcs f t).length cap1 ∧ n = .int .i64 (pcs f t).length ∧ i = .int .i64 0 ∧ (pcs f t).length ≤ cap1 ∧ IntsOwn wx w.heap.size (.slice A1 (pcs f t).length cap1) (pcs f t) ∧ Ext w wx)
  case first =>
    go_region_with (go_at_call 11; refine (HP.out _).mono ?_; rintro e w1 ⟨v1, rfl, hx, ho⟩; obtain ⟨A1, cap1, rfl, hcap1, -⟩ := ho.shape)
    all_goals go_wp2_with fail
    all_goals go_meet
    all_goals exact ⟨A1, cap1, rfl, rfl, rfl, hcap1, ho.more (by simp), (((Ext.refl w).alloc _).drew).trans hx⟩
  case rest =>
  obtain ⟨A1, cap1, rfl, rfl, rfl, hcap1, ho, X1⟩ := hcut
  clear hb1 hb2 HP
  go_wp2_with fail
  go_loopw [5, 17] (fun v i wr => ∃ k : Nat, k ≤ (pcs f t).length ∧ i = .int .i64 k ∧ v = .slice none 0 0 ∧ Ext wc wr) (fun _ i _ => (pcs f t).length - (intOf i).toNat)
  case atStart => exact ⟨0, by omega, rfl, rfl, Ext.refl _⟩
  case round =>
    obtain ⟨k, hk, rfl, rfl, hX⟩ := hrel
    by_cases hlt : k < (pcs f t).length
    · obtain ⟨g1, cp1, e1, e2, e3, e4, e5⟩ := ho.cell k hlt
      simp only [Value.slice.injEq, true_and] at e1
      obtain ⟨rfl, rfl⟩ := e1
      obtain ⟨i, hi⟩ : ∃ i, (pcs f t)[k]? = some i := ⟨_, List.getElem?_eq_getElem hlt⟩
      rw [hi] at e5
      simp only [Option.getD_some] at e5
      have hil : i < npc len := pcs_mem (by have := HT.out; omega) (List.mem_of_getElem? hi)
      have e6 : wr.cell? ⟨g1, k, none⟩ = some (.int .i64 (i : Nat)) := hX.cell e5
      have HR := Lib.hid (h.ext (X1.trans hX))
      have hki : (k : Int) < ((pcs f t).length : Int) := by omega
      have hk6 : k ≤ 256 := by have := pcs_length f t (by have := HT.out; omega); omega
      have hD : (D i).isSome = true := by
        obtain ⟨s, hs⟩ := gaps_nil HG.out (List.mem_of_getElem? hi)
        rw [hs]; rfl
      have HD := Lib.hid hD
      clear e5 e3 e4 hi hD
      go_wp2_with (go_at_call 27; refine (has_in HR.out hl i hil).mono ?_; rw [HD.out]; rintro e w' ⟨rfl, rfl⟩)
      go_roundw
      case rel => exact ⟨k + 1, by omega, by go_num, rfl, hX⟩
      case measure => simp [intOf]; omega
    · obtain rfl : k = (pcs f t).length := by omega
      go_wp2_with fail
      go_ret
      exact ⟨rfl, X1.trans hX⟩
end Go.Proofs.YtlhnejcjeoecaaaGreatDoor.P20
namespace Go.Proofs.YtlhnejcjeoecaaaGreatDoor.P20
open Go.RowKit Go.Deep Go.Sort
/-- every piece that is there is the text's -/
def Fit (t : ByteArray) (D : Nat → Option ByteArray) : Prop := ∀ i s, D i = some s → s = pcS t i
theorem Fit.none_ (t : ByteArray) : Fit t fun _ => none := fun _ _ h => by cases h
theorem Fit.upd {t : ByteArray} {D : Nat → Option ByteArray} (h : Fit t D) (i : Nat) : Fit t (upd D i (some (pcS t i))) := by
  intro j s hs
  unfold P20.upd at hs
  split at hs
  · rename_i e
    rw [e]
    exact (Option.some.inj hs).symm
  · exact h j s hs
theorem Fit.ok {t : ByteArray} {D : Nat → Option ByteArray} (h : Fit t D) {m : Nat} (hm : t.size = m) : PcOk m D := by
  intro i hi s hs
  rw [h i s hs, pcS_size t i (by unfold npc at hi; omega), hm]
theorem Fit.same {t : ByteArray} {D E : Nat → Option ByteArray} (h : Fit t D) (k : Fit t E) (i : Nat) (s s' : ByteArray) (h1 : D i = some s) (h2 : E i = some s') : s = s' := by rw [h i s h1, k i s' h2]
theorem Fit.jn {t : ByteArray} {D E : Nat → Option ByteArray} (h : Fit t D) (k : Fit t E) : Fit t (jn D E) := by
  intro i s hs
  unfold P20.jn at hs
  cases he : E i with
  | none => rw [he] at hs; exact h i s hs
  | some x => rw [he] at hs; exact k i s (by rw [he]; exact hs)
theorem jn_some (D E : Nat → Option ByteArray) (i : Nat) : (jn D E i).isSome = ((D i).isSome || (E i).isSome) := by
  unfold P20.jn
  cases D i <;> cases E i <;> rfl
theorem upd_some (D : Nat → Option ByteArray) (i j : Nat) (s : ByteArray) : (upd D i (some s) j).isSome = ((D j).isSome || decide (j = i)) := by
  unfold P20.upd
  by_cases h : j = i
  · rw [if_pos h]; simp [h]
  · rw [if_neg h]; simp [h]
theorem rd_fit {t : ByteArray} {D : Nat → Option ByteArray} (hF : Fit t D) {f u : Nat} (hg : gaps D (pcs f u) = []) (hu : u ≤ t.size) (hf : f ≤ u) : rdL D f u = byteIs (t.extract f u) := by
  symm
  apply List.ext_getElem
  · rw [byteIs_length, rdL_length, ByteArray.size_extract]; omega
  · intro j h1 h2
    rw [rdL_length] at h2
    have hs : j < (t.extract f u).size := by rw [ByteArray.size_extract]; omega
    obtain ⟨s, hs2⟩ := gaps_nil hg (pcs_in (k := f + j) (by omega) (by omega))
    have hsv := hF _ _ hs2
    have e1 : (rdL D f u)[j]'(by rw [rdL_length]; exact h2) = (byteIs s).getD ((f + j) % 256) 0 := by
      unfold rdL
      simp only [List.getElem_map, List.getElem_range', Nat.one_mul]
      rw [hs2, Option.getD_some]
    rw [e1, hsv, pcS_byte t (f + j) (by omega), byteIs_getD (by omega : f + j < t.size)]
    have e2 : (t.extract f u)[j]'hs = t[f + j]'(by omega) := ByteArray.getElem_extract (h := hs)
    have e3 := byteIs_getD hs
    rw [List.getD_eq_getElem?_getD, List.getElem?_eq_getElem h1, e2] at e3
    exact e3
theorem gaps_iff {D : Nat → Option ByteArray} {l : List Nat} : gaps D l = [] ↔ ∀ i ∈ l, (D i).isSome = true := by
  unfold gaps
  rw [List.filter_eq_nil_iff]
  constructor
  · intro h i hi
    have := h i hi
    cases hd : D i with
    | none => rw [hd] at this; simp at this
    | some x => rfl
  · intro h i hi
    rw [h i hi]
    simp
theorem conv_nil (W : World) : (convert 22 9 (.slice none 0 0)).run Tryz.prog W = .ok (.string ⟨#[]⟩) W := by kernel_rfl
theorem conv_own {w w' : World} {B : Nat} {v : Value} {xs : List Int} (h : BytesOwn w B v xs) (hx : Ext w w') : (convert 22 9 v).run Tryz.prog w' = .ok (.string (strOfNums xs)) w' := by
  obtain ⟨A, cap, rfl⟩ := h.shape
  rcases h.2 with ⟨e, e2⟩ | ⟨g, cap', cur, e, hb, hh, hl, hm, hc, ht⟩
  · have e0 : xs = [] := List.eq_nil_of_length_eq_zero e2
    subst e0
    rw [e]
    exact conv_nil w'
  · have ha : A = some ⟨g, 0, none⟩ := by injection e
    subst ha
    refine run_convert_bytes_arg w' 22 5 Tryz.underlying22 Tryz.underlying5 g 0 xs.length cap xs rfl (fun i hi => ?_) 9 Tryz.underlying9
    obtain ⟨g', e1, -, -, e4⟩ := h.cell i hi
    have eg : g = g' := by simpa using e1
    subst eg
    rw [Nat.zero_add, hx.cell e4]
    simp [List.getD]
end Go.Proofs.YtlhnejcjeoecaaaGreatDoor.P20
namespace Go.Proofs.YtlhnejcjeoecaaaGreatDoor.P20
open Go.RowKit Go.Deep Go.Sort
def abcD : Nat → Option ByteArray := upd (fun _ => none) 0 (some ⟨#[97, 98, 99]⟩)
theorem abc_gaps : gaps abcD (pcs 1 3) = [] := by
  rw [gaps_iff]
  intro i hi
  have h : pcs 1 3 = [0] := by decide
  rw [h] at hi
  simp at hi
  subst hi
  rfl
theorem abc_ok : PcOk 3 abcD := by
  intro i hi x hx
  have : i = 0 := by unfold npc at hi; omega
  subst this
  have : (⟨#[97, 98, 99]⟩ : ByteArray) = x := Option.some.inj hx
  rw [← this]
  rfl
theorem abc_rd : strOfNums (rdL abcD 1 3) = ⟨#[98, 99]⟩ := by kernel_rfl
set_option maxRecDepth 100000 in
theorem wawake_any (w : World) : Calls Tryz.prog 4 #[] w fun e w' => e = .returned (.bool true) ∧ Ext w w' := by
  have hnp : npc 3 = 1 := rfl
  go_enter Tryz.func4, Tryz.ntmps4
  go_upto_region 2 with (go_at_call 7; refine (new_ok ⟨#[116]⟩ 3 (by decide) w (fun _ => False) (fun _ h => h.elim)).mono ?_; rintro e w1 ⟨b, l, rfl, hx1, hb1⟩)
  have HX1 := Lib.hid hx1
  obtain ⟨w2, hw2⟩ : ∃ x, x = w1.alloc (.cells #[.int .u8 97, .int .u8 98, .int .u8 99] 5 (3, 4)) := ⟨_, rfl⟩
  have hkc := Lib.run_convert_bytes_const (P := Tryz.prog) w1 22 5 #[.int .u8 97, .int .u8 98, .int .u8 99] 3 3 Tryz.underlying22 Tryz.underlying5
  have X2 : Ext w1 w2 := by rw [hw2]; exact (Ext.refl w1).alloc _
  have hr : RowB w2 w1.heap.size 5 [.int .u8 97, .int .u8 98, .int .u8 99] := by
    rw [hw2]
    exact ⟨_, (3, 4), [], heap_alloc_new w1 _, fun j h _ => h, rfl⟩
  rw [show w1.alloc (.cells #[.int .u8 97, .int .u8 98, .int .u8 99] 5 (#[Value.int .u8 97, .int .u8 98, .int .u8 99].size, #[Value.int .u8 97, .int .u8 98, .int .u8 99].size + 1)) = w2 from hw2.symm] at hkc
  have hby : BytesAt w2 w1.heap.size ⟨#[97, 98, 99]⟩ := by
    intro i hi
    have hi3 : i < 3 := hi
    match i, hi3 with
    | 0, _ => exact hr.cell (j := 0) rfl
    | 1, _ => exact hr.cell (j := 1) rfl
    | 2, _ => exact hr.cell (j := 2) rfl
  have HPUT := Lib.hid (put_ok (hb1.ext X2) (by decide) 0 (by decide) w1.heap.size 3 ⟨#[97, 98, 99]⟩ hby (by decide) rfl (fun _ h => h.elim))
  have HWZ := Lib.hid hx1.size
  have HX2' := Lib.hid (HX1.out.trans X2)
  clear hx1 hb1 X2 hby hr hw2
  go_upto_region 4 with (go_at_call 8; refine HPUT.out.mono ?_; rintro e w3 ⟨rfl, hbl, hk, hb2⟩)
  have HX2 := Lib.hid (show Ext w w3 from Below.trans HX2'.out hbl)
  have HB2 := Lib.hid (show BodyAt w3 w.heap.size (fun _ => False) b l ⟨#[116]⟩ 3 abcD from hb2)
  clear hbl hk hb2 HPUT
  have HRD := Lib.hid (read_ok HB2.out abc_ok 1 3 (by decide) (by decide) (by decide) abc_gaps)
  go_upto_region 5 with (go_at_call 12; refine HRD.out.mono ?_; rintro e w4 ⟨v3, rfl, hx3, ho3⟩)
  have hcv := conv_own ho3 (Ext.refl _)
  rw [abc_rd] at hcv
  go_wp2_with fail
  go_ret
  exact ⟨rfl, HX2.out.trans hx3⟩
end Go.Proofs.YtlhnejcjeoecaaaGreatDoor.P20
namespace Go.Proofs.YtlhnejcjeoecaaaGreatDoor.P20
open Go.RowKit Go.Deep Go.Sort
theorem put_fit {w : World} {B b l n : Nat} {A : Nat → Prop} {tag t : ByteArray} {D : Nat → Option ByteArray} (h : BodyAt w B A b l tag n D) (hF : Fit t D) (hn : t.size = n) (hl : n ≤ 65536) (i : Nat) (hi : i < npc n) (g o cap : Nat)
    (hs : BytesO w g o (pcS t i)) (hA : ∀ k, A k → k < w.heap.size) :
    Calls Tryz.prog 8 #[.pointer (some ⟨b, 0, none⟩), .int .i64 i, .slice (some ⟨g, o, none⟩) (pcS t i).size cap] w fun e w' => e = .returned .nilIface ∧ Below B w w' ∧ Kept l w w' ∧ BodyAt w' B A b l tag n (upd D i (some (pcS t i))) := by
  have hz : (pcS t i).size = pto i n - i * 256 := by rw [pcS_size t i (by rw [hn]; unfold npc at hi; omega), hn]
  cases hD : D i with
  | none => exact put_okO h hl i hi g o cap (pcS t i) hs hz hD hA
  | some s =>
    have := hF i s hD
    subst this
    exact put_sameO h hl i hi g o cap (pcS t i) hs hz hD hA
/-- what holds between two Puts -/
structure Pst (w3 w : World) (t : ByteArray) (n m b l b' l' B B' q : Nat) (D E : Nat → Option ByteArray) (th : Nat → Bool) : Prop where
  ba : BodyAt w B (fun k => k = l' ∨ k = q) b l ⟨#[116]⟩ n D
  bb : BodyAt w B' (fun k => k = l ∨ k = q) b' l' ⟨#[116]⟩ n E
  fd : Fit t D
  fe : Fit t E
  row : w.rowIs q 4 m (fun i => .bool (th i))
  lk : ∀ i, i < m → th i = ((D i).isSome || (E i).isSome)
  bel : Below B w3 w
theorem Pst.lts {w3 w : World} {t : ByteArray} {n m b l b' l' B B' q : Nat} {D E : Nat → Option ByteArray} {th : Nat → Bool} (h : Pst w3 w t n m b l b' l' B B' q D E th) : l < w.heap.size ∧ l' < w.heap.size ∧ q < w.heap.size ∧ l ≠ q ∧ l' ≠ q := by
  obtain ⟨f, hf, -⟩ := h.ba.row
  obtain ⟨f', hf', -⟩ := h.bb.row
  exact ⟨hf.lt, hf'.lt, h.row.lt, fun e => h.ba.av.2 (.inr e), fun e => h.bb.av.2 (.inr e)⟩
theorem Pst.store {w3 w : World} {t : ByteArray} {n m b l b' l' B B' q : Nat} {D E : Nat → Option ByteArray} {th : Nat → Bool} (h : Pst w3 w t n m b l b' l' B B' q D E th) (hq : B ≤ q) (i : Nat) :
    BodyAt (w.setCell ⟨q, i, none⟩ (.bool true)) B (fun k => k = l' ∨ k = q) b l ⟨#[116]⟩ n D ∧ BodyAt (w.setCell ⟨q, i, none⟩ (.bool true)) B' (fun k => k = l ∨ k = q) b' l' ⟨#[116]⟩ n E ∧
    (i < m → (w.setCell ⟨q, i, none⟩ (.bool true)).rowIs q 4 m (fun j => .bool (if j = i then true else th j))) ∧ Below B w3 (w.setCell ⟨q, i, none⟩ (.bool true)) := by
  have hk : Kept q w (w.setCell ⟨q, i, none⟩ (.bool true)) := (Kept.refl q w).set i _
  refine ⟨h.ba.kept hk (.inr rfl), h.bb.kept hk (.inr rfl), fun hi => ?_, h.bel.setCell hq _⟩
  have hs := h.row.set i (.bool true)
  refine hs.congr ?_
  intro j hj
  by_cases e : j = i
  · simp [e]
  · simp [e]
theorem Pst.put_a {w3 w w' : World} {t : ByteArray} {n m b l b' l' B B' q : Nat} {D E : Nat → Option ByteArray} {th : Nat → Bool} (h : Pst w3 w t n m b l b' l' B B' q D E th) (hq : B ≤ q) {i : Nat} (hi : i < m)
    (h1 : Below B (w.setCell ⟨q, i, none⟩ (.bool true)) w') (h2 : Kept l (w.setCell ⟨q, i, none⟩ (.bool true)) w') (h3 : BodyAt w' B (fun k => k = l' ∨ k = q) b l ⟨#[116]⟩ n (upd D i (some (pcS t i)))) :
    Pst w3 w' t n m b l b' l' B B' q (upd D i (some (pcS t i))) E (fun j => if j = i then true else th j) := by
  obtain ⟨s1, s2, s3, s4⟩ := h.store hq i
  obtain ⟨k1, k2, k3, k4, k5⟩ := h.lts
  refine ⟨h3, s2.kept h2 (.inl rfl), h.fd.upd i, h.fe, (s3 hi).of_block (h2.2 q (by simpa using k3) (fun e => k4 e.symm)), fun j hj => ?_, s4.trans h1⟩
  rw [upd_some, h.lk j hj]
  by_cases e : j = i
  · simp [e]
  · simp [e]
theorem Pst.put_b {w3 w w' : World} {t : ByteArray} {n m b l b' l' B B' q : Nat} {D E : Nat → Option ByteArray} {th : Nat → Bool} (h : Pst w3 w t n m b l b' l' B B' q D E th) (hq : B ≤ q) (hBB : B ≤ B') {i : Nat} (hi : i < m)
    (h1 : Below B' (w.setCell ⟨q, i, none⟩ (.bool true)) w') (h2 : Kept l' (w.setCell ⟨q, i, none⟩ (.bool true)) w') (h3 : BodyAt w' B' (fun k => k = l ∨ k = q) b' l' ⟨#[116]⟩ n (upd E i (some (pcS t i)))) :
    Pst w3 w' t n m b l b' l' B B' q D (upd E i (some (pcS t i))) (fun j => if j = i then true else th j) := by
  obtain ⟨s1, s2, s3, s4⟩ := h.store hq i
  obtain ⟨k1, k2, k3, k4, k5⟩ := h.lts
  refine ⟨s1.kept h2 (.inl rfl), h3, h.fd, h.fe.upd i, (s3 hi).of_block (h2.2 q (by simpa using k3) (fun e => k5 e.symm)), fun j hj => ?_, s4.trans (h1.mono hBB)⟩
  rw [upd_some, h.lk j hj]
  by_cases e : j = i
  · simp [e]
  · simp [e]
end Go.Proofs.YtlhnejcjeoecaaaGreatDoor.P20
namespace Go.Proofs.YtlhnejcjeoecaaaGreatDoor.P20
open Go.RowKit Go.Deep Go.Sort
/-- all of these pieces are there -/
def whB (J : Nat → Option ByteArray) (l : List Nat) : Bool := l.all fun i => (J i).isSome
theorem whB_gaps {J : Nat → Option ByteArray} {l : List Nat} : whB J l = true ↔ gaps J l = [] := by
  rw [gaps_iff]
  unfold whB
  rw [List.all_eq_true]
theorem whB_step {J : Nat → Option ByteArray} {l : List Nat} {j x : Nat} (h : l[j]? = some x) : whB J (l.take (j + 1)) = (whB J (l.take j) && (J x).isSome) := by
  unfold whB
  rw [List.take_add_one, h, List.all_append]
  simp
theorem cover_held {w : World} {B : Nat} {v : Value} {n : Nat} {J : Nat → Option ByteArray} (hn : n ≤ 3072) (h : RngOwn w B v (mg (hlK n J (npc n)))) (hnil : mg (hlK n J (npc n)) = [] → v = .slice none 0 0) {f u : Nat} (hfu : f < u) (hun : u ≤ n) :
    Calls Tryz.prog 15 #[v, rngV f u] w fun e w' => e = .returned (.bool (whB J (pcs f u))) ∧ Ext w w' := by
  obtain ⟨a1, a2, a3⟩ := mg_facts _ (hlK_ok J (by omega : n ≤ 65536)) (hlK_pw n J _)
  refine cover_any h hnil ?_ a2 (sep_le a1 a2) f u _ (fun _ => ?_) (fun h => absurd hfu h)
  · have h1 := mg_length (hlK n J (npc n))
    have h2 := hlK_length n J (npc n)
    have h3 : npc n ≤ 12 := by unfold npc; omega
    omega
  · rw [whB_gaps]
    exact (cover_gaps J (by omega) hun hfu).symm
theorem missing_len {w : World} {B b l len : Nat} {A : Nat → Prop} {tag : ByteArray} {D : Nat → Option ByteArray} (h : BodyAt w B A b l tag len D) (f t : Nat) (hl : len ≤ 65536) (hft : f ≤ t) (ht : t ≤ len) :
    Calls Tryz.prog 14 #[.pointer (some ⟨b, 0, none⟩), rngV f t] w fun e w' => ∃ A1 k cap, e = .returned (.slice A1 k cap) ∧ Ext w w' ∧ ((k : Int) == 0) = whB D (pcs f t) := by
  refine (missing_any h f t f t hl (by omega) (by omega) (by omega)).mono ?_
  rintro e w' ⟨v, rfl, hx, ho⟩
  obtain ⟨A1, cap1, rfl, -, -⟩ := ho.shape
  refine ⟨A1, _, cap1, rfl, hx, ?_⟩
  rw [Bool.eq_iff_iff, whB_gaps, beq_iff_eq]
  rw [← List.length_eq_zero_iff]
  omega
/-- Read of a range: the bytes of the text, or the error -/
theorem read_wh {w : World} {B b l len : Nat} {A : Nat → Prop} {tag t : ByteArray} {D : Nat → Option ByteArray} (h : BodyAt w B A b l tag len D) (hF : Fit t D) (hz : t.size = len) (f u : Nat) (hl : len ≤ 65536) (hft : f ≤ u) (htl : u ≤ len) :
    Calls Tryz.prog 12 #[.pointer (some ⟨b, 0, none⟩), rngV f u] w fun e w' => ∃ v ev, e = .returned (.tuple #[v, ev]) ∧ Ext w w' ∧ Hid (ev = if whB D (pcs f u) = true then .nilIface else errV 3) ∧
      Hid (whB D (pcs f u) = true → ∀ W, Ext w' W → (convert 22 9 v).run Tryz.prog W = .ok (.string (t.extract f u)) W) := by
  cases hw : whB D (pcs f u) with
  | true =>
    have hg := whB_gaps.1 hw
    refine (read_ok h (hF.ok hz) f u hl hft htl hg).mono ?_
    rintro e w' ⟨v, rfl, hx, ho⟩
    refine ⟨v, _, rfl, hx, Lib.hid (by rw [if_pos rfl]), Lib.hid (fun _ W hW => ?_)⟩
    have := conv_own ho hW
    rw [rd_fit hF hg (by omega) hft, strOf_byteIs] at this
    exact this
  | false =>
    refine (read_none h f u hl hft htl (fun e => by rw [whB_gaps.2 e] at hw; cases hw)).mono ?_
    rintro e w' ⟨rfl, hx⟩
    exact ⟨_, _, rfl, hx, Lib.hid (by rw [if_neg (by simp)]), Lib.hid (fun h => by cases h)⟩
end Go.Proofs.YtlhnejcjeoecaaaGreatDoor.P20
