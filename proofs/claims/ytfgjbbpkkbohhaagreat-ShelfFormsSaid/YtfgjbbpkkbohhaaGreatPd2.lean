/- Chapter 20: ranges.Merge of a short list that is in order: the walk. -/
import Derived.Test.YtfgjbbpkkbohhaaGreatPd1
import Derived.Test.YtfgjbbpkkbohhaaGreatQuiet
import Derived.Deep.RegionWith
namespace Go.Proofs.YtfgjbbpkkbohhaaGreat
open Go.RowKit Go.Deep Go.Sort

def mgS (out : List (Nat × Nat)) (r : Nat × Nat) : List (Nat × Nat) :=
  match out.getLast? with
  | none => [r]
  | some l => if r.1 ≤ l.2 then out.set (out.length - 1) (l.1, max l.2 r.2) else out ++ [r]
def mg (xs : List (Nat × Nat)) : List (Nat × Nat) := xs.foldl mgS []
theorem mg_take (xs : List (Nat × Nat)) (k : Nat) (r : Nat × Nat) (h : xs[k]? = some r) : mg (xs.take (k + 1)) = mgS (mg (xs.take k)) r := by
  unfold mg
  rw [List.take_add_one, h, List.foldl_append]
  rfl
theorem mgS_length (out : List (Nat × Nat)) (r : Nat × Nat) : (mgS out r).length ≤ out.length + 1 := by
  unfold mgS
  split
  · simp
  · split <;> simp
theorem mg_length (xs : List (Nat × Nat)) : (mg xs).length ≤ xs.length := by
  have : ∀ (ys out : List (Nat × Nat)), (ys.foldl mgS out).length ≤ out.length + ys.length := by
    intro ys
    induction ys with
    | nil => intro out; simp
    | cons y ys ih => intro out; have := ih (mgS out y); have := mgS_length out y; simp only [List.foldl_cons, List.length_cons]; omega
  have := this xs []
  simpa [mg] using this
theorem mgS_nil (r : Nat × Nat) : mgS [] r = [r] := rfl
theorem mgS_join {out : List (Nat × Nat)} {r l : Nat × Nat} {q : Nat} (hq : out.length = q + 1) (hl : out[q]? = some l) (h : r.1 ≤ l.2) : mgS out r = out.set q (l.1, max l.2 r.2) := by
  unfold mgS
  rw [List.getLast?_eq_getElem?, hq, show q + 1 - 1 = q by omega, hl]
  simp [h]
theorem mgS_add {out : List (Nat × Nat)} {r l : Nat × Nat} {q : Nat} (hq : out.length = q + 1) (hl : out[q]? = some l) (h : ¬ r.1 ≤ l.2) : mgS out r = out ++ [r] := by
  unfold mgS
  rw [List.getLast?_eq_getElem?, hq, show q + 1 - 1 = q by omega, hl]
  simp [h]
theorem rcs_set (out : List (Nat × Nat)) (q : Nat) (l : Nat × Nat) (u : Nat) (hl : out[q]? = some l) : (rcs out).set (q * 2 + 1) (.int .i64 (u : Nat)) = rcs (out.set q (l.1, u)) := by
  induction out generalizing q with
  | nil => simp at hl
  | cons x xs ih =>
    cases q with
    | zero =>
      obtain rfl : x = l := by simpa using hl
      rfl
    | succ q =>
      have := ih q (by simpa using hl)
      have e : rcs (x :: xs) = .int .i64 (x.1 : Nat) :: .int .i64 (x.2 : Nat) :: rcs xs := rfl
      have e2 : rcs ((x :: xs).set (q + 1) (l.1, u)) = .int .i64 (x.1 : Nat) :: .int .i64 (x.2 : Nat) :: rcs (xs.set q (l.1, u)) := rfl
      rw [e, e2, show (q + 1) * 2 + 1 = q * 2 + 1 + 1 + 1 by omega, List.set_cons_succ, List.set_cons_succ, this]
theorem own_kept {w w' : World} {B : Nat} {e : TypeId} {size n : Nat} {v : Value} {xs : List Value} (h : w.ownsRow B e size v n xs) (hx : Ext w w') : w'.ownsRow B e size v n xs := by
  refine ⟨h.1, ?_⟩
  rcases h.2 with e | ⟨g, cap, cur, rfl, hb, hh, r⟩
  · exact .inl e
  · exact .inr ⟨g, cap, cur, rfl, hb, (Below.block hx g (Array.getElem?_eq_some_iff.1 hh).1).trans hh, r⟩
set_option maxRecDepth 100000 in
set_option maxHeartbeats 4000000 in
theorem merge_ok {w : World} {g cap : Nat} {xs : List (Nat × Nat)} (h : RngAt w g xs) (hn : xs.length ≤ 12) (hn0 : 0 < xs.length) (hs : ∀ i, i + 1 < xs.length → ((xs[i]?).getD (0, 0)).1 ≤ ((xs[i + 1]?).getD (0, 0)).1)
    (hp : ∀ r ∈ xs, r.1 < r.2 ∧ r.2 ≤ 65536) :
    Calls Tryz.prog 132 #[.slice (some ⟨g, 0, none⟩) xs.length cap] w fun e w' => ∃ v, e = .returned v ∧ Ext w w' ∧ RngOwn w' w.heap.size v (mg xs) := by
  have HC := Lib.hid (clone_ok (cap := cap) h hn0 (by omega))
  have HL := Lib.hid (mg_length xs)
  obtain ⟨n, hxn⟩ : ∃ n, xs.length = n := ⟨_, rfl⟩
  have HN := Lib.hid hxn
  have HNS := Lib.hid hs
  rw [hxn] at hn hn0 HC ⊢
  clear hs h hxn
  go_enter Tryz.func132, Tryz.ntmps132
  go_upto_region 2 with (go_at_call 167; refine HC.out.mono ?_; rintro e w1 ⟨v1, rfl, hx1, ho1⟩)
  have hsh : ∃ g1 cap1, v1 = .slice (some ⟨g1, 0, none⟩) n cap1 ∧ n ≤ cap1 ∧ w.heap.size ≤ g1 ∧ g1 < w1.heap.size ∧ RngAt w1 g1 xs := by
    rcases ho1.shape with ⟨_, e⟩ | ⟨g1, cap1, e, h1, h2, h3, h4⟩
    · have := HN.out; rw [e] at this; simp at this; omega
    · exact ⟨g1, cap1, by rw [e, HN.out], by rw [← HN.out]; exact h1, h2, h3, h4⟩
  obtain ⟨g1, cap1, rfl, hc1, -, hg1, hr1⟩ := hsh
  have HS := Lib.hid (sort_ok hr1 (by rw [HN.out]; exact hn) (by rw [HN.out]; exact hc1) HNS.out)
  rw [HN.out] at HS
  clear ho1
  go_upto_region 4 with (go_at_call 168; refine HS.out.mono ?_; rintro e w2 ⟨rfl, hx2⟩)
  have HR := Lib.hid (hr1.ext hx2)
  have X2 := hx1.trans hx2
  clear hr1 hx1 hx2
  go_wp2_with fail
  go_loopw [4, 14] (fun v i wr => ∃ k : Nat, k ≤ n ∧ i = .int .i64 k ∧ RngOwn wr w2.heap.size v (mg (xs.take k)) ∧ Ext w2 wr ∧ (mg (xs.take k) = [] → v = .slice none 0 0)) (fun _ i _ => n - (intOf i).toNat)
  case atStart => exact ⟨0, by omega, rfl, World.ownsRow_nil _ _ _ _, Ext.refl _, fun _ => rfl⟩
  case round =>
    obtain ⟨k, hk, rfl, hown, hX, hni⟩ := hrel
    by_cases hlt : k < n
    · have hki : (k : Int) < (n : Int) := by omega
      obtain ⟨r, hr⟩ : ∃ r, xs[k]? = some r := ⟨_, List.getElem?_eq_getElem (by rw [HN.out]; exact hlt)⟩
      have hcell := HR.out.ext hX k (by rw [HN.out]; exact hlt)
      rw [hr, Option.getD_some] at hcell
      obtain ⟨c0, c1⟩ := hcell
      have hrp := hp r (List.mem_of_getElem? hr)
      have HM := Lib.hid (mg_take xs k r hr)
      have hr1 : (r.1 : Int) < (r.2 : Int) := by omega
      have hr2 : (r.2 : Int) ≤ 65536 := by omega
      have hk6 : (k : Int) < 13 := by omega
      have hkc : k < cap1 := by omega
      obtain ⟨f, hf⟩ : ∃ f, f = r.1 := ⟨_, rfl⟩
      obtain ⟨t, ht⟩ : ∃ t, t = r.2 := ⟨_, rfl⟩
      have HRE := Lib.hid (show r = (f, t) by rw [hf, ht])
      rw [← hf] at c0 hr1
      rw [← ht] at c1 hr1 hr2
      have hlen := Lib.hid (Nat.le_trans (mg_length (xs.take k)) (by rw [List.length_take]; omega : (xs.take k).length ≤ 12))
      have hsz := hX.size
      clear hr hrp hf ht
      rcases hown.shape with ⟨rfl, ho⟩ | ⟨go, co, rfl, ho1, ho2, ho3, ho4⟩
      · clear hni
        rw [ho] at hown HM
        have HO := Lib.hid hown
        clear ho hown
        have hmg := Lib.hid (show mg (xs.take (k + 1)) = [(f, t)] by rw [HM.out, mgS_nil, HRE.out])
        go_upto_region 9 with fail
        refine wp_region_quiet_lit (by kernel_rfl) (by kernel_rfl) ?_
        repeat (go_big_quiet_step (fail))
        refine wpQuiet_nil ?_
        rintro _ ⟨nq, rfl⟩
        have hsz2 : w2.heap.size ≤ ((wr.alloc (.cells #[.int .i64 f, .int .i64 t] 48)).drewN nq).heap.size := Nat.le_trans hsz (((Ext.refl wr).alloc _).drewN nq).size
        go_wp2_with (at_builtin; (refine wpList_append_rng ((wr.alloc (.cells #[.int .i64 f, .int .i64 t] 48)).drewN nq) rfl (.tmp 52) (.tmp 54) rfl w2.heap.size f t _ _ (HO.out.ext (((Ext.refl wr).alloc _).drewN nq)) rfl rfl rfl rfl (by simp [World.drewN]) (by simp) hsz2 ?_))
        intro v' w3 hown' hb
        rw [← hmg.out] at hown'
        go_wp2_with fail
        go_roundw
        case rel => exact ⟨k + 1, by omega, by go_num, hown', Below.trans ((hX.alloc _).drewN nq) hb, fun e => by rw [hmg.out] at e; simp at e⟩
        case measure => simp [intOf]; omega
      · obtain ⟨q, hq⟩ : ∃ q, (mg (xs.take k)).length = q := ⟨_, rfl⟩
        rcases Nat.eq_zero_or_pos q with hq0 | hq0
        · exfalso
          have := hni (List.eq_nil_of_length_eq_zero (hq.trans hq0))
          cases this
        · clear hni
          obtain ⟨q, rfl⟩ : ∃ p, q = p + 1 := ⟨q - 1, by omega⟩
          obtain ⟨l, hl⟩ : ∃ l, (mg (xs.take k))[q]? = some l := ⟨_, List.getElem?_eq_getElem (by omega)⟩
          have hcl := ho4 q (by omega)
          rw [hl, Option.getD_some] at hcl
          rw [hq] at ho1 ⊢
          have hq6 : (q : Int) < 13 := by have := hlen.out; omega
          have hqc : q < co := by omega
          obtain ⟨u, hu⟩ : ∃ u, u = l.2 := ⟨_, rfl⟩
          have HU := Lib.hid hu
          have HL2 := Lib.hid hl
          have HQ := Lib.hid hq
          rw [← hu] at hcl
          have hown' : wr.ownsRow w2.heap.size 48 2 (.slice (some ⟨go, 0, none⟩) (q + 1) co) (q + 1) (rcs (mg (xs.take k))) := by have := hown; unfold RngOwn at this; rwa [hq] at this
          have HO := Lib.hid hown'
          have d1 : ∀ o nq, ((wr.alloc o).drewN nq).cell? ⟨go, q * 2 + 1, none⟩ = some (.int .i64 (u : Nat)) := fun o nq => (((Ext.refl wr).alloc o).drewN nq).cell hcl.2
          have d2 : ∀ o, (wr.alloc o).cell? ⟨go, q * 2 + 1, none⟩ = some (.int .i64 (u : Nat)) := fun o => ((Ext.refl wr).alloc o).cell hcl.2
          have d3 : ∀ o nq, ((wr.alloc o).drewN nq).drew.cell? ⟨go, q * 2 + 1, none⟩ = some (.int .i64 (u : Nat)) := fun o nq => ((((Ext.refl wr).alloc o).drewN nq).drew).cell hcl.2
          have qg : decide ((0 : Int) < (q : Int) + 1) = true := by rw [decide_eq_true_iff]; omega
          have HC2 := Lib.hid hcl.2
          clear hcl hown hown' hl hq ho4 hu
          by_cases hfu : f ≤ u
          · have qf : decide (f ≤ u) = true := decide_eq_true hfu
            have HFU := Lib.hid hfu
            clear hfu
            go_upto_region 9 with fail
            refine wp_region_quiet_lit (by kernel_rfl) (by kernel_rfl) ?_
            repeat (go_big_quiet_step (fail))
            refine wpQuiet_nil ?_
            rintro _ ⟨nq, rfl⟩
            have hmg := Lib.hid (show mg (xs.take (k + 1)) = (mg (xs.take k)).set q (l.1, max u t) by rw [HM.out, HRE.out, HU.out]; exact mgS_join HQ.out HL2.out (by rw [← HU.out]; exact HFU.out))
            have hfz : ∀ o nq, ((wr.alloc o).drewN nq).drew.frozen? ⟨go, q * 2 + 1, none⟩ = false := fun o nq => by
              rw [Ext.frozen ((((Ext.refl wr).alloc o).drewN nq).drew) (HC2.out)]
              exact HO.out.frozenAt _
            have hfz2 : ∀ o, (wr.alloc o).frozen? ⟨go, q * 2 + 1, none⟩ = false := fun o => by
              rw [Ext.frozen ((Ext.refl wr).alloc o) (HC2.out)]
              exact HO.out.frozenAt _
            have hfz3 : ∀ o nq, ((wr.alloc o).drewN nq).frozen? ⟨go, q * 2 + 1, none⟩ = false := fun o nq => by
              rw [Ext.frozen (((Ext.refl wr).alloc o).drewN nq) (HC2.out)]
              exact HO.out.frozenAt _
            have hmx : max (u : Int) (t : Int) = ((max u t : Nat) : Int) := by omega
            have d4 : ∀ o nq, ((wr.alloc o).drewN nq).drew.cell? ⟨wr.heap.size, 1, none⟩ = (wr.alloc o).cell? ⟨wr.heap.size, 1, none⟩ := fun o nq => rfl
            go_upto_region 10 with fail
            have g1' : (q : Int) + 1 - 1 = (q : Int) := by omega
            have g2' : IntKind.i64.wrap (q : Int) = (q : Int) := IntWalk.i64_in (q : Int) (by omega)
            have g3' : q < q + 1 := by omega
            go_region_with (fail_if_success skip; skip)
            all_goals go_wp2_with fail
            all_goals refine ⟨⟨k + 1, by omega, by go_num, ?_, ((hX.alloc _).drewN _).setCell ho2 _, fun e => ?_⟩, by simp [intOf]; omega⟩
            all_goals first
              | (exfalso; have := congrArg List.length e; rw [hmg.out, List.length_set, HQ.out] at this; simp at this)
              | (unfold RngOwn; rw [hmg.out, List.length_set, HQ.out, ← rcs_set _ q l _ HL2.out]; exact ((own_kept HO.out (((Ext.refl wr).alloc _).drewN _)).stored _ _).1)
          · have qf : decide (f ≤ u) = false := decide_eq_false hfu
            have hmg := Lib.hid (show mg (xs.take (k + 1)) = mg (xs.take k) ++ [(f, t)] by rw [HM.out, HRE.out]; exact mgS_add HQ.out HL2.out (by rw [← HU.out]; exact hfu))
            clear hfu
            go_upto_region 9 with fail
            refine wp_region_quiet_lit (by kernel_rfl) (by kernel_rfl) ?_
            repeat (go_big_quiet_step (fail))
            refine wpQuiet_nil ?_
            rintro _ ⟨nq, rfl⟩
            have hsz2 : w2.heap.size ≤ ((wr.alloc (.cells #[.int .i64 f, .int .i64 t] 48)).drewN nq).heap.size := Nat.le_trans hsz (((Ext.refl wr).alloc _).drewN nq).size
            have hownR : RngOwn wr w2.heap.size (.slice (some ⟨go, 0, none⟩) (q + 1) co) (mg (xs.take k)) := by unfold RngOwn; rw [HQ.out]; exact HO.out
            have HOR := Lib.hid hownR
            clear hownR
            go_wp2_with (at_builtin; (refine wpList_append_rng ((wr.alloc (.cells #[.int .i64 f, .int .i64 t] 48)).drewN nq) rfl (.tmp 52) (.tmp 54) rfl w2.heap.size f t _ _ (HOR.out.ext (((Ext.refl wr).alloc _).drewN nq)) rfl rfl rfl rfl (by simp [World.drewN]) (by have := hlen.out; omega) hsz2 ?_))
            intro v' w3 hown' hb
            rw [← hmg.out] at hown'
            go_wp2_with fail
            go_roundw
            case rel => exact ⟨k + 1, by omega, by go_num, hown', Below.trans ((hX.alloc _).drewN nq) hb, fun e => by rw [hmg.out] at e; simp at e⟩
            case measure => simp [intOf]; omega
    · obtain rfl : k = n := by omega
      rw [← HN.out, List.take_length] at hown
      have HO := Lib.hid hown
      have hB := Lib.hid X2.size
      clear hown hni
      go_wp2_with fail
      go_ret
      exact ⟨_, rfl, X2.trans hX, own_more HO.out hB.out⟩
end Go.Proofs.YtfgjbbpkkbohhaaGreat
