/- Chapter 09: the reference's Merge: the walk. -/
import Derived.Test.YteamnofooicbeaaDoorGM
import Derived.Test.YteamnofooicbeaaDoorApp
import Derived.Test.YteamnofooicbeaaDoorTail
import Derived.Test.YteamnofooicbeaaDoorQuiet
import Derived.Deep.RegionHeld3
import Derived.Deep.RegionLaw
import Derived.Deep.DrawnRows
import Derived.Deep.DeepCutAuto
import Derived.Deep.Heap
namespace Go.Proofs.YteamnofooicbeaaDoor
open Go.RowKit Go.Deep
theorem own_base {w : World} {base : Nat} {e : TypeId} {size : Nat} {v : Value} {n : Nat} {xs : List Value} (h : w.ownsRow base e size v n xs) : ∀ g, v.ownBlock = some g → base ≤ g := by
  intro g hg
  rcases h.2 with ⟨rfl, _⟩ | ⟨g', cap, cur, rfl, hb, _⟩
  · simp [Value.ownBlock] at hg
  · simp [Value.ownBlock] at hg; omega
theorem own_ge {g B n cap : Nat} (h : B ≤ g) : ∀ k, (Value.slice (some ⟨g, 0, none⟩) n cap).ownBlock = some k → B ≤ k := fun k hk => by
  simp [Value.ownBlock] at hk
  omega
theorem own_other {w : World} {B : Nat} {e : TypeId} {size n : Nat} {v : Value} {xs : List Value} (h : w.ownsRow B e size v n xs) {b i : Nat} (hp : b < B) (u : Value) : (w.setCell ⟨b, i, none⟩ u).ownsRow B e size v n xs := by
  refine ⟨h.1, ?_⟩
  rcases h.2 with e | ⟨g, cap, cur, rfl, hb, hh, r⟩
  · exact .inl e
  · exact .inr ⟨g, cap, cur, rfl, hb, (blk_setCell_other w ⟨b, i, none⟩ u g (fun e => by have : g = b := e; omega)).trans hh, r⟩
theorem reads_zero {w : World} {B size : Nat} {A : Option Addr} : Reads w B size A 0 [] := ⟨by simp, fun h => absurd h (by omega)⟩
theorem owns0 (w : World) {B G : Nat} (hB : B ≤ w.heap.size) (hG : G = w.heap.size) (e : TypeId) (size : Nat) : (w.alloc (.cells #[] e)).ownsRow B e size (.slice (some ⟨G, 0, none⟩) 0 0) 0 [] := by
  subst hG
  refine ⟨by simp, .inr ⟨w.heap.size, 0, #[], rfl, hB, heap_alloc_new w _, Nat.le_refl _, by simp only [maxLen]; omega, by simp, by simp⟩⟩
theorem reads_one {w : World} {G : Nat} {e : TypeId} {a b : Value} (h : RowB w G e [a, b]) : Reads w w.heap.size 2 (some ⟨G, 0, none⟩) 1 [a, b] := by
  refine ⟨rfl, fun _ => ⟨_, rfl, h.lt, fun j u hu => ?_⟩⟩
  rw [Addr.add_lit, Nat.zero_add]
  exact h.cell hu
/-- the cells of a list at the head of block g -/
def AtB (w : World) (g : Nat) (xs : List (Int × Int)) : Prop := ∀ i p, xs[i]? = some p → w.cell? ⟨g, i * 2, none⟩ = some (.int .i64 p.1) ∧ w.cell? ⟨g, i * 2 + 1, none⟩ = some (.int .i64 p.2)
theorem AtB.ext {w w' : World} {g : Nat} {xs : List (Int × Int)} (h : AtB w g xs) (hx : Ext w w') : AtB w' g xs := fun i p hp => ⟨hx.cell (h i p hp).1, hx.cell (h i p hp).2⟩
theorem AtB.cell {w : World} {g : Nat} {xs : List (Int × Int)} (h : AtB w g xs) {j : Nat} {u : Value} (hu : (xs.flatMap rcs2)[j]? = some u) : w.cell? ⟨g, j, none⟩ = some u := by
  have hj := (List.getElem?_eq_some_iff.1 hu).1
  rw [r2_flat_len] at hj
  obtain ⟨x, hx⟩ : ∃ x, xs[j / 2]? = some x := ⟨_, List.getElem?_eq_getElem (by omega)⟩
  have e1 := r_flat xs (j / 2) x hx (j % 2) (by omega)
  rw [show j / 2 * 2 + j % 2 = j by omega, hu] at e1
  obtain ⟨h0, h1⟩ := h (j / 2) x hx
  rcases Nat.mod_two_eq_zero_or_one j with e | e
  · rw [show j / 2 * 2 = j by omega] at h0
    rw [e] at e1
    rw [h0, e1]
    rfl
  · rw [show j / 2 * 2 + 1 = j by omega] at h1
    rw [e] at e1
    rw [h1, e1]
    rfl
theorem flat_take (xs : List (Int × Int)) (q : Nat) : (xs.take q).flatMap rcs2 = (xs.flatMap rcs2).take (q * 2) := by
  induction xs generalizing q with
  | nil => simp
  | cons x xs ih =>
    cases q with
    | zero => simp
    | succ q =>
      have e : ∀ (y : Int × Int) (ys : List (Int × Int)), (y :: ys).flatMap rcs2 = .int .i64 y.1 :: .int .i64 y.2 :: ys.flatMap rcs2 := fun _ _ => rfl
      rw [List.take_succ_cons, e, e, ih, show (q + 1) * 2 = q * 2 + 1 + 1 by omega]
      rfl
theorem flat_drop (xs : List (Int × Int)) (q : Nat) : (xs.drop q).flatMap rcs2 = (xs.flatMap rcs2).drop (q * 2) := by
  induction xs generalizing q with
  | nil => simp
  | cons x xs ih =>
    cases q with
    | zero => simp
    | succ q =>
      have e : ∀ (y : Int × Int) (ys : List (Int × Int)), (y :: ys).flatMap rcs2 = .int .i64 y.1 :: .int .i64 y.2 :: ys.flatMap rcs2 := fun _ _ => rfl
      rw [List.drop_succ_cons, e, ih, show (q + 1) * 2 = q * 2 + 1 + 1 by omega]
      rfl
theorem reads_take {w W : World} {g B : Nat} {xs : List (Int × Int)} (h : AtB w g xs) (hg : g < B) (hx : Ext w W) (q : Nat) (hq : q ≤ xs.length) : Reads W B 2 (some ⟨g, 0, none⟩) q ((xs.take q).flatMap rcs2) := by
  refine ⟨by rw [r2_flat_len, List.length_take]; omega, fun _ => ⟨_, rfl, hg, fun j u hu => ?_⟩⟩
  rw [Addr.add_lit, Nat.zero_add]
  rw [flat_take] at hu
  have hj : j < q * 2 := by
    have := (List.getElem?_eq_some_iff.1 hu).1
    rw [List.length_take] at this
    omega
  rw [List.getElem?_take_of_lt hj] at hu
  exact (h.ext hx).cell hu
theorem reads_drop {w W : World} {g B : Nat} {xs : List (Int × Int)} (h : AtB w g xs) (hg : g < B) (hx : Ext w W) (q : Nat) : Reads W B 2 (some ⟨g, q * 2, none⟩) (xs.length - q) ((xs.drop q).flatMap rcs2) := by
  refine ⟨by rw [r2_flat_len, List.length_drop], fun _ => ⟨_, rfl, hg, fun j u hu => ?_⟩⟩
  rw [Addr.add_lit]
  rw [flat_drop, List.getElem?_drop] at hu
  exact (h.ext hx).cell hu
set_option maxRecDepth 100000 in
set_option maxHeartbeats 4000000 in
theorem merge9_any {w : World} {v0 : Value} {xs : List (Int × Int)} (h : RIn w v0 xs) (hn : xs.length ≤ 300) :
    Calls Tryd.prog 29 #[v0] w fun e w' => ∃ v, e = .returned v ∧ Ext w w' ∧ ROwn 43 w' w.heap.size v (mg9 xs) := by
  obtain ⟨A, cap, rfl, hcap, hr⟩ := h
  have HML := Lib.hid (fun k => Nat.le_trans (mg9_length (xs.take k)) (by rw [List.length_take]; omega : (xs.take k).length ≤ 300))
  obtain ⟨n, hxn⟩ : ∃ n, xs.length = n := ⟨_, rfl⟩
  have HN := Lib.hid hxn
  rw [hxn] at hn hcap hr ⊢
  clear hxn
  have HR := Lib.hid hr
  clear hr
  obtain ⟨i0, hi0, hz0, hz1, hz2⟩ := info_parts rrng_info
  go_enter Tryd.func29, Tryd.ntmps29
  go_wp2_with fail
  go_loopw [3, 11] (fun v i wr => ∃ k : Nat, k ≤ n ∧ i = .int .i64 k ∧ ROwn 43 wr w.heap.size v (mg9 (xs.take k)) ∧ Ext w wr) (fun _ i _ => n - (intOf i).toNat)
  case atStart => exact ⟨0, by omega, rfl, ROwn.nil _ _ _, Ext.refl _⟩
  case round =>
    obtain ⟨k, hk, rfl, hown, hX⟩ := hrel
    by_cases hlt : k < n
    · obtain ⟨ga, rfl, hg⟩ := HR.out (by omega)
      have hki : (k : Int) < (n : Int) := by omega
      have hk6 : (k : Int) < 301 := by omega
      have hkc : k < cap := by omega
      obtain ⟨⟨f, t⟩, hr⟩ : ∃ r, xs[k]? = some r := ⟨_, List.getElem?_eq_getElem (by rw [HN.out]; exact hlt)⟩
      have c0 := hX.cell (hg k _ hr).1
      have c1 := hX.cell (hg k _ hr).2
      simp only at c0 c1
      have HM := Lib.hid (mg9_take xs k (f, t) hr)
      clear hr hg
      obtain ⟨out, hout⟩ : ∃ out, out = mg9 (xs.take k) := ⟨_, rfl⟩
      have HOL := Lib.hid (show out.length ≤ 300 by rw [hout]; exact HML.out k)
      rw [← hout] at hown HM
      clear hout
      have HO := Lib.hid hown
      have hsz := Lib.hid hX.size
      by_cases hft : t ≤ f
      · have q0 : decide (t ≤ f) = true := decide_eq_true hft
        have HE := Lib.hid (show mg9 (xs.take (k + 1)) = out by rw [HM.out]; unfold ms9; rw [if_pos hft])
        clear hft hown
        go_wp2_with fail
        go_roundw
        case rel => exact ⟨k + 1, by omega, by go_num, by rw [HE.out]; exact HO.out.ext ((Ext.refl _).alloc _), hX.alloc _⟩
        case measure => simp [intOf]; omega
      · have q0 : decide (t ≤ f) = false := decide_eq_false hft
        have HE := Lib.hid (show mg9 (xs.take (k + 1)) = ins9 (in9 out (f, t)) by rw [HM.out]; unfold ms9; rw [if_neg hft])
        clear hft
        obtain ⟨m, hm⟩ : ∃ m, out.length = m := ⟨_, rfl⟩
        have HMM := Lib.hid hm
        have hsh : ∃ Ao co, u3 = .slice Ao m co ∧ m ≤ co ∧ (0 < m → ∃ go, Ao = some ⟨go, 0, none⟩ ∧ AtB wr go out) := by
          rcases hown.shape with ⟨e1, e2⟩ | ⟨go, co, e1, h1, h2, h3, h4⟩
          · have : m = 0 := by rw [← hm, e2]; rfl
            exact ⟨none, 0, by rw [e1, this], by omega, fun h0 => by omega⟩
          · exact ⟨_, co, by rw [e1, hm], by omega, fun _ => ⟨go, rfl, h4⟩⟩
        obtain ⟨Ao, co, rfl, hco, hao⟩ := hsh
        have HAO := Lib.hid hao
        have HHO := Lib.hid hown
        have hm6 : m ≤ 300 := by have := HOL.out; omega
        clear hao hown hm HOL
        go_upto_region 6 with fail
        obtain ⟨w2, hw2⟩ : ∃ w2, w2 = wr.alloc (.cells #[.int .i64 f, .int .i64 t] 43) := ⟨_, rfl⟩
        have HB2 := Lib.hid (show RowB w2 wr.heap.size 43 [.int .i64 f, .int .i64 t] by rw [hw2]; exact row_laid _ _ _)
        have X2 : Ext wr w2 := by rw [hw2]; exact (Ext.refl _).alloc _
        rw [← hw2]
        clear hw2 c0 c1
        have c0 := HB2.out.cell (j := 0) rfl
        have c1 := HB2.out.cell (j := 1) rfl
        have hbz : wr.heap.size < w2.heap.size := HB2.out.lt
        obtain ⟨rb, hrb⟩ : ∃ rb, rb = wr.heap.size := ⟨_, rfl⟩
        rw [← hrb] at c0 c1 HB2 hbz ⊢
        have HRB := Lib.hid hrb
        clear hrb
        go_wp2_with fail
        clear c0 c1
        generalize wr = wo at *
        go_loopw [6, 25] (fun v i wr => ∃ j : Nat, j ≤ m ∧ i = .int .i64 j ∧ ROwn 43 wr w2.heap.size v (in9 (out.take j) (f, t)).1 ∧ RowB wr rb 43 [.int .i64 (in9 (out.take j) (f, t)).2.1, .int .i64 (in9 (out.take j) (f, t)).2.2] ∧ Ext wo wr ∧ w2.heap.size ≤ wr.heap.size) (fun _ i _ => m - (intOf i).toNat)
        case atStart => exact ⟨0, by omega, rfl, ROwn.nil _ _ _, HB2.out, X2, Nat.le_refl _⟩
        case round =>
          obtain ⟨j, hj, rfl, hown, hrow, hY, hsz2⟩ := hrel
          obtain ⟨p, hp⟩ : ∃ p, p = in9 (out.take j) (f, t) := ⟨_, rfl⟩
          rw [← hp] at hown hrow
          have HP := Lib.hid hp
          have hpl : p.1.length ≤ 300 := by rw [hp]; exact Nat.le_trans (in9_length _ _) (by rw [List.length_take]; have := HMM.out; omega)
          have HPL := Lib.hid hpl
          clear hp hpl
          obtain ⟨⟨pf, pt⟩, hpf⟩ : ∃ z, z = p.2 := ⟨_, rfl⟩
          rw [← hpf] at hrow
          simp only at hrow
          have HPF := Lib.hid hpf
          clear hpf
          have HRW := Lib.hid hrow
          by_cases hjm : j < m
          · obtain ⟨go, rfl, hgo⟩ := HAO.out (by omega)
            obtain ⟨⟨a, b⟩, hx⟩ : ∃ x, out[j]? = some x := ⟨_, List.getElem?_eq_getElem (by rw [HMM.out]; exact hjm)⟩
            have hcell := hgo.ext hY j _ hx
            simp only at hcell
            have HST := Lib.hid (in9_take out (f, t) (a, b) j hx)
            have HOW := Lib.hid hown
            have HR0 := Lib.hid (show RowB wr rb 43 [.int .i64 p.2.1, .int .i64 p.2.2] by rw [← HPF.out]; exact hrow)
            have hjc : j < co := by omega
            have hj6 : (j : Int) < 301 := by omega
            have d0 : ∀ q, (wr.drewN q).cell? ⟨go, j * 2, none⟩ = some (.int .i64 a) := fun q => ((Ext.refl wr).drewN q).cell hcell.1
            have d1 : ∀ q, (wr.drewN q).cell? ⟨go, j * 2 + 1, none⟩ = some (.int .i64 b) := fun q => ((Ext.refl wr).drewN q).cell hcell.2
            have e0 : ∀ q, (wr.drewN q).cell? ⟨rb, 0, none⟩ = some (.int .i64 pf) := fun q => (HRW.out.ext ((Ext.refl wr).drewN q)).cell (j := 0) rfl
            have e1 : ∀ q, (wr.drewN q).cell? ⟨rb, 1, none⟩ = some (.int .i64 pt) := fun q => (HRW.out.ext ((Ext.refl wr).drewN q)).cell (j := 1) rfl
            have d2 := hcell.1
            have d3 := hcell.2
            clear hgo hx hcell hown hrow
            by_cases hc : b < pf ∨ pt < a
            · have HN2 := Lib.hid (show in9 (out.take (j + 1)) (f, t) = (p.1 ++ [(a, b)], p.2) by rw [HST.out, ← HP.out]; unfold st9; rw [← HPF.out]; exact if_pos hc)
              by_cases h1 : b < pf
              · have q1 : decide (b < pf) = true := decide_eq_true h1
                clear hc h1
                go_upto_region 11 with fail
                refine wp_region_quiet_lit (by kernel_rfl) (by kernel_rfl) ?_
                repeat (go_big_quiet_step (fail))
                refine wpQuiet_nil ?_
                rintro _ ⟨nq, rfl⟩
                have hsz3 : w2.heap.size ≤ (wr.drewN nq).heap.size := hsz2
                go_wp2_with (at_builtin; refine wpList_append_r 43 28 Tryd.underlying28 rrng_info (wr.drewN nq) rfl _ _ rfl w2.heap.size a b (HOW.out.ext ((Ext.refl wr).drewN nq)) rfl rfl rfl (by have := HPL.out; omega) hsz3 ?_)
                intro v' w3 hown' hb _
                go_wp2_with fail
                go_roundw
                case rel => exact ⟨j + 1, by omega, by go_num, by rw [HN2.out]; exact hown', by rw [HN2.out]; exact (HR0.out.ext ((Ext.refl wr).drewN nq)).below hb hbz, Below.trans (hY.drewN nq) (Below.mono hb X2.size), Nat.le_trans hsz3 (Below.size hb)⟩
                case measure => simp [intOf]; omega
              · have q1 : decide (b < pf) = false := decide_eq_false h1
                have q2 : decide (pt < a) = true := decide_eq_true (hc.resolve_left h1)
                clear hc h1
                go_upto_region 11 with fail
                refine wp_region_quiet_lit (by kernel_rfl) (by kernel_rfl) ?_
                repeat (go_big_quiet_step (fail))
                refine wpQuiet_nil ?_
                rintro _ ⟨nq, rfl⟩
                have hsz3 : w2.heap.size ≤ (wr.drewN nq).heap.size := hsz2
                go_wp2_with (at_builtin; refine wpList_append_r 43 28 Tryd.underlying28 rrng_info (wr.drewN nq) rfl _ _ rfl w2.heap.size a b (HOW.out.ext ((Ext.refl wr).drewN nq)) rfl rfl rfl (by have := HPL.out; omega) hsz3 ?_)
                intro v' w3 hown' hb _
                go_wp2_with fail
                go_roundw
                case rel => exact ⟨j + 1, by omega, by go_num, by rw [HN2.out]; exact hown', by rw [HN2.out]; exact (HR0.out.ext ((Ext.refl wr).drewN nq)).below hb hbz, Below.trans (hY.drewN nq) (Below.mono hb X2.size), Nat.le_trans hsz3 (Below.size hb)⟩
                case measure => simp [intOf]; omega
            · have HN2 := Lib.hid (show in9 (out.take (j + 1)) (f, t) = (p.1, (min pf a, max pt b)) by rw [HST.out, ← HP.out]; unfold st9; rw [← HPF.out]; exact if_neg hc)
              have q1 : decide (b < pf) = false := decide_eq_false (fun h => hc (.inl h))
              have q2 : decide (pt < a) = false := decide_eq_false (fun h => hc (.inr h))
              obtain ⟨mn, hmn⟩ : ∃ mn, min pf a = mn := ⟨_, rfl⟩
              obtain ⟨mx, hmx⟩ : ∃ mx, max pt b = mx := ⟨_, rfl⟩
              rw [hmn, hmx] at HN2
              have HMN := Lib.hid hmn
              have HMX := Lib.hid hmx
              clear hc hmn hmx
              go_upto_region 11 with fail
              refine wp_region_quiet_lit (by kernel_rfl) (by kernel_rfl) ?_
              repeat (go_big_quiet_step (fail))
              refine wpQuiet_nil ?_
              rintro _ ⟨nq, rfl⟩
              go_upto_region 13 with fail
              have x0 : ∀ n : Wd (wr.drewN nq), n.val.cell? ⟨go, j * 2, none⟩ = some (.int .i64 a) := fun n => n.ext.cell (d0 nq)
              have x1 : ∀ n : Wd (wr.drewN nq), n.val.cell? ⟨go, j * 2 + 1, none⟩ = some (.int .i64 b) := fun n => n.ext.cell (d1 nq)
              have y0 : ∀ n : Wd (wr.drewN nq), n.val.cell? ⟨rb, 0, none⟩ = some (.int .i64 pf) := fun n => n.ext.cell (e0 nq)
              have y1 : ∀ n : Wd (wr.drewN nq), n.val.cell? ⟨rb, 1, none⟩ = some (.int .i64 pt) := fun n => n.ext.cell (e1 nq)
              have z0 : ∀ n : Wd (wr.drewN nq), n.val.frozen? ⟨rb, 0, none⟩ = false := fun n => ((HRW.out.ext ((Ext.refl wr).drewN nq)).ext n.ext).frozen (j := 0) (by simp)
              have z1 : ∀ n : Wd (wr.drewN nq), n.val.frozen? ⟨rb, 1, none⟩ = false := fun n => ((HRW.out.ext ((Ext.refl wr).drewN nq)).ext n.ext).frozen (j := 1) (by simp)
              refine wp_region_wd_tail 17 (by kernel_rfl) (by kernel_rfl) ?_
              simp only [List.take_succ_cons, List.take_zero, List.drop_succ_cons, List.drop_zero]
              repeat (first | go_big_quiet_step (fail) | (refine wpQuiet_max rfl _ _ _ rfl .i64 .i64 pt b rfl rfl ?_; rw [HMX.out]; simp only [Act.put, List.setIfInBounds_toArray, List.set_cons_succ, List.set_cons_zero]) | (refine wpQuiet_min rfl _ _ _ rfl .i64 .i64 pf a rfl rfl ?_; rw [HMN.out]; simp only [Act.put, List.setIfInBounds_toArray, List.set_cons_succ, List.set_cons_zero]))
              refine wpQuiet_nil ?_
              rintro _ ⟨n2, rfl⟩
              go_wp2_with fail
              go_roundw
              case rel => exact ⟨j + 1, by omega, by go_num, by rw [HN2.out]; exact own_other (own_other ((HOW.out.ext ((Ext.refl wr).drewN nq)).ext n2.ext) hbz _) hbz _, by rw [HN2.out, ← HMN.out, ← HMX.out]; exact ((((HRW.out.ext ((Ext.refl wr).drewN nq)).ext n2.ext).set 0 _ (by simp)).set 1 _ (by simp)), (((hY.drewN nq).trans n2.ext).setCell (by have := HRB.out; show wo.heap.size ≤ rb; omega) _).setCell (by have := HRB.out; show wo.heap.size ≤ rb; omega) _, by have := n2.ext.size; simp at this ⊢; omega⟩
              case measure => simp [intOf]; omega
          · obtain rfl : j = m := by omega
            have HPE := Lib.hid (show p = in9 out (f, t) by rw [HP.out, ← HMM.out, List.take_length])
            rw [← HPE.out] at HE
            obtain ⟨L, hL⟩ : ∃ L, p.1.length = L := ⟨_, rfl⟩
            have hsh : ∃ Ar cr, u6 = .slice Ar L cr ∧ L ≤ cr ∧ (0 < L → ∃ gr, Ar = some ⟨gr, 0, none⟩ ∧ gr < wr.heap.size ∧ AtB wr gr p.1) := by
              rcases hown.shape with ⟨e1, e2⟩ | ⟨gr, cr, e1, h1, h2, h3, h4⟩
              · have : L = 0 := by rw [← hL, e2]; rfl
                exact ⟨none, 0, by rw [e1, this], by omega, fun h0 => by omega⟩
              · exact ⟨_, cr, by rw [e1, hL], by omega, fun _ => ⟨gr, rfl, h3, h4⟩⟩
            obtain ⟨Ar, cr, rfl, hLc, har⟩ := hsh
            have HAR := Lib.hid har
            have HLL := Lib.hid hL
            have hL6 : L ≤ 300 := by have := HPL.out; omega
            have HXW := Lib.hid hY
            clear har hL hown hrow HPL
            go_wp2_with fail
            generalize wr = wi at *
            go_loopw [8] (fun i wr => ∃ q : Nat, q ≤ L ∧ i = .int .i64 q ∧ (∀ z, z < q → ∀ x, p.1[z]? = some x → x.1 < pf) ∧ Ext wi wr) (fun i _ => L - (intOf i).toNat)
            case atStart => exact ⟨0, by omega, rfl, fun z hz => by omega, Ext.refl _⟩
            case round =>
              obtain ⟨q, hq, rfl, hall, hZ⟩ := hrel
              have b0 : ∀ n, (wr.drewN n).cell? ⟨rb, 0, none⟩ = some (.int .i64 pf) := fun n => (HRW.out.ext (hZ.drewN n)).cell (j := 0) rfl
              have b0' : wr.cell? ⟨rb, 0, none⟩ = some (.int .i64 pf) := (HRW.out.ext hZ).cell (j := 0) rfl
              have b1' : wr.cell? ⟨rb, 1, none⟩ = some (.int .i64 pt) := (HRW.out.ext hZ).cell (j := 1) rfl
              have hq6 : (q : Int) < 301 := by omega
              by_cases h1 : q < L
              · obtain ⟨gr, rfl, hgl, hgr⟩ := HAR.out (by omega)
                obtain ⟨⟨a, b⟩, hx⟩ : ∃ x, p.1[q]? = some x := ⟨_, List.getElem?_eq_getElem (by rw [HLL.out]; exact h1)⟩
                have hcell := hgr.ext hZ q _ hx
                simp only at hcell
                have x0 : ∀ n, (wr.drewN n).cell? ⟨gr, q * 2, none⟩ = some (.int .i64 a) := fun n => ((Ext.refl wr).drewN n).cell hcell.1
                have q1 : decide (q < L) = true := decide_eq_true h1
                have hqc : q < cr := by omega
                by_cases h2 : a < pf
                · have q2 : decide (a < pf) = true := decide_eq_true h2
                  have HNX : ∀ z, z < q + 1 → ∀ x, p.1[z]? = some x → x.1 < pf := by
                    intro z hz y hy
                    by_cases e : z = q
                    · subst e
                      rw [hx] at hy
                      obtain rfl := Option.some.inj hy
                      exact h2
                    · exact hall z (by omega) y hy
                  have HNN := Lib.hid HNX
                  clear hx hcell h2 hgr hall HNX b0' b1'
                  go_upto_region 16 with fail
                  refine wp_region_quiet_lit (by kernel_rfl) (by kernel_rfl) ?_
                  repeat (go_big_quiet_step (fail))
                  refine wpQuiet_nil ?_
                  rintro _ ⟨nq, rfl⟩
                  go_wp2_with fail
                  go_roundw
                  case rel => exact ⟨q + 1, by omega, by go_num, HNN.out, hZ.drewN _⟩
                  case measure => simp [intOf]; omega
                · have q2 : decide (a < pf) = false := decide_eq_false h2
                  have HAT := Lib.hid (show at9 p.1 p.2.1 = q by
                    rw [← HPF.out]
                    exact at9_step hall (fun x hx2 => by
                      rw [hx] at hx2
                      obtain rfl := Option.some.inj hx2
                      exact Int.not_lt.1 h2) (by rw [HLL.out]; omega))
                  clear hx hcell h2 hall
                  go_upto_region 16 with fail
                  refine wp_region_quiet_lit (by kernel_rfl) (by kernel_rfl) ?_
                  repeat (go_big_quiet_step (fail))
                  refine wpQuiet_nil ?_
                  rintro _ ⟨nq, rfl⟩
                  clear x0 q1 q2
                  have hcq : ¬ cr = q := by omega
                  have hqcr : q ≤ cr := by omega
                  have hqL : q ≤ L := by omega
                  obtain ⟨ws, hws⟩ : ∃ ws, ws = wr.drewN nq := ⟨_, rfl⟩
                  have XS : Ext wi ws := by rw [hws]; exact hZ.drewN _
                  go_upto_region 18 with fail
                  rw [← hws]
                  have HRW2 := Lib.hid (HRW.out.ext XS)
                  have HRD := Lib.hid (fun W (hW : Ext ws W) => show Reads W wi.heap.size 2 (some ⟨gr, 0, none⟩) q ((p.1.take q).flatMap rcs2) from reads_take hgr hgl (Ext.trans XS hW) q (by rw [HLL.out]; omega))
                  have HRD2 := Lib.hid (fun W (hW : Ext ws W) => show Reads W wi.heap.size 2 (some ⟨gr, q * 2, none⟩) (L - q) ((p.1.drop q).flatMap rcs2) by
                    have := reads_drop hgr hgl (Ext.trans XS hW) q
                    rwa [HLL.out] at this)
                  have r0 : ∀ o, (ws.alloc o).cell? ⟨rb, 0, none⟩ = some (.int .i64 pf) := fun o => (HRW2.out.ext ((Ext.refl _).alloc o)).cell (j := 0) rfl
                  have r1 : ∀ o, (ws.alloc o).cell? ⟨rb, 1, none⟩ = some (.int .i64 pt) := fun o => (HRW2.out.ext ((Ext.refl _).alloc o)).cell (j := 1) rfl
                  have r2 : ws.cell? ⟨rb, 0, none⟩ = some (.int .i64 pf) := HRW2.out.cell (j := 0) rfl
                  have r3 : ws.cell? ⟨rb, 1, none⟩ = some (.int .i64 pt) := HRW2.out.cell (j := 1) rfl
                  clear b0 b0' b1' hws
                  have HXX := Lib.hid ((hX.trans HXW.out).trans XS)
                  have HFIN := Lib.hid (fun (W9 : World) (v9 : Value) (h9 : W9.ownsRow ws.heap.size 43 2 v9 (q + 1 + (L - q)) ((p.1.take q).flatMap rcs2 ++ [.int .i64 pf, .int .i64 pt] ++ (p.1.drop q).flatMap rcs2)) => show ROwn 43 W9 w.heap.size v9 (mg9 (xs.take (k + 1))) by
                    rw [HE.out]
                    have e : ins9 p = p.1.take q ++ [(pf, pt)] ++ p.1.drop q := by
                      unfold ins9
                      rw [HAT.out, ← HPF.out]
                    have e2 : (p.1.take q ++ [(pf, pt)] ++ p.1.drop q).flatMap rcs2 = (p.1.take q).flatMap rcs2 ++ [.int .i64 pf, .int .i64 pt] ++ (p.1.drop q).flatMap rcs2 := by
                      rw [List.flatMap_append, List.flatMap_append]
                      rfl
                    have e3 : (p.1.take q ++ [(pf, pt)] ++ p.1.drop q).length = q + 1 + (L - q) := by
                      rw [List.length_append, List.length_append, List.length_take, List.length_drop, HLL.out]
                      first | (simp; done) | (simp; omega)
                    unfold ROwn
                    rw [e, e2, e3]
                    exact own_more h9 HXX.out.size)
                  go_region_law (first
                    | (refine step_append_any _ (by rfl) (.tmp 94) (.tmp 97) _ (by rfl) ws.heap.size 43 i0 _ 2 16 Tryd.underlying28 hi0 hz0 hz1 hz2 rfl (by omega) v8 (q + 1) _ (by rfl) (own_kept hown8 ?_) wi.heap.size _ (L - q) _ ((p.1.drop q).flatMap rcs2) (by rfl) (HRD2.out _ ?_) (r2_one _) (by simp only [maxLen]; omega) (by omega) (Nat.le_trans X8.size (Ext.size ?_)) ?_
                       · repeat' (first | exact Ext.refl _ | refine Ext.drew ?_ | refine Ext.drewN ?_ _ | refine Ext.alloc ?_ _)
                       · refine Ext.trans X8 ?_
                         repeat' (first | exact Ext.refl _ | refine Ext.drew ?_ | refine Ext.drewN ?_ _ | refine Ext.alloc ?_ _)
                       · repeat' (first | exact Ext.refl _ | refine Ext.drew ?_ | refine Ext.drewN ?_ _ | refine Ext.alloc ?_ _)
                       intro v9 w9 hown9 hg9 hat9
                       have X9 : Ext ws w9 := Below.grown (Ext.trans X8 (by repeat' (first | exact Ext.refl _ | refine Ext.drew ?_ | refine Ext.drewN ?_ _ | refine Ext.alloc ?_ _))) hg9 (Nat.le_trans X8.size (Ext.size (by repeat' (first | exact Ext.refl _ | refine Ext.drew ?_ | refine Ext.drewN ?_ _ | refine Ext.alloc ?_ _)))) (own_base hown8))
                    | (refine step_append_any _ (by rfl) (.tmp 91) (.tmp 93) _ (by rfl) ws.heap.size 43 i0 _ 2 16 Tryd.underlying28 hi0 hz0 hz1 hz2 rfl (by omega) v7 q _ (by rfl) (own_kept hown7 ?_) _ (some ⟨w7.heap.size, 0, none⟩) 1 1 [.int .i64 pf, .int .i64 pt] (by rfl) (reads_one (RowB.ext (row_laid w7 43 [.int .i64 pf, .int .i64 pt]) ?_)) (by intro u hu; simp at hu; rcases hu with rfl | rfl <;> rfl) (by simp only [maxLen]; omega) (by omega) (Nat.le_trans X7.size (Ext.size ?_)) ?_
                       · repeat' (first | exact Ext.refl _ | refine Ext.drew ?_ | refine Ext.drewN ?_ _ | refine Ext.alloc ?_ _)
                       · repeat' (first | exact Ext.refl _ | refine Ext.drew ?_ | refine Ext.drewN ?_ _ | refine Ext.alloc ?_ _)
                       · repeat' (first | exact Ext.refl _ | refine Ext.drew ?_ | refine Ext.drewN ?_ _ | refine Ext.alloc ?_ _)
                       intro v8 w8 hown8 hg8 hat8
                       have X8 : Ext ws w8 := Below.grown (Ext.trans X7 (by repeat' (first | exact Ext.refl _ | refine Ext.drew ?_ | refine Ext.drewN ?_ _ | refine Ext.alloc ?_ _))) hg8 (Nat.le_trans X7.size (Ext.size (by repeat' (first | exact Ext.refl _ | refine Ext.drew ?_ | refine Ext.drewN ?_ _ | refine Ext.alloc ?_ _)))) (own_base hown7))
                    | (refine step_append_any _ (by rfl) (.tmp 91) (.tmp 93) _ (by rfl) ws.heap.size 43 i0 _ 2 16 Tryd.underlying28 hi0 hz0 hz1 hz2 rfl (by omega) v7 q _ (by rfl) (own_kept hown7 ?_) _ (some ⟨_, 0, none⟩) 1 1 [.int .i64 pf, .int .i64 pt] (by rfl) (reads_one (RowB.ext (ra7) ?_)) (by intro u hu; simp at hu; rcases hu with rfl | rfl <;> rfl) (by simp only [maxLen]; omega) (by omega) (Nat.le_trans X7.size (Ext.size ?_)) ?_
                       · repeat' (first | exact Ext.refl _ | refine Ext.drew ?_ | refine Ext.drewN ?_ _ | refine Ext.alloc ?_ _)
                       · repeat' (first | exact Ext.refl _ | refine Ext.drew ?_ | refine Ext.drewN ?_ _ | refine Ext.alloc ?_ _)
                       · repeat' (first | exact Ext.refl _ | refine Ext.drew ?_ | refine Ext.drewN ?_ _ | refine Ext.alloc ?_ _)
                       intro v8 w8 hown8 hg8 hat8
                       have X8 : Ext ws w8 := Below.grown (Ext.trans X7 (by repeat' (first | exact Ext.refl _ | refine Ext.drew ?_ | refine Ext.drewN ?_ _ | refine Ext.alloc ?_ _))) hg8 (Nat.le_trans X7.size (Ext.size (by repeat' (first | exact Ext.refl _ | refine Ext.drew ?_ | refine Ext.drewN ?_ _ | refine Ext.alloc ?_ _)))) (own_base hown7))
                    | (refine step_append_any _ (by rfl) (.tmp 87) (.tmp 90) _ (by rfl) ws.heap.size 43 i0 _ 2 16 Tryd.underlying28 hi0 hz0 hz1 hz2 rfl (by omega) (.slice (some ⟨ws.heap.size, 0, none⟩) 0 0) 0 [] (by rfl) (own_kept (World.ownsRow.alloc (owns0 ws (B := ws.heap.size) (Nat.le_refl _) rfl 43 2) (.cells #[.int .i64 pf, .int .i64 pt] 43)) ?_) wi.heap.size (some ⟨gr, 0, none⟩) q cr ((p.1.take q).flatMap rcs2) (by rfl) (HRD.out _ ?_) (r2_one _) (by simp only [maxLen]; omega) (by omega) (by first | (simp; done) | (simp; omega)) ?_
                       · repeat' (first | exact Ext.refl _ | refine Ext.drew ?_ | refine Ext.drewN ?_ _ | refine Ext.alloc ?_ _)
                       · repeat' (first | exact Ext.refl _ | refine Ext.drew ?_ | refine Ext.drewN ?_ _ | refine Ext.alloc ?_ _)
                       intro v7 w7 hown7 hg7 hat7
                       rw [Nat.zero_add, List.nil_append] at hown7
                       have X7 : Ext ws w7 := Below.grown (by repeat' (first | exact Ext.refl _ | refine Ext.drew ?_ | refine Ext.drewN ?_ _ | refine Ext.alloc ?_ _)) hg7 (Ext.size (by repeat' (first | exact Ext.refl _ | refine Ext.drew ?_ | refine Ext.drewN ?_ _ | refine Ext.alloc ?_ _))) (own_ge (by omega))
                       have r70 : w7.cell? ⟨rb, 0, none⟩ = some (.int .i64 pf) := (HRW2.out.ext X7).cell (j := 0) rfl
                       have r71 : w7.cell? ⟨rb, 1, none⟩ = some (.int .i64 pt) := (HRW2.out.ext X7).cell (j := 1) rfl
                       have ra7 : RowB w7 (ws.heap.size + 1) 43 [.int .i64 pf, .int .i64 pt] := RowB.kept (RowB.ext (by simpa using row_laid (ws.alloc (.cells #[] 43)) 43 [.int .i64 pf, .int .i64 pt]) (by repeat' (first | exact Ext.refl _ | refine Ext.drew ?_ | refine Ext.drewN ?_ _ | refine Ext.alloc ?_ _))) (hg7.block _ (by simp) (by simp [Value.ownBlock])))
                    | (refine step_append_any _ (by rfl) (.tmp 87) (.tmp 90) _ (by rfl) ws.heap.size 43 i0 _ 2 16 Tryd.underlying28 hi0 hz0 hz1 hz2 rfl (by omega) (.slice (some ⟨ws.heap.size + 1, 0, none⟩) 0 0) 0 [] (by rfl) (own_kept (owns0 (ws.alloc (.cells #[.int .i64 pf, .int .i64 pt] 43)) (B := ws.heap.size) (by simp) (by simp) 43 2) ?_) wi.heap.size (some ⟨gr, 0, none⟩) q cr ((p.1.take q).flatMap rcs2) (by rfl) (HRD.out _ ?_) (r2_one _) (by simp only [maxLen]; omega) (by omega) (by first | (simp; done) | (simp; omega)) ?_
                       · repeat' (first | exact Ext.refl _ | refine Ext.drew ?_ | refine Ext.drewN ?_ _ | refine Ext.alloc ?_ _)
                       · repeat' (first | exact Ext.refl _ | refine Ext.drew ?_ | refine Ext.drewN ?_ _ | refine Ext.alloc ?_ _)
                       intro v7 w7 hown7 hg7 hat7
                       rw [Nat.zero_add, List.nil_append] at hown7
                       have X7 : Ext ws w7 := Below.grown (by repeat' (first | exact Ext.refl _ | refine Ext.drew ?_ | refine Ext.drewN ?_ _ | refine Ext.alloc ?_ _)) hg7 (Ext.size (by repeat' (first | exact Ext.refl _ | refine Ext.drew ?_ | refine Ext.drewN ?_ _ | refine Ext.alloc ?_ _))) (own_ge (by omega))
                       have r70 : w7.cell? ⟨rb, 0, none⟩ = some (.int .i64 pf) := (HRW2.out.ext X7).cell (j := 0) rfl
                       have r71 : w7.cell? ⟨rb, 1, none⟩ = some (.int .i64 pt) := (HRW2.out.ext X7).cell (j := 1) rfl
                       have ra7 : RowB w7 ws.heap.size 43 [.int .i64 pf, .int .i64 pt] := RowB.kept (RowB.ext (row_laid ws 43 [.int .i64 pf, .int .i64 pt]) (by repeat' (first | exact Ext.refl _ | refine Ext.drew ?_ | refine Ext.drewN ?_ _ | refine Ext.alloc ?_ _))) (hg7.block _ (by simp; omega) (by simp [Value.ownBlock])))
                    | (refine step_append_any _ (by rfl) (.tmp 87) (.tmp 90) _ (by rfl) ws.heap.size 43 i0 _ 2 16 Tryd.underlying28 hi0 hz0 hz1 hz2 rfl (by omega) (.slice (some ⟨ws.heap.size, 0, none⟩) 0 0) 0 [] (by rfl) (own_kept (owns0 ws (B := ws.heap.size) (Nat.le_refl _) rfl 43 2) ?_) wi.heap.size (some ⟨gr, 0, none⟩) q cr ((p.1.take q).flatMap rcs2) (by rfl) (HRD.out _ ?_) (r2_one _) (by simp only [maxLen]; omega) (by omega) (by first | (simp; done) | (simp; omega)) ?_
                       · repeat' (first | exact Ext.refl _ | refine Ext.drew ?_ | refine Ext.drewN ?_ _ | refine Ext.alloc ?_ _)
                       · repeat' (first | exact Ext.refl _ | refine Ext.drew ?_ | refine Ext.drewN ?_ _ | refine Ext.alloc ?_ _)
                       intro v7 w7 hown7 hg7 hat7
                       rw [Nat.zero_add, List.nil_append] at hown7
                       have X7 : Ext ws w7 := Below.grown (by repeat' (first | exact Ext.refl _ | refine Ext.drew ?_ | refine Ext.drewN ?_ _ | refine Ext.alloc ?_ _)) hg7 (Ext.size (by repeat' (first | exact Ext.refl _ | refine Ext.drew ?_ | refine Ext.drewN ?_ _ | refine Ext.alloc ?_ _))) (own_ge (by omega))
                       have r70 : w7.cell? ⟨rb, 0, none⟩ = some (.int .i64 pf) := (HRW2.out.ext X7).cell (j := 0) rfl
                       have r71 : w7.cell? ⟨rb, 1, none⟩ = some (.int .i64 pt) := (HRW2.out.ext X7).cell (j := 1) rfl))
                  all_goals go_wp2_with fail
                  all_goals go_roundw
                  all_goals first
                    | exact ⟨k + 1, by omega, by go_num, HFIN.out _ _ (own_kept hown9 (by repeat' (first | exact Ext.refl _ | refine Ext.drew ?_ | refine Ext.drewN ?_ _ | refine Ext.alloc ?_ _))), (HXX.out.trans X9).trans (by repeat' (first | exact Ext.refl _ | refine Ext.drew ?_ | refine Ext.drewN ?_ _ | refine Ext.alloc ?_ _))⟩
                    | (simp [intOf]; omega)
              · have q1 : decide (q < L) = false := decide_eq_false h1
                have HAT := Lib.hid (show at9 p.1 p.2.1 = q by
                  rw [← HPF.out]
                  exact at9_step hall (fun x hx2 => by
                    exfalso
                    have := (List.getElem?_eq_some_iff.1 hx2).1
                    rw [HLL.out] at this
                    omega) (by rw [HLL.out]; omega))
                clear hall
                go_upto_region 16 with fail
                refine wp_region_quiet_lit (by kernel_rfl) (by kernel_rfl) ?_
                repeat (go_big_quiet_step (fail))
                refine wpQuiet_nil ?_
                rintro _ ⟨nq, rfl⟩
                obtain rfl : q = L := by omega
                clear q1 h1
                have hcq : cr = q ∨ ¬ cr = q := by omega
                obtain ⟨ws, hws⟩ : ∃ ws, ws = wr.drewN nq := ⟨_, rfl⟩
                have XS : Ext wi ws := by rw [hws]; exact hZ.drewN _
                go_upto_region 18 with fail
                rw [← hws]
                have HRW2 := Lib.hid (HRW.out.ext XS)
                have HRD := Lib.hid (fun W (hW : Ext ws W) => show Reads W wi.heap.size 2 Ar q ((p.1.take q).flatMap rcs2) by
                  rcases Nat.eq_zero_or_pos q with h0 | h0
                  · subst h0
                    exact reads_zero
                  · obtain ⟨gr, e, hgl, hgr⟩ := HAR.out h0
                    rw [e]
                    exact reads_take hgr hgl (Ext.trans XS hW) q (by rw [HLL.out]; exact Nat.le_refl _))
                have r0 : ∀ o, (ws.alloc o).cell? ⟨rb, 0, none⟩ = some (.int .i64 pf) := fun o => (HRW2.out.ext ((Ext.refl _).alloc o)).cell (j := 0) rfl
                have r1 : ∀ o, (ws.alloc o).cell? ⟨rb, 1, none⟩ = some (.int .i64 pt) := fun o => (HRW2.out.ext ((Ext.refl _).alloc o)).cell (j := 1) rfl
                have r2 : ws.cell? ⟨rb, 0, none⟩ = some (.int .i64 pf) := HRW2.out.cell (j := 0) rfl
                have r3 : ws.cell? ⟨rb, 1, none⟩ = some (.int .i64 pt) := HRW2.out.cell (j := 1) rfl
                clear b0 b0' b1' hws
                have HXX := Lib.hid ((hX.trans HXW.out).trans XS)
                have HFIN := Lib.hid (fun (W9 : World) (v9 : Value) (h9 : W9.ownsRow ws.heap.size 43 2 v9 (q + 1 + 0) ((p.1.take q).flatMap rcs2 ++ [.int .i64 pf, .int .i64 pt] ++ [])) => show ROwn 43 W9 w.heap.size v9 (mg9 (xs.take (k + 1))) by
                  rw [HE.out]
                  have e : ins9 p = p.1.take q ++ [(pf, pt)] ++ p.1.drop q := by
                    unfold ins9
                    rw [HAT.out, ← HPF.out]
                  have e2 : (p.1.take q ++ [(pf, pt)] ++ p.1.drop q).flatMap rcs2 = (p.1.take q).flatMap rcs2 ++ [.int .i64 pf, .int .i64 pt] ++ [] := by
                    rw [List.flatMap_append, List.flatMap_append]
                    rw [show p.1.drop q = [] from List.drop_eq_nil_of_le (by rw [HLL.out]; exact Nat.le_refl _)]
                    rfl
                  have e3 : (p.1.take q ++ [(pf, pt)] ++ p.1.drop q).length = q + 1 + 0 := by
                    rw [List.length_append, List.length_append, List.length_take, List.length_drop, HLL.out]
                    first | (simp; done) | (simp; omega)
                  unfold ROwn
                  rw [e, e2, e3]
                  exact own_more h9 HXX.out.size)
                go_region_law (first
                  | (refine step_append_any _ (by rfl) (.tmp 94) (.tmp 97) _ (by rfl) ws.heap.size 43 i0 _ 2 16 Tryd.underlying28 hi0 hz0 hz1 hz2 rfl (by omega) v8 (q + 1) _ (by rfl) (own_kept hown8 ?_) 0 _ 0 _ [] (by rfl) reads_zero (by simp) (by simp only [maxLen]; omega) (by omega) (Nat.le_trans X8.size (Ext.size ?_)) ?_
                     · repeat' (first | exact Ext.refl _ | refine Ext.drew ?_ | refine Ext.drewN ?_ _ | refine Ext.alloc ?_ _)
                     · repeat' (first | exact Ext.refl _ | refine Ext.drew ?_ | refine Ext.drewN ?_ _ | refine Ext.alloc ?_ _)
                     intro v9 w9 hown9 hg9 hat9
                     have X9 : Ext ws w9 := Below.grown (Ext.trans X8 (by repeat' (first | exact Ext.refl _ | refine Ext.drew ?_ | refine Ext.drewN ?_ _ | refine Ext.alloc ?_ _))) hg9 (Nat.le_trans X8.size (Ext.size (by repeat' (first | exact Ext.refl _ | refine Ext.drew ?_ | refine Ext.drewN ?_ _ | refine Ext.alloc ?_ _)))) (own_base hown8))
                  | (refine step_append_any _ (by rfl) (.tmp 91) (.tmp 93) _ (by rfl) ws.heap.size 43 i0 _ 2 16 Tryd.underlying28 hi0 hz0 hz1 hz2 rfl (by omega) v7 q _ (by rfl) (own_kept hown7 ?_) _ (some ⟨w7.heap.size, 0, none⟩) 1 1 [.int .i64 pf, .int .i64 pt] (by rfl) (reads_one (RowB.ext (row_laid w7 43 [.int .i64 pf, .int .i64 pt]) ?_)) (by intro u hu; simp at hu; rcases hu with rfl | rfl <;> rfl) (by simp only [maxLen]; omega) (by omega) (Nat.le_trans X7.size (Ext.size ?_)) ?_
                     · repeat' (first | exact Ext.refl _ | refine Ext.drew ?_ | refine Ext.drewN ?_ _ | refine Ext.alloc ?_ _)
                     · repeat' (first | exact Ext.refl _ | refine Ext.drew ?_ | refine Ext.drewN ?_ _ | refine Ext.alloc ?_ _)
                     · repeat' (first | exact Ext.refl _ | refine Ext.drew ?_ | refine Ext.drewN ?_ _ | refine Ext.alloc ?_ _)
                     intro v8 w8 hown8 hg8 hat8
                     have X8 : Ext ws w8 := Below.grown (Ext.trans X7 (by repeat' (first | exact Ext.refl _ | refine Ext.drew ?_ | refine Ext.drewN ?_ _ | refine Ext.alloc ?_ _))) hg8 (Nat.le_trans X7.size (Ext.size (by repeat' (first | exact Ext.refl _ | refine Ext.drew ?_ | refine Ext.drewN ?_ _ | refine Ext.alloc ?_ _)))) (own_base hown7))
                  | (refine step_append_any _ (by rfl) (.tmp 91) (.tmp 93) _ (by rfl) ws.heap.size 43 i0 _ 2 16 Tryd.underlying28 hi0 hz0 hz1 hz2 rfl (by omega) v7 q _ (by rfl) (own_kept hown7 ?_) _ (some ⟨_, 0, none⟩) 1 1 [.int .i64 pf, .int .i64 pt] (by rfl) (reads_one (RowB.ext (ra7) ?_)) (by intro u hu; simp at hu; rcases hu with rfl | rfl <;> rfl) (by simp only [maxLen]; omega) (by omega) (Nat.le_trans X7.size (Ext.size ?_)) ?_
                     · repeat' (first | exact Ext.refl _ | refine Ext.drew ?_ | refine Ext.drewN ?_ _ | refine Ext.alloc ?_ _)
                     · repeat' (first | exact Ext.refl _ | refine Ext.drew ?_ | refine Ext.drewN ?_ _ | refine Ext.alloc ?_ _)
                     · repeat' (first | exact Ext.refl _ | refine Ext.drew ?_ | refine Ext.drewN ?_ _ | refine Ext.alloc ?_ _)
                     intro v8 w8 hown8 hg8 hat8
                     have X8 : Ext ws w8 := Below.grown (Ext.trans X7 (by repeat' (first | exact Ext.refl _ | refine Ext.drew ?_ | refine Ext.drewN ?_ _ | refine Ext.alloc ?_ _))) hg8 (Nat.le_trans X7.size (Ext.size (by repeat' (first | exact Ext.refl _ | refine Ext.drew ?_ | refine Ext.drewN ?_ _ | refine Ext.alloc ?_ _)))) (own_base hown7))
                  | (refine step_append_any _ (by rfl) (.tmp 87) (.tmp 90) _ (by rfl) ws.heap.size 43 i0 _ 2 16 Tryd.underlying28 hi0 hz0 hz1 hz2 rfl (by omega) (.slice (some ⟨ws.heap.size, 0, none⟩) 0 0) 0 [] (by rfl) (own_kept (World.ownsRow.alloc (owns0 ws (B := ws.heap.size) (Nat.le_refl _) rfl 43 2) (.cells #[.int .i64 pf, .int .i64 pt] 43)) ?_) wi.heap.size Ar q cr ((p.1.take q).flatMap rcs2) (by rfl) (HRD.out _ ?_) (r2_one _) (by simp only [maxLen]; omega) (by omega) (by first | (simp; done) | (simp; omega)) ?_
                     · repeat' (first | exact Ext.refl _ | refine Ext.drew ?_ | refine Ext.drewN ?_ _ | refine Ext.alloc ?_ _)
                     · repeat' (first | exact Ext.refl _ | refine Ext.drew ?_ | refine Ext.drewN ?_ _ | refine Ext.alloc ?_ _)
                     intro v7 w7 hown7 hg7 hat7
                     rw [Nat.zero_add, List.nil_append] at hown7
                     have X7 : Ext ws w7 := Below.grown (by repeat' (first | exact Ext.refl _ | refine Ext.drew ?_ | refine Ext.drewN ?_ _ | refine Ext.alloc ?_ _)) hg7 (Ext.size (by repeat' (first | exact Ext.refl _ | refine Ext.drew ?_ | refine Ext.drewN ?_ _ | refine Ext.alloc ?_ _))) (own_ge (by omega))
                     have r70 : w7.cell? ⟨rb, 0, none⟩ = some (.int .i64 pf) := (HRW2.out.ext X7).cell (j := 0) rfl
                     have r71 : w7.cell? ⟨rb, 1, none⟩ = some (.int .i64 pt) := (HRW2.out.ext X7).cell (j := 1) rfl
                     have ra7 : RowB w7 (ws.heap.size + 1) 43 [.int .i64 pf, .int .i64 pt] := RowB.kept (RowB.ext (by simpa using row_laid (ws.alloc (.cells #[] 43)) 43 [.int .i64 pf, .int .i64 pt]) (by repeat' (first | exact Ext.refl _ | refine Ext.drew ?_ | refine Ext.drewN ?_ _ | refine Ext.alloc ?_ _))) (hg7.block _ (by simp) (by simp [Value.ownBlock])))
                  | (refine step_append_any _ (by rfl) (.tmp 87) (.tmp 90) _ (by rfl) ws.heap.size 43 i0 _ 2 16 Tryd.underlying28 hi0 hz0 hz1 hz2 rfl (by omega) (.slice (some ⟨ws.heap.size + 1, 0, none⟩) 0 0) 0 [] (by rfl) (own_kept (owns0 (ws.alloc (.cells #[.int .i64 pf, .int .i64 pt] 43)) (B := ws.heap.size) (by simp) (by simp) 43 2) ?_) wi.heap.size Ar q cr ((p.1.take q).flatMap rcs2) (by rfl) (HRD.out _ ?_) (r2_one _) (by simp only [maxLen]; omega) (by omega) (by first | (simp; done) | (simp; omega)) ?_
                     · repeat' (first | exact Ext.refl _ | refine Ext.drew ?_ | refine Ext.drewN ?_ _ | refine Ext.alloc ?_ _)
                     · repeat' (first | exact Ext.refl _ | refine Ext.drew ?_ | refine Ext.drewN ?_ _ | refine Ext.alloc ?_ _)
                     intro v7 w7 hown7 hg7 hat7
                     rw [Nat.zero_add, List.nil_append] at hown7
                     have X7 : Ext ws w7 := Below.grown (by repeat' (first | exact Ext.refl _ | refine Ext.drew ?_ | refine Ext.drewN ?_ _ | refine Ext.alloc ?_ _)) hg7 (Ext.size (by repeat' (first | exact Ext.refl _ | refine Ext.drew ?_ | refine Ext.drewN ?_ _ | refine Ext.alloc ?_ _))) (own_ge (by omega))
                     have r70 : w7.cell? ⟨rb, 0, none⟩ = some (.int .i64 pf) := (HRW2.out.ext X7).cell (j := 0) rfl
                     have r71 : w7.cell? ⟨rb, 1, none⟩ = some (.int .i64 pt) := (HRW2.out.ext X7).cell (j := 1) rfl
                     have ra7 : RowB w7 ws.heap.size 43 [.int .i64 pf, .int .i64 pt] := RowB.kept (RowB.ext (row_laid ws 43 [.int .i64 pf, .int .i64 pt]) (by repeat' (first | exact Ext.refl _ | refine Ext.drew ?_ | refine Ext.drewN ?_ _ | refine Ext.alloc ?_ _))) (hg7.block _ (by simp; omega) (by simp [Value.ownBlock])))
                  | (refine step_append_any _ (by rfl) (.tmp 87) (.tmp 90) _ (by rfl) ws.heap.size 43 i0 _ 2 16 Tryd.underlying28 hi0 hz0 hz1 hz2 rfl (by omega) (.slice (some ⟨ws.heap.size, 0, none⟩) 0 0) 0 [] (by rfl) (own_kept (owns0 ws (B := ws.heap.size) (Nat.le_refl _) rfl 43 2) ?_) wi.heap.size Ar q cr ((p.1.take q).flatMap rcs2) (by rfl) (HRD.out _ ?_) (r2_one _) (by simp only [maxLen]; omega) (by omega) (by first | (simp; done) | (simp; omega)) ?_
                     · repeat' (first | exact Ext.refl _ | refine Ext.drew ?_ | refine Ext.drewN ?_ _ | refine Ext.alloc ?_ _)
                     · repeat' (first | exact Ext.refl _ | refine Ext.drew ?_ | refine Ext.drewN ?_ _ | refine Ext.alloc ?_ _)
                     intro v7 w7 hown7 hg7 hat7
                     rw [Nat.zero_add, List.nil_append] at hown7
                     have X7 : Ext ws w7 := Below.grown (by repeat' (first | exact Ext.refl _ | refine Ext.drew ?_ | refine Ext.drewN ?_ _ | refine Ext.alloc ?_ _)) hg7 (Ext.size (by repeat' (first | exact Ext.refl _ | refine Ext.drew ?_ | refine Ext.drewN ?_ _ | refine Ext.alloc ?_ _))) (own_ge (by omega))
                     have r70 : w7.cell? ⟨rb, 0, none⟩ = some (.int .i64 pf) := (HRW2.out.ext X7).cell (j := 0) rfl
                     have r71 : w7.cell? ⟨rb, 1, none⟩ = some (.int .i64 pt) := (HRW2.out.ext X7).cell (j := 1) rfl))
                all_goals go_wp2_with fail
                all_goals go_roundw
                all_goals first
                  | exact ⟨k + 1, by omega, by go_num, HFIN.out _ _ (own_kept hown9 (by repeat' (first | exact Ext.refl _ | refine Ext.drew ?_ | refine Ext.drewN ?_ _ | refine Ext.alloc ?_ _))), (HXX.out.trans X9).trans (by repeat' (first | exact Ext.refl _ | refine Ext.drew ?_ | refine Ext.drewN ?_ _ | refine Ext.alloc ?_ _))⟩
                  | (simp [intOf]; omega)
    · obtain rfl : k = n := by omega
      rw [← HN.out, List.take_length] at hown
      go_wp2_with fail
      go_ret
      exact ⟨_, rfl, hX, hown⟩
end Go.Proofs.YteamnofooicbeaaDoor
