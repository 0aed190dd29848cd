/- Chapter 20: the reference's Merge: the walk. -/
import Derived.Test.YtfjpaacanoocmaaPe8
import Derived.Test.YtfjpaacanoocmaaApp
import Derived.Test.YtfjpaacanoocmaaTail
import Derived.Test.YtfjpaacanoocmaaQuiet
import Derived.Deep.RegionHeld3
import Derived.Deep.RegionLaw
import Derived.Deep.DrawnRows
import Derived.Deep.DeepCutAuto
namespace Go.Proofs.Ytfjpaacanoocmaa
open Go.RowKit Go.Deep Go.Sort

set_option maxRecDepth 100000 in
set_option maxHeartbeats 4000000 in
theorem merge9_any {w : World} {v0 : Value} {xs : List (Nat × Nat)} (h : RngIn w v0 xs) (hn : xs.length ≤ 300) (hat : ∀ k r, xs[k]? = some r → ¬ r.2 ≤ r.1 → at9 (in9 (mg9 (xs.take k)) r).1 (in9 (mg9 (xs.take k)) r).2.1 = (in9 (mg9 (xs.take k)) r).1.length) :
    Calls Try.prog 49 #[v0] w fun e w' => ∃ v, e = .returned v ∧ Ext w w' ∧ Rng9 w' w.heap.size v (mg9 xs) := by
  obtain ⟨A, cap, rfl, hcap, hr⟩ := h
  have HATT := Lib.hid hat
  clear hat
  have HML := Lib.hid (fun k => Nat.le_trans (mg9_length (xs.take k)) (by rw [List.length_take]; omega : (xs.take k).length ≤ 300))
  obtain ⟨n, hxn⟩ : ∃ n, xs.length = n := ⟨_, rfl⟩
  have HN := Lib.hid hxn
  rw [hxn] at hn hcap hr ⊢
  clear hxn
  have HR := Lib.hid hr
  clear hr
  obtain ⟨i0, hi0, hz0, hz1, hz2⟩ := info_parts rng9_info
  go_enter Try.func49, Try.ntmps49
  go_wp2_with fail
  go_loopw [3, 11] (fun v i wr => ∃ k : Nat, k ≤ n ∧ i = .int .i64 k ∧ Rng9 wr w.heap.size v (mg9 (xs.take k)) ∧ Ext w wr) (fun _ i _ => n - (intOf i).toNat)
  case atStart => exact ⟨0, by omega, rfl, World.ownsRow_nil _ _ _ _, Ext.refl _⟩
  case round =>
    obtain ⟨k, hk, rfl, hown, hX⟩ := hrel
    by_cases hlt : k < n
    · obtain ⟨g, rfl, hg⟩ := HR.out (by omega)
      have hki : (k : Int) < (n : Int) := by omega
      have hk6 : (k : Int) < 301 := by omega
      have hkc : k < cap := by omega
      obtain ⟨r, hr⟩ : ∃ r, xs[k]? = some r := ⟨_, List.getElem?_eq_getElem (by rw [HN.out]; exact hlt)⟩
      have hcell := hg.ext hX k (by rw [HN.out]; exact hlt)
      rw [hr, Option.getD_some] at hcell
      obtain ⟨c0, c1⟩ := hcell
      have HM := Lib.hid (mg9_take xs k r hr)
      obtain ⟨f, hf⟩ : ∃ f, f = r.1 := ⟨_, rfl⟩
      obtain ⟨t, ht⟩ : ∃ t, t = r.2 := ⟨_, rfl⟩
      have HRE := Lib.hid (show r = (f, t) by rw [hf, ht])
      have HATK := Lib.hid (show ¬ t ≤ f → at9 (in9 (mg9 (xs.take k)) (f, t)).1 (in9 (mg9 (xs.take k)) (f, t)).2.1 = (in9 (mg9 (xs.take k)) (f, t)).1.length from fun h => by have := HATT.out k r hr (by rw [← hf, ← ht]; exact h); rwa [HRE.out] at this)
      rw [← hf] at c0
      rw [← ht] at c1
      clear hr hf ht hg
      obtain ⟨out, hout⟩ : ∃ out, out = mg9 (xs.take k) := ⟨_, rfl⟩
      have HOL := Lib.hid (show out.length ≤ 300 by rw [hout]; exact HML.out k)
      rw [← hout] at hown HM HATK
      clear hout
      have HO := Lib.hid hown
      have hsz := Lib.hid hX.size
      by_cases hft : t ≤ f
      · have q0 : decide (t ≤ f) = true := decide_eq_true hft
        have HE := Lib.hid (show mg9 (xs.take (k + 1)) = out by rw [HM.out, HRE.out]; unfold ms9; rw [if_pos hft])
        clear hft hown
        go_wp2_with fail
        go_roundw
        case rel => exact ⟨k + 1, by omega, by go_num, by rw [HE.out]; exact HO.out.ext ((Ext.refl _).alloc _), hX.alloc _⟩
        case measure => simp [intOf]; omega
      · have q0 : decide (t ≤ f) = false := decide_eq_false hft
        have HATL := Lib.hid (HATK.out hft)
        have HE := Lib.hid (show mg9 (xs.take (k + 1)) = ins9 (in9 out (f, t)) by rw [HM.out, HRE.out]; unfold ms9; rw [if_neg hft])
        clear hft
        obtain ⟨m, hm⟩ : ∃ m, out.length = m := ⟨_, rfl⟩
        have HMM := Lib.hid hm
        have hsh : ∃ Ao co, u3 = .slice Ao m co ∧ m ≤ co ∧ (0 < m → ∃ go, Ao = some ⟨go, 0, none⟩ ∧ RngAt wr go out) := by
          obtain ⟨Ao, co, e, h1, h2⟩ := hown.rngIn
          rw [hm] at e h1 h2
          exact ⟨Ao, co, e, h1, h2⟩
        obtain ⟨Ao, co, rfl, hco, hao⟩ := hsh
        have HAO := Lib.hid hao
        have HHO := Lib.hid hown
        have hm6 : m ≤ 300 := by have := HOL.out; omega
        clear hao hown hm HOL
        go_upto_region 6 with fail
        obtain ⟨w2, hw2⟩ : ∃ w2, w2 = wr.alloc (.cells #[.int .i64 f, .int .i64 t] 67) := ⟨_, rfl⟩
        have HB2 := Lib.hid (show RowB w2 wr.heap.size 67 [.int .i64 f, .int .i64 t] by rw [hw2]; exact RowB.laid _ _ _)
        have X2 : Ext wr w2 := by rw [hw2]; exact (Ext.refl _).alloc _
        rw [← hw2]
        clear hw2 c0 c1
        have c0 := HB2.out.cell (j := 0) rfl
        have c1 := HB2.out.cell (j := 1) rfl
        have hbz : wr.heap.size < w2.heap.size := HB2.out.lt
        obtain ⟨rb, hrb⟩ : ∃ rb, rb = wr.heap.size := ⟨_, rfl⟩
        rw [← hrb] at c0 c1 HB2 hbz ⊢
        have HRB := Lib.hid hrb
        clear hrb
        go_wp2_with fail
        clear c0 c1
        generalize wr = wo at *
        go_loopw [6, 25] (fun v i wr => ∃ j : Nat, j ≤ m ∧ i = .int .i64 j ∧ Rng9 wr w2.heap.size v (in9 (out.take j) (f, t)).1 ∧ RowB wr rb 67 [.int .i64 (in9 (out.take j) (f, t)).2.1, .int .i64 (in9 (out.take j) (f, t)).2.2] ∧ Ext wo wr ∧ w2.heap.size ≤ wr.heap.size) (fun _ i _ => m - (intOf i).toNat)
        case atStart => exact ⟨0, by omega, rfl, World.ownsRow_nil _ _ _ _, HB2.out, X2, Nat.le_refl _⟩
        case round =>
          obtain ⟨j, hj, rfl, hown, hrow, hY, hsz2⟩ := hrel
          obtain ⟨p, hp⟩ : ∃ p, p = in9 (out.take j) (f, t) := ⟨_, rfl⟩
          rw [← hp] at hown hrow
          have HP := Lib.hid hp
          have hpl : p.1.length ≤ 300 := by rw [hp]; exact Nat.le_trans (in9_length _ _) (by rw [List.length_take]; have := HMM.out; omega)
          have HPL := Lib.hid hpl
          clear hp hpl
          by_cases hjm : j < m
          · obtain ⟨go, rfl, hgo⟩ := HAO.out (by omega)
            obtain ⟨x, hx⟩ : ∃ x, out[j]? = some x := ⟨_, List.getElem?_eq_getElem (by rw [HMM.out]; exact hjm)⟩
            have hcell := hgo.ext hY j (by rw [HMM.out]; exact hjm)
            rw [hx, Option.getD_some] at hcell
            obtain ⟨a, ha⟩ : ∃ a, a = x.1 := ⟨_, rfl⟩
            obtain ⟨b, hb⟩ : ∃ b, b = x.2 := ⟨_, rfl⟩
            have HXE := Lib.hid (show x = (a, b) by rw [ha, hb])
            rw [← ha, ← hb] at hcell
            have HST := Lib.hid (in9_take out (f, t) x j hx)
            obtain ⟨pf, hpf⟩ : ∃ pf, pf = p.2.1 := ⟨_, rfl⟩
            obtain ⟨pt, hpt⟩ : ∃ pt, pt = p.2.2 := ⟨_, rfl⟩
            rw [← hpf, ← hpt] at hrow
            have HPE := Lib.hid (And.intro hpf hpt)
            have HOW := Lib.hid hown
            have HRW := Lib.hid hrow
            have HR0 := Lib.hid (show RowB wr rb 67 [.int .i64 p.2.1, .int .i64 p.2.2] by rw [← HPE.out.1, ← HPE.out.2]; exact hrow)
            have hjc : j < co := by omega
            have hj6 : (j : Int) < 301 := by omega
            have d0 : ∀ q, (wr.drewN q).cell? ⟨go, j * 2, none⟩ = some (.int .i64 (a : Nat)) := fun q => ((Ext.refl wr).drewN q).cell hcell.1
            have d1 : ∀ q, (wr.drewN q).cell? ⟨go, j * 2 + 1, none⟩ = some (.int .i64 (b : Nat)) := fun q => ((Ext.refl wr).drewN q).cell hcell.2
            have e0 : ∀ q, (wr.drewN q).cell? ⟨rb, 0, none⟩ = some (.int .i64 (pf : Nat)) := fun q => (HRW.out.ext ((Ext.refl wr).drewN q)).cell (j := 0) rfl
            have e1 : ∀ q, (wr.drewN q).cell? ⟨rb, 1, none⟩ = some (.int .i64 (pt : Nat)) := fun q => (HRW.out.ext ((Ext.refl wr).drewN q)).cell (j := 1) rfl
            have d2 := hcell.1
            have d3 := hcell.2
            clear hgo hx ha hb hpf hpt hcell hown hrow
            by_cases hc : b < pf ∨ pt < a
            · have HN2 := Lib.hid (show in9 (out.take (j + 1)) (f, t) = (p.1 ++ [(a, b)], p.2) by rw [HST.out, ← HP.out]; unfold st9; rw [HXE.out, if_pos (by rw [← HPE.out.1, ← HPE.out.2]; exact hc)])
              by_cases h1 : b < pf
              · have q1 : decide (b < pf) = true := decide_eq_true h1
                clear hc h1
                go_upto_region 11 with fail
                refine wp_region_quiet_lit (by kernel_rfl) (by kernel_rfl) ?_
                repeat (go_big_quiet_step (fail))
                refine wpQuiet_nil ?_
                rintro _ ⟨nq, rfl⟩
                have hsz3 : w2.heap.size ≤ (wr.drewN nq).heap.size := hsz2
                go_wp2_with (at_builtin; refine wpList_append_rng9 (wr.drewN nq) rfl _ _ rfl w2.heap.size a b _ _ (HOW.out.ext ((Ext.refl wr).drewN nq)) rfl rfl rfl rfl rfl (by have := HPL.out; omega) hsz3 ?_)
                intro v' w3 hown' hb
                go_wp2_with fail
                go_roundw
                case rel => exact ⟨j + 1, by omega, by go_num, by rw [HN2.out]; exact hown', by rw [HN2.out]; exact (HR0.out.ext ((Ext.refl wr).drewN nq)).below hb hbz, Below.trans (hY.drewN nq) (Below.mono hb X2.size), Nat.le_trans hsz3 (Below.size hb)⟩
                case measure => simp [intOf]; omega
              · have q1 : decide (b < pf) = false := decide_eq_false h1
                have q2 : decide (pt < a) = true := decide_eq_true (hc.resolve_left h1)
                clear hc h1
                go_upto_region 11 with fail
                refine wp_region_quiet_lit (by kernel_rfl) (by kernel_rfl) ?_
                repeat (go_big_quiet_step (fail))
                refine wpQuiet_nil ?_
                rintro _ ⟨nq, rfl⟩
                have hsz3 : w2.heap.size ≤ (wr.drewN nq).heap.size := hsz2
                go_wp2_with (at_builtin; refine wpList_append_rng9 (wr.drewN nq) rfl _ _ rfl w2.heap.size a b _ _ (HOW.out.ext ((Ext.refl wr).drewN nq)) rfl rfl rfl rfl rfl (by have := HPL.out; omega) hsz3 ?_)
                intro v' w3 hown' hb
                go_wp2_with fail
                go_roundw
                case rel => exact ⟨j + 1, by omega, by go_num, by rw [HN2.out]; exact hown', by rw [HN2.out]; exact (HR0.out.ext ((Ext.refl wr).drewN nq)).below hb hbz, Below.trans (hY.drewN nq) (Below.mono hb X2.size), Nat.le_trans hsz3 (Below.size hb)⟩
                case measure => simp [intOf]; omega
            · have HN2 := Lib.hid (show in9 (out.take (j + 1)) (f, t) = (p.1, (min pf a, max pt b)) by rw [HST.out, ← HP.out]; unfold st9; rw [HXE.out, if_neg (by rw [← HPE.out.1, ← HPE.out.2]; exact hc), ← HPE.out.1, ← HPE.out.2])
              have q1 : decide (b < pf) = false := decide_eq_false (fun h => hc (.inl h))
              have q2 : decide (pt < a) = false := decide_eq_false (fun h => hc (.inr h))
              have hmn : min (pf : Int) (a : Int) = ((min pf a : Nat) : Int) := by omega
              have hmx : max (pt : Int) (b : Int) = ((max pt b : Nat) : Int) := by omega
              obtain ⟨mn, hmn2⟩ : ∃ mn, mn = min pf a := ⟨_, rfl⟩
              obtain ⟨mx, hmx2⟩ : ∃ mx, mx = max pt b := ⟨_, rfl⟩
              rw [← hmn2] at hmn HN2
              rw [← hmx2] at hmx HN2
              clear hc hmn2 hmx2
              have HMN := Lib.hid hmn
              have HMX := Lib.hid hmx
              clear hmn hmx
              go_upto_region 11 with fail
              refine wp_region_quiet_lit (by kernel_rfl) (by kernel_rfl) ?_
              repeat (go_big_quiet_step (fail))
              refine wpQuiet_nil ?_
              rintro _ ⟨nq, rfl⟩
              go_upto_region 13 with fail
              have x0 : ∀ n : Wd (wr.drewN nq), n.val.cell? ⟨go, j * 2, none⟩ = some (.int .i64 (a : Nat)) := fun n => n.ext.cell (d0 nq)
              have x1 : ∀ n : Wd (wr.drewN nq), n.val.cell? ⟨go, j * 2 + 1, none⟩ = some (.int .i64 (b : Nat)) := fun n => n.ext.cell (d1 nq)
              have y0 : ∀ n : Wd (wr.drewN nq), n.val.cell? ⟨rb, 0, none⟩ = some (.int .i64 (pf : Nat)) := fun n => n.ext.cell (e0 nq)
              have y1 : ∀ n : Wd (wr.drewN nq), n.val.cell? ⟨rb, 1, none⟩ = some (.int .i64 (pt : Nat)) := fun n => n.ext.cell (e1 nq)
              have z0 : ∀ n : Wd (wr.drewN nq), n.val.frozen? ⟨rb, 0, none⟩ = false := fun n => ((HRW.out.ext ((Ext.refl wr).drewN nq)).ext n.ext).frozen (j := 0) (by simp)
              have z1 : ∀ n : Wd (wr.drewN nq), n.val.frozen? ⟨rb, 1, none⟩ = false := fun n => ((HRW.out.ext ((Ext.refl wr).drewN nq)).ext n.ext).frozen (j := 1) (by simp)
              refine wp_region_wd_tail 17 (by kernel_rfl) (by kernel_rfl) ?_
              simp only [List.take_succ_cons, List.take_zero, List.drop_succ_cons, List.drop_zero]
              repeat (first | go_big_quiet_step (fail) | (refine wpQuiet_max rfl _ _ _ rfl .i64 .i64 (pt : Int) (b : Int) rfl rfl ?_; rw [HMX.out]; simp only [Act.put, List.setIfInBounds_toArray, List.set_cons_succ, List.set_cons_zero]) | (refine wpQuiet_min rfl _ _ _ rfl .i64 .i64 (pf : Int) (a : Int) rfl rfl ?_; rw [HMN.out]; simp only [Act.put, List.setIfInBounds_toArray, List.set_cons_succ, List.set_cons_zero]))
              refine wpQuiet_nil ?_
              rintro _ ⟨n2, rfl⟩
              go_wp2_with fail
              go_roundw
              case rel => exact ⟨j + 1, by omega, by go_num, by rw [HN2.out]; exact own_other (own_other ((HOW.out.ext ((Ext.refl wr).drewN nq)).ext n2.ext) hbz _) hbz _, by rw [HN2.out, HMN.out, HMX.out]; exact ((((HRW.out.ext ((Ext.refl wr).drewN nq)).ext n2.ext).set 0 _ (by simp)).set 1 _ (by simp)), (((hY.drewN nq).trans n2.ext).setCell (by have := HRB.out; show wo.heap.size ≤ rb; omega) _).setCell (by have := HRB.out; show wo.heap.size ≤ rb; omega) _, by have := n2.ext.size; simp at this ⊢; omega⟩
              case measure => simp [intOf]; omega
          · obtain rfl : j = m := by omega
            have HPE := Lib.hid (show p = in9 out (f, t) by rw [HP.out, ← HMM.out, List.take_length])
            rw [← HPE.out] at HE HATL
            obtain ⟨pf, hpf⟩ : ∃ pf, pf = p.2.1 := ⟨_, rfl⟩
            obtain ⟨pt, hpt⟩ : ∃ pt, pt = p.2.2 := ⟨_, rfl⟩
            rw [← hpf, ← hpt] at hrow
            have HPF := Lib.hid (And.intro hpf hpt)
            obtain ⟨L, hL⟩ : ∃ L, p.1.length = L := ⟨_, rfl⟩
            have hsh : ∃ Ar cr, u6 = .slice Ar L cr ∧ L ≤ cr ∧ (0 < L → ∃ gr, Ar = some ⟨gr, 0, none⟩ ∧ gr < wr.heap.size ∧ RngAt wr gr p.1) := by
              rcases hown.shape with ⟨e1, e2⟩ | ⟨gr, cr, e1, h1, h2, h3, h4⟩
              · have : L = 0 := by rw [← hL, e2]; rfl
                exact ⟨none, 0, by rw [e1, this], by omega, fun h0 => by omega⟩
              · exact ⟨_, cr, by rw [e1, hL], by omega, fun _ => ⟨gr, rfl, h3, h4⟩⟩
            obtain ⟨Ar, cr, rfl, hLc, har⟩ := hsh
            have HAR := Lib.hid har
            have HLL := Lib.hid hL
            have hL6 : L ≤ 300 := by have := HPL.out; omega
            have HRW := Lib.hid hrow
            have HXW := Lib.hid hY
            clear har hL hpf hpt hown hrow HPL
            go_wp2_with fail
            generalize wr = wi at *
            go_loopw [8] (fun i wr => ∃ q : Nat, q ≤ L ∧ i = .int .i64 q ∧ (∀ z, z < q → ∀ x, p.1[z]? = some x → x.1 < pf) ∧ Ext wi wr) (fun i _ => L - (intOf i).toNat)
            case atStart => exact ⟨0, by omega, rfl, fun z hz => by omega, Ext.refl _⟩
            case round =>
              obtain ⟨q, hq, rfl, hall, hZ⟩ := hrel
              have b0 : ∀ n, (wr.drewN n).cell? ⟨rb, 0, none⟩ = some (.int .i64 (pf : Nat)) := fun n => (HRW.out.ext (hZ.drewN n)).cell (j := 0) rfl
              have b0' : wr.cell? ⟨rb, 0, none⟩ = some (.int .i64 (pf : Nat)) := (HRW.out.ext hZ).cell (j := 0) rfl
              have b1' : wr.cell? ⟨rb, 1, none⟩ = some (.int .i64 (pt : Nat)) := (HRW.out.ext hZ).cell (j := 1) rfl
              have hq6 : (q : Int) < 301 := by omega
              by_cases hgo : q < L ∧ (((p.1[q]?).getD (0, 0)).1 < pf)
              · obtain ⟨h1, h2⟩ := hgo
                obtain ⟨gr, rfl, hgl, hgr⟩ := HAR.out (by omega)
                obtain ⟨x, hx⟩ : ∃ x, p.1[q]? = some x := ⟨_, List.getElem?_eq_getElem (by rw [HLL.out]; exact h1)⟩
                have hcell := hgr.ext hZ q (by rw [HLL.out]; exact h1)
                rw [hx, Option.getD_some] at h2 hcell
                obtain ⟨a, ha⟩ : ∃ a, a = x.1 := ⟨_, rfl⟩
                rw [← ha] at h2 hcell
                have x0 : ∀ n, (wr.drewN n).cell? ⟨gr, q * 2, none⟩ = some (.int .i64 (a : Nat)) := fun n => ((Ext.refl wr).drewN n).cell hcell.1
                have q1 : decide (q < L) = true := decide_eq_true h1
                have q2 : decide (a < pf) = true := decide_eq_true h2
                have hqc : q < cr := by omega
                have HNX : ∀ z, z < q + 1 → ∀ x, p.1[z]? = some x → x.1 < pf := by
                  intro z hz y hy
                  by_cases e : z = q
                  · subst e
                    rw [hx] at hy
                    obtain rfl := Option.some.inj hy
                    rw [← ha]; exact h2
                  · exact hall z (by omega) y hy
                have HNN := Lib.hid HNX
                clear hx ha hcell h2 hgr hall HNX b0' b1'
                go_upto_region 16 with fail
                refine wp_region_quiet_lit (by kernel_rfl) (by kernel_rfl) ?_
                repeat (go_big_quiet_step (fail))
                refine wpQuiet_nil ?_
                rintro _ ⟨nq, rfl⟩
                go_wp2_with fail
                go_roundw
                case rel => exact ⟨q + 1, by omega, by go_num, HNN.out, hZ.drewN _⟩
                case measure => simp [intOf]; omega
              · have HAT := Lib.hid (show at9 p.1 p.2.1 = q by
                  rw [← HPF.out.1]
                  exact at9_step hall (fun x hx => by
                    have hqL : q < L := by rw [← HLL.out]; exact (List.getElem?_eq_some_iff.1 hx).1
                    have := fun h => hgo ⟨hqL, h⟩
                    rw [hx] at this
                    simp at this; omega) (by rw [HLL.out]; exact hq))
                have hcs : ¬ q < L ∨ (q < L ∧ ¬ ((p.1[q]?).getD (0, 0)).1 < pf) := by
                  by_cases h1 : q < L
                  · exact .inr ⟨h1, fun h => hgo ⟨h1, h⟩⟩
                  · exact .inl h1
                clear hgo hall
                rcases hcs with h1 | ⟨h1, h2⟩
                · have q1 : decide (q < L) = false := decide_eq_false h1
                  go_upto_region 16 with fail
                  refine wp_region_quiet_lit (by kernel_rfl) (by kernel_rfl) ?_
                  repeat (go_big_quiet_step (fail))
                  refine wpQuiet_nil ?_
                  rintro _ ⟨nq, rfl⟩
                  obtain rfl : q = L := by omega
                  have hcq : cr = q ∨ ¬ cr = q := by omega
                  obtain ⟨ws, hws⟩ : ∃ ws, ws = wr.drewN nq := ⟨_, rfl⟩
                  have XS : Ext wi ws := by rw [hws]; exact hZ.drewN _
                  have XR : Ext wr ws := by rw [hws]; exact (Ext.refl wr).drewN _
                  go_upto_region 18 with fail
                  rw [← hws]
                  have HRW2 := Lib.hid (HRW.out.ext XS)
                  have HRD := Lib.hid (fun W (hW : Ext ws W) => show Reads W wi.heap.size 2 Ar q (rcs p.1) by
                    rcases Nat.eq_zero_or_pos q with h0 | h0
                    · have e : p.1 = [] := List.eq_nil_of_length_eq_zero (by rw [HLL.out]; exact h0)
                      rw [e, h0]; exact reads_zero
                    · obtain ⟨gr, e, hgl, hgr⟩ := HAR.out h0
                      have := reads_rng (hgr.ext (XS.trans hW)) hgl
                      rw [HLL.out] at this
                      rw [e]; exact this)
                  have r0 : ∀ o, (ws.alloc o).cell? ⟨rb, 0, none⟩ = some (.int .i64 (pf : Nat)) := fun o => (HRW2.out.ext ((Ext.refl _).alloc o)).cell (j := 0) rfl
                  have r1 : ∀ o, (ws.alloc o).cell? ⟨rb, 1, none⟩ = some (.int .i64 (pt : Nat)) := fun o => (HRW2.out.ext ((Ext.refl _).alloc o)).cell (j := 1) rfl
                  have r2 : ws.cell? ⟨rb, 0, none⟩ = some (.int .i64 (pf : Nat)) := HRW2.out.cell (j := 0) rfl
                  have r3 : ws.cell? ⟨rb, 1, none⟩ = some (.int .i64 (pt : Nat)) := HRW2.out.cell (j := 1) rfl
                  clear b0 b0' b1' hws q1 h1
                  have HXX := Lib.hid ((hX.trans HXW.out).trans XS)
                  have HFIN := Lib.hid (fun (W9 : World) (v9 : Value) (h9 : W9.ownsRow ws.heap.size 67 2 v9 (q + 1 + 0) (rcs p.1 ++ [.int .i64 (pf : Nat), .int .i64 (pt : Nat)] ++ [])) => show Rng9 W9 w.heap.size v9 (mg9 (xs.take (k + 1))) by
                    rw [HE.out]
                    have e : ins9 p = p.1 ++ [(pf, pt)] := by
                      unfold ins9
                      rw [HAT.out, ← HLL.out, List.take_length, List.drop_length, List.append_nil, HPF.out.1, HPF.out.2]
                    have e2 : rcs (p.1 ++ [(pf, pt)]) = rcs p.1 ++ [.int .i64 (pf : Nat), .int .i64 (pt : Nat)] ++ [] := by rw [rcs_append, List.append_nil]; rfl
                    have e3 : (p.1 ++ [(pf, pt)]).length = q + 1 + 0 := by rw [List.length_append, HLL.out]; rfl
                    unfold Rng9
                    rw [e, e2, e3]
                    exact own_more h9 HXX.out.size)
                  go_region_law (first
                    | (refine step_append_any _ (by rfl) (.tmp 94) (.tmp 97) _ (by rfl) ws.heap.size 67 i0 _ 2 16 Try.underlying93 hi0 hz0 hz1 hz2 rfl (by omega) v8 (q + 1) _ (by rfl) (own_ext hown8 ?_) 0 _ 0 _ [] (by rfl) reads_zero (by simp) (by simp only [maxLen]; omega) (by omega) (Nat.le_trans X8.size (Ext.size ?_)) ?_
                       · repeat' (first | exact Ext.refl _ | refine Ext.drew ?_ | refine Ext.drewN ?_ _ | refine Ext.alloc ?_ _)
                       · repeat' (first | exact Ext.refl _ | refine Ext.drew ?_ | refine Ext.drewN ?_ _ | refine Ext.alloc ?_ _)
                       intro v9 w9 hown9 hg9 hat9
                       have X9 : Ext ws w9 := Below.grown (Ext.trans X8 (by repeat' (first | exact Ext.refl _ | refine Ext.drew ?_ | refine Ext.drewN ?_ _ | refine Ext.alloc ?_ _))) hg9 (Nat.le_trans X8.size (Ext.size (by repeat' (first | exact Ext.refl _ | refine Ext.drew ?_ | refine Ext.drewN ?_ _ | refine Ext.alloc ?_ _)))) (own_base hown8))
                    | (refine step_append_any _ (by rfl) (.tmp 91) (.tmp 93) _ (by rfl) ws.heap.size 67 i0 _ 2 16 Try.underlying93 hi0 hz0 hz1 hz2 rfl (by omega) v7 q _ (by rfl) (own_ext hown7 ?_) _ (some ⟨w7.heap.size, 0, none⟩) 1 1 [.int .i64 (pf : Nat), .int .i64 (pt : Nat)] (by rfl) (reads_one (RowB.ext (RowB.laid w7 67 [.int .i64 (pf : Nat), .int .i64 (pt : Nat)]) ?_)) (by intro u hu; simp at hu; rcases hu with rfl | rfl <;> rfl) (by simp only [maxLen]; omega) (by omega) (Nat.le_trans X7.size (Ext.size ?_)) ?_
                       · repeat' (first | exact Ext.refl _ | refine Ext.drew ?_ | refine Ext.drewN ?_ _ | refine Ext.alloc ?_ _)
                       · repeat' (first | exact Ext.refl _ | refine Ext.drew ?_ | refine Ext.drewN ?_ _ | refine Ext.alloc ?_ _)
                       · repeat' (first | exact Ext.refl _ | refine Ext.drew ?_ | refine Ext.drewN ?_ _ | refine Ext.alloc ?_ _)
                       intro v8 w8 hown8 hg8 hat8
                       have X8 : Ext ws w8 := Below.grown (Ext.trans X7 (by repeat' (first | exact Ext.refl _ | refine Ext.drew ?_ | refine Ext.drewN ?_ _ | refine Ext.alloc ?_ _))) hg8 (Nat.le_trans X7.size (Ext.size (by repeat' (first | exact Ext.refl _ | refine Ext.drew ?_ | refine Ext.drewN ?_ _ | refine Ext.alloc ?_ _)))) (own_base hown7))
                    | (refine step_append_any _ (by rfl) (.tmp 91) (.tmp 93) _ (by rfl) ws.heap.size 67 i0 _ 2 16 Try.underlying93 hi0 hz0 hz1 hz2 rfl (by omega) v7 q _ (by rfl) (own_ext hown7 ?_) _ (some ⟨_, 0, none⟩) 1 1 [.int .i64 (pf : Nat), .int .i64 (pt : Nat)] (by rfl) (reads_one (RowB.ext (ra7) ?_)) (by intro u hu; simp at hu; rcases hu with rfl | rfl <;> rfl) (by simp only [maxLen]; omega) (by omega) (Nat.le_trans X7.size (Ext.size ?_)) ?_
                       · repeat' (first | exact Ext.refl _ | refine Ext.drew ?_ | refine Ext.drewN ?_ _ | refine Ext.alloc ?_ _)
                       · repeat' (first | exact Ext.refl _ | refine Ext.drew ?_ | refine Ext.drewN ?_ _ | refine Ext.alloc ?_ _)
                       · repeat' (first | exact Ext.refl _ | refine Ext.drew ?_ | refine Ext.drewN ?_ _ | refine Ext.alloc ?_ _)
                       intro v8 w8 hown8 hg8 hat8
                       have X8 : Ext ws w8 := Below.grown (Ext.trans X7 (by repeat' (first | exact Ext.refl _ | refine Ext.drew ?_ | refine Ext.drewN ?_ _ | refine Ext.alloc ?_ _))) hg8 (Nat.le_trans X7.size (Ext.size (by repeat' (first | exact Ext.refl _ | refine Ext.drew ?_ | refine Ext.drewN ?_ _ | refine Ext.alloc ?_ _)))) (own_base hown7))
                    | (refine step_append_any _ (by rfl) (.tmp 87) (.tmp 90) _ (by rfl) ws.heap.size 67 i0 _ 2 16 Try.underlying93 hi0 hz0 hz1 hz2 rfl (by omega) (.slice (some ⟨ws.heap.size, 0, none⟩) 0 0) 0 [] (by rfl) (own_ext (World.ownsRow.alloc (owns0 ws (B := ws.heap.size) (Nat.le_refl _) rfl 67 2) (.cells #[.int .i64 (pf : Nat), .int .i64 (pt : Nat)] 67)) ?_) wi.heap.size Ar q cr (rcs p.1) (by rfl) (HRD.out _ ?_) (rcs_one _) (by simp only [maxLen]; omega) (by omega) (by first | (simp; done) | (simp; omega)) ?_
                       · repeat' (first | exact Ext.refl _ | refine Ext.drew ?_ | refine Ext.drewN ?_ _ | refine Ext.alloc ?_ _)
                       · repeat' (first | exact Ext.refl _ | refine Ext.drew ?_ | refine Ext.drewN ?_ _ | refine Ext.alloc ?_ _)
                       intro v7 w7 hown7 hg7 hat7
                       rw [Nat.zero_add, List.nil_append] at hown7
                       have X7 : Ext ws w7 := Below.grown (by repeat' (first | exact Ext.refl _ | refine Ext.drew ?_ | refine Ext.drewN ?_ _ | refine Ext.alloc ?_ _)) hg7 (Ext.size (by repeat' (first | exact Ext.refl _ | refine Ext.drew ?_ | refine Ext.drewN ?_ _ | refine Ext.alloc ?_ _))) (own_ge (by omega))
                       have r70 : w7.cell? ⟨rb, 0, none⟩ = some (.int .i64 (pf : Nat)) := (HRW2.out.ext X7).cell (j := 0) rfl
                       have r71 : w7.cell? ⟨rb, 1, none⟩ = some (.int .i64 (pt : Nat)) := (HRW2.out.ext X7).cell (j := 1) rfl
                       have ra7 : RowB w7 (ws.heap.size + 1) 67 [.int .i64 (pf : Nat), .int .i64 (pt : Nat)] := RowB.kept (RowB.ext (by simpa using RowB.laid (ws.alloc (.cells #[] 67)) 67 [.int .i64 (pf : Nat), .int .i64 (pt : Nat)]) (by repeat' (first | exact Ext.refl _ | refine Ext.drew ?_ | refine Ext.drewN ?_ _ | refine Ext.alloc ?_ _))) (hg7.block _ (by simp) (by simp [Value.ownBlock])))
                    | (refine step_append_any _ (by rfl) (.tmp 87) (.tmp 90) _ (by rfl) ws.heap.size 67 i0 _ 2 16 Try.underlying93 hi0 hz0 hz1 hz2 rfl (by omega) (.slice (some ⟨ws.heap.size + 1, 0, none⟩) 0 0) 0 [] (by rfl) (own_ext (owns0 (ws.alloc (.cells #[.int .i64 (pf : Nat), .int .i64 (pt : Nat)] 67)) (B := ws.heap.size) (by simp) (by simp) 67 2) ?_) wi.heap.size Ar q cr (rcs p.1) (by rfl) (HRD.out _ ?_) (rcs_one _) (by simp only [maxLen]; omega) (by omega) (by first | (simp; done) | (simp; omega)) ?_
                       · repeat' (first | exact Ext.refl _ | refine Ext.drew ?_ | refine Ext.drewN ?_ _ | refine Ext.alloc ?_ _)
                       · repeat' (first | exact Ext.refl _ | refine Ext.drew ?_ | refine Ext.drewN ?_ _ | refine Ext.alloc ?_ _)
                       intro v7 w7 hown7 hg7 hat7
                       rw [Nat.zero_add, List.nil_append] at hown7
                       have X7 : Ext ws w7 := Below.grown (by repeat' (first | exact Ext.refl _ | refine Ext.drew ?_ | refine Ext.drewN ?_ _ | refine Ext.alloc ?_ _)) hg7 (Ext.size (by repeat' (first | exact Ext.refl _ | refine Ext.drew ?_ | refine Ext.drewN ?_ _ | refine Ext.alloc ?_ _))) (own_ge (by omega))
                       have r70 : w7.cell? ⟨rb, 0, none⟩ = some (.int .i64 (pf : Nat)) := (HRW2.out.ext X7).cell (j := 0) rfl
                       have r71 : w7.cell? ⟨rb, 1, none⟩ = some (.int .i64 (pt : Nat)) := (HRW2.out.ext X7).cell (j := 1) rfl
                       have ra7 : RowB w7 ws.heap.size 67 [.int .i64 (pf : Nat), .int .i64 (pt : Nat)] := RowB.kept (RowB.ext (RowB.laid ws 67 [.int .i64 (pf : Nat), .int .i64 (pt : Nat)]) (by repeat' (first | exact Ext.refl _ | refine Ext.drew ?_ | refine Ext.drewN ?_ _ | refine Ext.alloc ?_ _))) (hg7.block _ (by simp; omega) (by simp [Value.ownBlock])))
                    | (refine step_append_any _ (by rfl) (.tmp 87) (.tmp 90) _ (by rfl) ws.heap.size 67 i0 _ 2 16 Try.underlying93 hi0 hz0 hz1 hz2 rfl (by omega) (.slice (some ⟨ws.heap.size, 0, none⟩) 0 0) 0 [] (by rfl) (own_ext (owns0 ws (B := ws.heap.size) (Nat.le_refl _) rfl 67 2) ?_) wi.heap.size Ar q cr (rcs p.1) (by rfl) (HRD.out _ ?_) (rcs_one _) (by simp only [maxLen]; omega) (by omega) (by first | (simp; done) | (simp; omega)) ?_
                       · repeat' (first | exact Ext.refl _ | refine Ext.drew ?_ | refine Ext.drewN ?_ _ | refine Ext.alloc ?_ _)
                       · repeat' (first | exact Ext.refl _ | refine Ext.drew ?_ | refine Ext.drewN ?_ _ | refine Ext.alloc ?_ _)
                       intro v7 w7 hown7 hg7 hat7
                       rw [Nat.zero_add, List.nil_append] at hown7
                       have X7 : Ext ws w7 := Below.grown (by repeat' (first | exact Ext.refl _ | refine Ext.drew ?_ | refine Ext.drewN ?_ _ | refine Ext.alloc ?_ _)) hg7 (Ext.size (by repeat' (first | exact Ext.refl _ | refine Ext.drew ?_ | refine Ext.drewN ?_ _ | refine Ext.alloc ?_ _))) (own_ge (by omega))
                       have r70 : w7.cell? ⟨rb, 0, none⟩ = some (.int .i64 (pf : Nat)) := (HRW2.out.ext X7).cell (j := 0) rfl
                       have r71 : w7.cell? ⟨rb, 1, none⟩ = some (.int .i64 (pt : Nat)) := (HRW2.out.ext X7).cell (j := 1) rfl))
                  all_goals go_wp2_with fail
                  all_goals go_roundw
                  all_goals first
                    | exact ⟨k + 1, by omega, by go_num, HFIN.out _ _ (own_ext hown9 (by repeat' (first | exact Ext.refl _ | refine Ext.drew ?_ | refine Ext.drewN ?_ _ | refine Ext.alloc ?_ _))), (HXX.out.trans X9).trans (by repeat' (first | exact Ext.refl _ | refine Ext.drew ?_ | refine Ext.drewN ?_ _ | refine Ext.alloc ?_ _))⟩
                    | (simp [intOf]; omega)
                · exfalso
                  have := HATL.out
                  rw [HAT.out, HLL.out] at this
                  omega
    · obtain rfl : k = n := by omega
      rw [← HN.out, List.take_length] at hown
      go_wp2_with fail
      go_ret
      exact ⟨_, rfl, hX, hown⟩
end Go.Proofs.Ytfjpaacanoocmaa
