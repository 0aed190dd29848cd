/- Chapter 23: package flashlog: write. Chapter 23: package flashlog: Put, Delete. -/
import Derived.Test.YtepigkjgjlibcaaGAN
namespace Go.Proofs.Ytepigkjgjlibcaa
open Go.RowKit Go.Deep Go.Proofs.Ytepigkjgjlibcaa.FL
set_option maxRecDepth 100000
theorem young_mem {L : Log} {fs : List Nat} (h : fs ≠ []) : youngestF L fs ∈ fs := by
  cases fs with
  | nil => exact absurd rfl h
  | cons f r =>
    rw [youngestF_eq]
    have go : ∀ (r : List Nat) (f : Nat), r.foldl (yStep L) f = f ∨ r.foldl (yStep L) f ∈ r := by
      intro r
      induction r with
      | nil => intro f; exact .inl rfl
      | cons x r ih =>
        intro f
        rw [List.foldl_cons]
        rcases ih (yStep L f x) with h1 | h1
        · rw [h1]
          unfold yStep
          split
          · exact .inr (List.mem_cons_self ..)
          · exact .inl rfl
        · exact .inr (List.mem_cons_of_mem _ h1)
    rcases go r f with h1 | h1
    · rw [h1]; exact List.mem_cons_self ..
    · exact List.mem_cons_of_mem _ h1
theorem free_lt {L : Log} {i : Nat} (h : i ∈ freeF L) : i < L.blocks.length ∧ ∃ b, L.blocks[i]? = some b ∧ b.next = 0 := by
  rw [freeF_eq] at h
  obtain ⟨h1, h2⟩ := List.mem_filter.1 h
  rw [List.mem_range] at h1
  unfold freeP at h2
  rw [List.getElem?_eq_getElem h1] at h2
  exact ⟨h1, _, List.getElem?_eq_getElem h1, of_decide_eq_true h2⟩
theorem free_len (L : Log) : (freeF L).length ≤ L.blocks.length := by
  rw [freeF_eq]
  have := List.length_filter_le (freeP L) (List.range L.blocks.length)
  rw [List.length_range] at this
  exact this
/-- what write does if the open block has no room -/
def writeG (L : Log) (e : Ent) (k : Nat) (key : Bs) : Nat × Log :=
  if 1099511627776 < L.segment ∨ freeF L = [] then (10, L) else
  if 2 ≤ (freeF L).length then programF { beginF L (youngestF L (freeF L)) with number := L.number + 1 } e else
  match victimF L key with
  | none => (10, L)
  | some (i, n) => if (L.d.npages : Int) - k < n then (10, L) else cleanF L i ((freeF L).headD 0) e
theorem writeF_far {L : Log} (kind : Nat) (key value : Bs) (h : 1099511627776 < L.number) : writeF L kind key value = (10, L) := by
  unfold writeF
  simp only
  rw [if_pos h]
theorem writeF_room {L : Log} (kind : Nat) (key value : Bs) (h : ¬ 1099511627776 < L.number) (h2 : 0 ≤ L.open_ ∧ ((partsF key value).length : Int) ≤ openRoom L) : writeF L kind key value = programF { L with number := L.number + 1 } ⟨kind, L.number, 0, 0, key, value⟩ := by
  unfold writeF
  simp only
  rw [if_neg h, if_pos h2]
theorem writeF_rest {L : Log} (kind : Nat) (key value : Bs) (h : ¬ 1099511627776 < L.number) (h2 : ¬ (0 ≤ L.open_ ∧ ((partsF key value).length : Int) ≤ openRoom L)) : writeF L kind key value = writeG L ⟨kind, L.number, 0, 0, key, value⟩ (partsF key value).length key := by
  unfold writeF writeG
  simp only
  rw [if_neg h, if_neg h2]
  rfl
set_option maxHeartbeats 16000000 in
theorem write_any {w : World} {S SD : Nat → Prop} {l : Nat} {F : LogF} {G : DevF} {L : Log} (h : LogAtF w S l F SD G L) (hi : LogInv L) {kind : Nat} {key value : Bs} (hk : kind = 1 ∨ kind = 2) (hky : 1 ≤ key.length ∧ key.length ≤ 2048) (hvl : value.length ≤ 16384) {v : Value} (hv : BS w v value) (hpd : L.d.pending.length ≤ 800000) :
    Calls Try.prog 39 #[.pointer (some ⟨l, 0, none⟩), .int .i64 kind, .string (st key), v] w fun e' w' => e' = .returned (codeV (writeF L kind key value).1) ∧ LogStep w w' S l F.dv (writeF L kind key value).2 := by
  obtain ⟨A, c, rfl, -, -⟩ := hv.slice
  have hb0 : 0 < L.blocks.length := by have := hi.wf.nb.1; omega
  obtain ⟨g, cb, hlv⟩ := h.v hb0
  have H := Lib.hid h
  have HI := Lib.hid hi
  have HLV := Lib.hid hlv
  have HV := Lib.hid hv
  have HA := Lib.hid (And.intro hk (And.intro hky (And.intro hvl hpd)))
  obtain ⟨nm, hnm⟩ : ∃ z, z = L.number := ⟨_, rfl⟩
  obtain ⟨k, hkk⟩ : ∃ z, z = (partsF key value).length := ⟨_, rfl⟩
  obtain ⟨np, hnp⟩ : ∃ z, z = L.d.npages := ⟨_, rfl⟩
  obtain ⟨sg, hsg⟩ : ∃ z, z = L.segment := ⟨_, rfl⟩
  obtain ⟨op, hop⟩ : ∃ z, z = L.open_ := ⟨_, rfl⟩
  have HE := Lib.hid (And.intro hnm (And.intro hkk (And.intro hnp (And.intro hsg hop))))
  have c3 := h.row.cell (j := 3) rfl
  rw [← hnm] at c3
  obtain ⟨w1, hw1⟩ : ∃ z, z = w.alloc (.cells #[.int .i64 kind, .int .i64 nm, .int .i64 0, .int .i64 0, .string (st key), .slice A value.length c] 90) := ⟨_, rfl⟩
  have HX1 := Lib.hid (show Ext w w1 by rw [hw1]; exact (Ext.refl w).alloc _)
  have HR1 : Hid (RowB w1 w.heap.size 90 [.int .i64 kind, .int .i64 nm, .int .i64 0, .int .i64 0, .string (st key), .slice A value.length c]) := Lib.hid (by rw [hw1]; exact row_laid w _ _)
  have HPT := Lib.hid (parts_any (hv.ext HX1.out) (by omega : key.length + value.length ≤ 100000) kind nm 0 0)
  have hk40 : k ≤ 39 := by
    rw [hkk, partsF_len]
    have h2 : (numF key.length).length ≤ 2 := numF_small2 (k := 1) (by omega)
    omega
  have hnp32 : np ≤ 32 := by rw [hnp]; exact hi.wf.np.2
  clear h hi hk hky hvl hv hpd hlv hb0 hnm hkk hnp hsg hop
  go_enter Try.func39, Try.ntmps39
  go_upto_region 2 with fail
  rw [← hw1]
  clear hw1 c3
  have e0 := HR1.out.cell (j := 0) rfl
  have e1 := HR1.out.cell (j := 1) rfl
  have e2 := HR1.out.cell (j := 2) rfl
  have e3 := HR1.out.cell (j := 3) rfl
  have e4 := HR1.out.cell (j := 4) rfl
  have e5 := HR1.out.cell (j := 5) rfl
  go_upto_region 3 with (go_at_call 42; refine HPT.out.mono ?_; rintro e' w2 ⟨v2, rfl, hx2, hp2⟩; obtain ⟨A2, c2, rfl⟩ := hp2.slice; have HX2 := Lib.hid (HX1.out.trans hx2); have HR2 := Lib.hid (HR1.out.ext hx2); clear hx2 hp2)
  rw [← HE.out.2.1]
  clear e0 e1 e2 e3 e4 e5 HPT
  have c3 := (H.out.ext HX2.out).row.cell (j := 3) rfl
  rw [← HE.out.1] at c3
  by_cases hfar : 1099511627776 < nm
  · have HF := Lib.hid (writeF_far kind key value (L := L) (by rw [← HE.out.1]; exact hfar))
    have hf2 : (1099511627776 : Int) < (nm : Int) := by omega
    clear hfar
    go_wp2_with fail
    go_ret
    rw [HF.out]
    exact ⟨rfl, LogStep.pre HX2.out (LogStep.same ⟨_, _, _, rfl, H.out.ext HX2.out⟩)⟩
  · have HNF := Lib.hid (show ¬ 1099511627776 < L.number by rw [← HE.out.1]; exact hfar)
    have hf2 : ¬ (1099511627776 : Int) < (nm : Int) := by omega
    have hnm1 : nm ≤ 1099511627776 := by omega
    clear hfar
    have d2 := (H.out.ext HX2.out).row.cell (j := 2) rfl
    rw [← HE.out.2.2.2.2] at d2
    go_upto_region 5 with fail
    clear c3
    by_cases hop0 : 0 ≤ op
    · obtain ⟨o, rfl⟩ : ∃ o : Nat, op = (o : Int) := ⟨op.toNat, by omega⟩
      have hol : (o : Int) < (L.blocks.length : Int) := by have := HI.out.wf.op.2; have := HE.out.2.2.2.2; omega
      obtain ⟨b, hb⟩ : ∃ b, L.blocks[o]? = some b := ⟨_, List.getElem?_eq_getElem (by omega)⟩
      have HB := Lib.hid hb
      obtain ⟨Ab, cab, -, s0, -, -, -⟩ := (HLV.out.ext HX2.out).blk _ _ hb
      have d1 := (HLV.out.ext HX2.out).c1
      have d0 := (H.out.ext HX2.out).row.cell (j := 0) rfl
      have hnx : b.next ≤ np := by rw [HE.out.2.2.1]; exact HI.out.wf.nl b (List.mem_of_getElem? hb)
      have hwr : IntKind.i64.wrap ((np : Int) - (b.next : Int)) = ((np - b.next : Nat) : Int) := by rw [IntWalk.i64_in _ (by omega)]; omega
      have HRM := Lib.hid (show openRoom L = ((np - b.next : Nat) : Int) by unfold openRoom; rw [← HE.out.2.2.2.2, show ((o : Int)).toNat = o from rfl, hb]; simp only; rw [← HE.out.2.2.1]; omega)
      have HPG := Lib.hid (fun W (hX : Ext w W) => pages_any (H.out.ext hX).dev)
      rw [← HE.out.2.2.1] at HPG
      clear hb
      by_cases hroom : k ≤ np - b.next
      · have g1 : decide (k ≤ np - b.next) = true := decide_eq_true hroom
        have HF := Lib.hid (writeF_room kind key value (L := L) HNF.out ⟨by rw [← HE.out.2.2.2.2]; exact hop0, by rw [← HE.out.2.1, HRM.out]; omega⟩)
        clear hroom
        go_quiet ((go_at_call 19; exact Calls.quiet_of_same ((HPG.out _ (HX2.out.trans ((Ext.refl _).drewN _))).mono fun _ _ h => ⟨h.1, h.2.symm⟩)))
        obtain ⟨w5, hw5⟩ : ∃ z, z = w2.drewN nq := ⟨_, rfl⟩
        have XQ := Lib.hid (show Ext w2 w5 by rw [hw5]; exact (Ext.refl _).drewN _)
        have HX5 := Lib.hid (HX2.out.trans XQ.out)
        rw [← hw5]
        clear hw5 d0 d1 d2 s0 g1 hwr
        have c3 := (H.out.ext HX5.out).row.cell (j := 3) rfl
        have f3 := (H.out.ext HX5.out).row.frozen (j := 3) (by simp)
        rw [← HE.out.1] at c3
        go_upto_region 7 with fail
        obtain ⟨w6, hw6⟩ : ∃ z, z = w5.setCell ⟨l, 3, none⟩ (.int .i64 (nm + 1 : Nat)) := ⟨_, rfl⟩
        rw [show w5.setCell ⟨l, 3, none⟩ (.int .i64 ((nm : Int) + 1)) = w6 by rw [hw6]; rfl]
        have hm6 : Mod (fun x => x = l) w5 w6 := by rw [hw6]; exact mod_set w5 l 3 _
        have H5 := Lib.hid (H.out.ext HX5.out)
        have hr6 := H5.out.row.set 3 (.int .i64 (nm + 1 : Nat)) (by simp)
        have HL6 := Lib.hid (show LogAtF w6 S l F SD G { L with number := L.number + 1 } by
          have h9 := H5.out.rec_ (w' := w6) hm6 (nm := nm + 1) (by rw [hw6]; exact hr6)
          rw [HE.out.1] at h9
          exact h9)
        have HM6 := Lib.hid (show Mod S w w6 from (Mod.of_ext S HX5.out).then hm6 (fun x hx => .inl (by rw [show x = l from hx]; exact H.out.inS.1)))
        have HR6 := Lib.hid (hm6.rowB (HR2.out.ext XQ.out) (fun e9 => (HR2.out.ext XQ.out).apart H5.out.row (by decide) e9))
        have HV6 := Lib.hid ((HV.out.ext HX5.out).mod hm6 (no8_row H5.out.row (by decide)))
        have HI6 := Lib.hid (HI.out.number (n := L.number + 1) ⟨by have := HI.out.wf.num.1; omega, by have h9 := hnm1; rw [HE.out.1] at h9; unfold far; omega⟩)
        have HEA := Lib.hid (show EArg ⟨kind, nm, 0, 0, key, value⟩ from ⟨HA.out.1, by unfold far; exact hnm1, HA.out.2.1, HA.out.2.2.1⟩)
        have HPR := Lib.hid (prog_any (e := ⟨kind, nm, 0, 0, key, value⟩) ⟨_, _, _, rfl, HL6.out⟩ HI6.out (o := o) (b := b) (by rw [← HE.out.2.2.2.2]) HB.out HV6.out 0 0 HEA.out (by have := HA.out.2.2.2; show L.d.pending.length ≤ _; omega))
        have hf9 := HF.out
        rw [← HE.out.1] at hf9
        have HF9 := Lib.hid hf9
        rw [← HE.out.1] at HPR
        rw [← hf9] at HPR
        clear hw6 hm6 hr6 c3 f3 hf9
        have x0 := (HR6.out).cell (j := 0) rfl
        have x1 := (HR6.out).cell (j := 1) rfl
        have x2 := (HR6.out).cell (j := 2) rfl
        have x3 := (HR6.out).cell (j := 3) rfl
        have x4 := (HR6.out).cell (j := 4) rfl
        have x5 := (HR6.out).cell (j := 5) rfl
        go_wp2_with (go_at_call 58; refine HPR.out.mono ?_; rintro e' w7 ⟨rfl, hl7⟩; have HL7 := Lib.hid hl7; clear hl7)
        go_ret
        exact ⟨rfl, LogStep.trans HM6.out (fun x hx => .inl hx) HL7.out⟩
      · have g1 : decide (k ≤ np - b.next) = false := decide_eq_false hroom
        have HF := Lib.hid (writeF_rest kind key value (L := L) HNF.out (fun h9 => hroom (by have := h9.2; rw [← HE.out.2.1, HRM.out] at this; omega)))
        clear hroom
        go_quiet ((go_at_call 19; exact Calls.quiet_of_same ((HPG.out _ (HX2.out.trans ((Ext.refl _).drewN _))).mono fun _ _ h => ⟨h.1, h.2.symm⟩)))
        obtain ⟨w5, hw5⟩ : ∃ z, z = w2.drewN nq := ⟨_, rfl⟩
        have XQ := Lib.hid (show Ext w2 w5 by rw [hw5]; exact (Ext.refl _).drewN _)
        have HX5 := Lib.hid (HX2.out.trans XQ.out)
        have HR5 := Lib.hid (HR2.out.ext XQ.out)
        rw [← hw5]
        clear hw5 d0 d1 d2 s0 g1 hwr hnx hol HB HRM
        have HFR := Lib.hid (free_any (HLV.out.ext HX5.out) HI.out.wf.nb.2)
        go_upto_region 9 with (go_at_call 34; refine HFR.out.mono ?_; rintro e' w6 ⟨v6, rfl, hx6, hn6⟩; obtain ⟨A6, c6, rfl⟩ := hn6.slice; have HX6 := Lib.hid (HX5.out.trans hx6); have HR6 := Lib.hid (HR5.out.ext hx6); have HN6 := Lib.hid hn6; clear hx6 hn6)
        obtain ⟨nf, hnf⟩ : ∃ z, z = (freeF L).length := ⟨_, rfl⟩
        have HNFL := Lib.hid hnf
        rw [← hnf] at HN6
        rw [← hnf]
        have hnf64 : nf ≤ 64 := by rw [hnf]; exact Nat.le_trans (free_len L) HI.out.wf.nb.2
        clear hnf
        have H6 := Lib.hid (H.out.ext HX6.out)
        have d4 := H6.out.row.cell (j := 4) rfl
        rw [← HE.out.2.2.2.1] at d4
        by_cases hsf : 1099511627776 < sg
        · have HG := Lib.hid (show writeF L kind key value = (10, L) by rw [HF.out]; unfold writeG; rw [if_pos (.inl (by rw [← HE.out.2.2.2.1]; exact hsf))])
          have hs2 : (1099511627776 : Int) < (sg : Int) := by omega
          clear hsf
          go_wp2_with fail
          go_ret
          rw [HG.out]
          exact ⟨rfl, LogStep.pre HX6.out (LogStep.same ⟨_, _, _, rfl, H6.out⟩)⟩
        · have hs2 : ¬ (1099511627776 : Int) < (sg : Int) := by omega
          have HSF := Lib.hid (show ¬ 1099511627776 < L.segment by rw [← HE.out.2.2.2.1]; exact hsf)
          have hsg1 : sg ≤ 1099511627776 := by omega
          clear hsf
          by_cases hn0 : nf = 0
          · have HG := Lib.hid (show writeF L kind key value = (10, L) by rw [HF.out]; unfold writeG; rw [if_pos (.inr (List.eq_nil_of_length_eq_zero (by rw [← HNFL.out]; exact hn0)))])
            have hz : ((nf : Int) == 0) = true := by rw [hn0]; rfl
            clear hn0
            go_wp2_with fail
            go_ret
            rw [HG.out]
            exact ⟨rfl, LogStep.pre HX6.out (LogStep.same ⟨_, _, _, rfl, H6.out⟩)⟩
          · have hz : ((nf : Int) == 0) = false := by rw [beq_eq_false_iff_ne]; omega
            have HFN := Lib.hid (show freeF L ≠ [] by intro h9; have := HNFL.out; rw [h9] at this; exact hn0 this)
            by_cases hn2 : 2 ≤ nf
            · have HG := Lib.hid (show writeF L kind key value = programF { beginF L (youngestF L (freeF L)) with number := L.number + 1 } ⟨kind, L.number, 0, 0, key, value⟩ by
                rw [HF.out]; unfold writeG; rw [if_neg (fun h9 => h9.elim HSF.out HFN.out), if_pos (by rw [← HNFL.out]; exact hn2)])
              have hn3 : (2 : Int) ≤ (nf : Int) := by omega
              have HYM := Lib.hid (free_lt (young_mem (L := L) HFN.out))
              obtain ⟨y, hy⟩ : ∃ z, z = youngestF L (freeF L) := ⟨_, rfl⟩
              have HYG := Lib.hid (youngest_any H6.out (fs := freeF L) HN6.out HFN.out (by rw [← HNFL.out]; exact hnf64) (fun i hi => by have := (free_lt hi).1; rw [HI.out.wf.bl] at this; exact this))
              rw [← hy] at HYG HYM HG
              obtain ⟨-, yb, hyb, -⟩ := HYM.out
              have HYB := Lib.hid hyb
              obtain ⟨hbg, ebg⟩ := beginF_inv HI.out hyb (by unfold far; rw [← HE.out.2.2.2.1]; exact hsg1)
              have HBG := Lib.hid (And.intro hbg ebg)
              clear hn0 hn2 hy hyb hbg ebg
              go_upto_region 13 with (first
                | (go_at_call 59; refine (begin_any H7.out HYB.out (by rw [← HE.out.2.2.2.1]; omega) HI.out.wf.nb.2).mono ?_; rintro e' w8 ⟨rfl, hl8, hm8⟩; have HL8 := Lib.hid hl8; have HM8 := Lib.hid hm8; clear hl8 hm8)
                | (go_at_call 60; refine HYG.out.mono ?_; rintro e' w7 ⟨rfl, hx7⟩; have HX7 := Lib.hid (HX6.out.trans hx7); have H7 := Lib.hid (H6.out.ext hx7); have HR7 := Lib.hid (HR6.out.ext hx7); clear hx7))
              have c3 := HL8.out.row.cell (j := 3) rfl
              have f3 := HL8.out.row.frozen (j := 3) (by simp)
              rw [HBG.out.2] at c3
              simp only at c3
              rw [← HE.out.1] at c3
              go_upto_region 14 with fail
              have H8N := Lib.hid (H7.out.no8)
              obtain ⟨w9, hw9⟩ : ∃ z, z = w8.setCell ⟨l, 3, none⟩ (.int .i64 (nm + 1 : Nat)) := ⟨_, rfl⟩
              rw [show w8.setCell ⟨l, 3, none⟩ (.int .i64 ((nm : Int) + 1)) = w9 by rw [hw9]; rfl]
              have hm9 : Mod (fun x => x = l) w8 w9 := by rw [hw9]; exact mod_set w8 l 3 _
              have hr9 := HL8.out.row.set 3 (.int .i64 (nm + 1 : Nat)) (by simp)
              have HL9 := Lib.hid (show LogAtF w9 S l F SD G { beginF L y with number := L.number + 1 } by
                have h9 := HL8.out.rec_ (w' := w9) hm9 (nm := nm + 1) (by rw [hw9]; exact hr9)
                rw [HE.out.1] at h9
                exact h9)
              have HM9 := Lib.hid (show Mod S w w9 from ((Mod.of_ext S HX7.out).then HM8.out (fun x hx => .inl hx)).then hm9 (fun x hx => .inl (by rw [show x = l from hx]; exact H.out.inS.1)))
              have HR8 := Lib.hid (HM8.out.rowB HR7.out (fun hS => by have h9 := Typed.lt H.out.ty hS; omega))
              have HR9 := Lib.hid (hm9.rowB HR8.out (fun e9 => HR8.out.apart HL8.out.row (by decide) e9))
              have HV9 := Lib.hid (((HV.out.ext HX7.out).mod HM8.out H8N.out).mod hm9 (no8_row HL8.out.row (by decide)))
              have HI9 := Lib.hid (HBG.out.1.number (n := L.number + 1) ⟨by have := HI.out.wf.num.1; omega, by have h9 := hnm1; rw [HE.out.1] at h9; unfold far; omega⟩)
              have HEA := Lib.hid (show EArg ⟨kind, nm, 0, 0, key, value⟩ from ⟨HA.out.1, by unfold far; exact hnm1, HA.out.2.1, HA.out.2.2.1⟩)
              have HPR := Lib.hid (prog_any (e := ⟨kind, nm, 0, 0, key, value⟩) ⟨_, _, _, rfl, HL9.out⟩ HI9.out (o := y) (b := { yb with segment := L.segment }) rfl (by rw [HBG.out.2]; exact List.getElem?_set_self (List.getElem?_eq_some_iff.1 HYB.out).1) HV9.out 0 0 HEA.out (by have := HA.out.2.2.2; rw [HBG.out.2]; show L.d.pending.length ≤ _; omega))
              have hg9 := HG.out
              rw [← HE.out.1] at hg9
              rw [← HE.out.1, ← hg9] at HPR
              clear hw9 hm9 hr9 c3 f3 hg9
              have x0 := (HR9.out).cell (j := 0) rfl
              have x1 := (HR9.out).cell (j := 1) rfl
              have x2 := (HR9.out).cell (j := 2) rfl
              have x3 := (HR9.out).cell (j := 3) rfl
              have x4 := (HR9.out).cell (j := 4) rfl
              have x5 := (HR9.out).cell (j := 5) rfl
              go_wp2_with (go_at_call 58; refine HPR.out.mono ?_; rintro e' wz ⟨rfl, hlz⟩; have HLZ := Lib.hid hlz; clear hlz)
              go_ret
              exact ⟨rfl, LogStep.trans HM9.out (fun x hx => .inl hx) HLZ.out⟩
            · have hn1 : nf = 1 := by omega
              obtain ⟨f0, hf0⟩ : ∃ f0, freeF L = [f0] := by
                have := HNFL.out
                rw [hn1] at this
                match freeF L, this with
                | [f], _ => exact ⟨f, rfl⟩
              have HF0 := Lib.hid hf0
              have hn3 : ¬ (2 : Int) ≤ (nf : Int) := by omega
              have HG := Lib.hid (show writeF L kind key value = (match victimF L key with
                  | none => (10, L)
                  | some (i, n) => if (np : Int) - k < n then (10, L) else cleanF L i f0 ⟨kind, nm, 0, 0, key, value⟩) by
                rw [HF.out]; unfold writeG; rw [if_neg (fun h9 => h9.elim HSF.out HFN.out), if_neg (by rw [← HNFL.out]; exact hn2), hf0, ← HE.out.2.1, ← HE.out.2.2.1, ← HE.out.1]; rfl)
              have HVC := Lib.hid (victim_any (HLV.out.ext HX6.out) HI.out.wf.nb.2 (wf_ok HI.out.wf) key)
              clear hn0 hn2 hf0
              cases hvc : victimF L key with
              | none =>
                rw [hvc] at HVC HG
                clear hvc
                go_wp2_with (go_at_call 41; refine HVC.out.mono ?_; rintro e' w7 ⟨rfl, hx7⟩; rw [show vI none = -1 from rfl, show vN none = 0 from rfl])
                go_ret
                rw [HG.out]
                exact ⟨rfl, LogStep.pre (HX6.out.trans hx7) (LogStep.same ⟨_, _, _, rfl, H6.out.ext hx7⟩)⟩
              | some y =>
                have hyn := victim_in hvc
                obtain ⟨yb, hyb⟩ : ∃ yb, L.blocks[y.1]? = some yb := ⟨_, List.getElem?_eq_getElem hyn.1⟩
                have hyp : y.2 ≤ 1024 := by rw [hyn.2]; exact lives_pages (wf_ok HI.out.wf) hyb key
                have HYB := Lib.hid hyb
                rw [hvc] at HVC HG
                simp only at HG
                have hy0 : ¬ ((y.1 : Nat) : Int) < 0 := by omega
                clear hvc hyn hyb
                by_cases hlt : (np : Int) - (k : Int) < ((y.2 : Nat) : Int)
                · rw [if_pos hlt] at HG
                  go_wp2_with (first
                    | (go_at_call 41; refine HVC.out.mono ?_; rintro e' w7 ⟨rfl, hx7⟩; have HX7 := Lib.hid (HX6.out.trans hx7); have H7 := Lib.hid (H6.out.ext hx7); clear hx7; rw [show vI (some y) = ((y.1 : Nat) : Int) from rfl, show vN (some y) = ((y.2 : Nat) : Int) from rfl]; have d0 := H7.out.row.cell (j := 0) rfl)
                    | (go_at_call 19; refine (HPG.out _ HX7.out).mono ?_; rintro e w8 ⟨rfl, rfl⟩))
                  go_ret
                  rw [HG.out]
                  exact ⟨rfl, LogStep.pre HX7.out (LogStep.same ⟨_, _, _, rfl, H7.out⟩)⟩
                · rw [if_neg hlt] at HG
                  go_upto_region 18 with (first
                    | (go_at_call 41; refine HVC.out.mono ?_; rintro e' w7 ⟨rfl, hx7⟩; have HX67 := Lib.hid hx7; have HX7 := Lib.hid (HX6.out.trans hx7); have H7 := Lib.hid (H6.out.ext hx7); clear hx7; rw [show vI (some y) = ((y.1 : Nat) : Int) from rfl, show vN (some y) = ((y.2 : Nat) : Int) from rfl]; have d0 := H7.out.row.cell (j := 0) rfl)
                    | (go_at_call 19; refine (HPG.out _ HX7.out).mono ?_; rintro e w8 ⟨rfl, rfl⟩))
                  obtain ⟨-, fb, hfb, -⟩ := free_lt (L := L) (i := f0) (by rw [HF0.out]; simp)
                  have HFB := Lib.hid hfb
                  have HR7 := Lib.hid (HR6.out.ext HX67.out)
                  have hn7 := NumsAt.kept HN6.out HX67.out
                  rw [HF0.out] at hn7
                  obtain ⟨gf, cf, hvf, f0c⟩ := hn7.get (i := 0) (x := f0) rfl
                  have hA6 : A6 = some ⟨gf, 0, none⟩ := by injection hvf
                  subst hA6
                  have hc6 : (0 : Int) < (nf : Int) := by omega
                  have HCA := Lib.hid (fun W (hX : Ext w7 W) => show Calls Try.prog 61 #[.pointer (some ⟨l, 0, none⟩), .int .i64 y.1, .int .i64 f0, .agg #[.int .i64 kind, .int .i64 nm, .int .i64 0, .int .i64 0, .string (st key), .slice A value.length c]] W _ from clean_any (H7.out.ext hX) HI.out HYB.out HFB.out (by have := HSF.out; unfold far; omega) (by have := HNF.out; unfold far; omega) (e := ⟨kind, nm, 0, 0, key, value⟩) ⟨HA.out.1, by unfold far; exact hnm1, HA.out.2.1, HA.out.2.2.1⟩ (HV.out.ext (HX7.out.trans hX)) HA.out.2.2.2)
                  clear hfb hn7 hvf hlt d0
                  have x0 := (HR7.out).cell (j := 0) rfl
                  have x1 := (HR7.out).cell (j := 1) rfl
                  have x2 := (HR7.out).cell (j := 2) rfl
                  have x3 := (HR7.out).cell (j := 3) rfl
                  have x4 := (HR7.out).cell (j := 4) rfl
                  have x5 := (HR7.out).cell (j := 5) rfl
                  refine wp_region_tail (C := fun W => ∃ n, W = w7.drewN n) 6 (by kernel_rfl) (by kernel_rfl) ⟨1, rfl⟩ ?_
                  simp only [List.take_succ_cons, List.take_zero, List.drop_succ_cons, List.drop_zero]
                  repeat (go_big_quiet_step (fail))
                  refine wpQuiet_nil ?_
                  rintro _ ⟨nq7, rfl⟩
                  go_wp2_with (go_at_call 61; refine (HCA.out _ ((Ext.refl _).drewN _)).mono ?_; rintro e' wz ⟨rfl, hlz⟩; have HLZ := Lib.hid hlz; clear hlz)
                  go_ret
                  rw [HG.out]
                  exact ⟨rfl, LogStep.pre (HX7.out.trans ((Ext.refl _).drewN _)) HLZ.out⟩
    · have HF := Lib.hid (writeF_rest kind key value (L := L) HNF.out (fun h9 => hop0 (by rw [HE.out.2.2.2.2]; exact h9.1)))
      have g1 : decide (0 ≤ op) = false := decide_eq_false hop0
      have HPG := Lib.hid (fun W (hX : Ext w W) => pages_any (H.out.ext hX).dev)
      rw [← HE.out.2.2.1] at HPG
      clear hop0
      go_quiet (fail)
      obtain ⟨w5, hw5⟩ : ∃ z, z = w2.drewN nq := ⟨_, rfl⟩
      have XQ := Lib.hid (show Ext w2 w5 by rw [hw5]; exact (Ext.refl _).drewN _)
      have HX5 := Lib.hid (HX2.out.trans XQ.out)
      have HR5 := Lib.hid (HR2.out.ext XQ.out)
      rw [← hw5]
      clear hw5 d2 g1
      have HFR := Lib.hid (free_any (HLV.out.ext HX5.out) HI.out.wf.nb.2)
      go_upto_region 9 with (go_at_call 34; refine HFR.out.mono ?_; rintro e' w6 ⟨v6, rfl, hx6, hn6⟩; obtain ⟨A6, c6, rfl⟩ := hn6.slice; have HX6 := Lib.hid (HX5.out.trans hx6); have HR6 := Lib.hid (HR5.out.ext hx6); have HN6 := Lib.hid hn6; clear hx6 hn6)
      obtain ⟨nf, hnf⟩ : ∃ z, z = (freeF L).length := ⟨_, rfl⟩
      have HNFL := Lib.hid hnf
      rw [← hnf] at HN6
      rw [← hnf]
      have hnf64 : nf ≤ 64 := by rw [hnf]; exact Nat.le_trans (free_len L) HI.out.wf.nb.2
      clear hnf
      have H6 := Lib.hid (H.out.ext HX6.out)
      have d4 := H6.out.row.cell (j := 4) rfl
      rw [← HE.out.2.2.2.1] at d4
      by_cases hsf : 1099511627776 < sg
      · have HG := Lib.hid (show writeF L kind key value = (10, L) by rw [HF.out]; unfold writeG; rw [if_pos (.inl (by rw [← HE.out.2.2.2.1]; exact hsf))])
        have hs2 : (1099511627776 : Int) < (sg : Int) := by omega
        clear hsf
        go_wp2_with fail
        go_ret
        rw [HG.out]
        exact ⟨rfl, LogStep.pre HX6.out (LogStep.same ⟨_, _, _, rfl, H6.out⟩)⟩
      · have hs2 : ¬ (1099511627776 : Int) < (sg : Int) := by omega
        have HSF := Lib.hid (show ¬ 1099511627776 < L.segment by rw [← HE.out.2.2.2.1]; exact hsf)
        have hsg1 : sg ≤ 1099511627776 := by omega
        clear hsf
        by_cases hn0 : nf = 0
        · have HG := Lib.hid (show writeF L kind key value = (10, L) by rw [HF.out]; unfold writeG; rw [if_pos (.inr (List.eq_nil_of_length_eq_zero (by rw [← HNFL.out]; exact hn0)))])
          have hz : ((nf : Int) == 0) = true := by rw [hn0]; rfl
          clear hn0
          go_wp2_with fail
          go_ret
          rw [HG.out]
          exact ⟨rfl, LogStep.pre HX6.out (LogStep.same ⟨_, _, _, rfl, H6.out⟩)⟩
        · have hz : ((nf : Int) == 0) = false := by rw [beq_eq_false_iff_ne]; omega
          have HFN := Lib.hid (show freeF L ≠ [] by intro h9; have := HNFL.out; rw [h9] at this; exact hn0 this)
          by_cases hn2 : 2 ≤ nf
          · have HG := Lib.hid (show writeF L kind key value = programF { beginF L (youngestF L (freeF L)) with number := L.number + 1 } ⟨kind, L.number, 0, 0, key, value⟩ by
              rw [HF.out]; unfold writeG; rw [if_neg (fun h9 => h9.elim HSF.out HFN.out), if_pos (by rw [← HNFL.out]; exact hn2)])
            have hn3 : (2 : Int) ≤ (nf : Int) := by omega
            have HYM := Lib.hid (free_lt (young_mem (L := L) HFN.out))
            obtain ⟨y, hy⟩ : ∃ z, z = youngestF L (freeF L) := ⟨_, rfl⟩
            have HYG := Lib.hid (youngest_any H6.out (fs := freeF L) HN6.out HFN.out (by rw [← HNFL.out]; exact hnf64) (fun i hi => by have := (free_lt hi).1; rw [HI.out.wf.bl] at this; exact this))
            rw [← hy] at HYG HYM HG
            obtain ⟨-, yb, hyb, -⟩ := HYM.out
            have HYB := Lib.hid hyb
            obtain ⟨hbg, ebg⟩ := beginF_inv HI.out hyb (by unfold far; rw [← HE.out.2.2.2.1]; exact hsg1)
            have HBG := Lib.hid (And.intro hbg ebg)
            clear hn0 hn2 hy hyb hbg ebg
            go_upto_region 13 with (first
              | (go_at_call 59; refine (begin_any H7.out HYB.out (by rw [← HE.out.2.2.2.1]; omega) HI.out.wf.nb.2).mono ?_; rintro e' w8 ⟨rfl, hl8, hm8⟩; have HL8 := Lib.hid hl8; have HM8 := Lib.hid hm8; clear hl8 hm8)
              | (go_at_call 60; refine HYG.out.mono ?_; rintro e' w7 ⟨rfl, hx7⟩; have HX7 := Lib.hid (HX6.out.trans hx7); have H7 := Lib.hid (H6.out.ext hx7); have HR7 := Lib.hid (HR6.out.ext hx7); clear hx7))
            have c3 := HL8.out.row.cell (j := 3) rfl
            have f3 := HL8.out.row.frozen (j := 3) (by simp)
            rw [HBG.out.2] at c3
            simp only at c3
            rw [← HE.out.1] at c3
            go_upto_region 14 with fail
            have H8N := Lib.hid (H7.out.no8)
            obtain ⟨w9, hw9⟩ : ∃ z, z = w8.setCell ⟨l, 3, none⟩ (.int .i64 (nm + 1 : Nat)) := ⟨_, rfl⟩
            rw [show w8.setCell ⟨l, 3, none⟩ (.int .i64 ((nm : Int) + 1)) = w9 by rw [hw9]; rfl]
            have hm9 : Mod (fun x => x = l) w8 w9 := by rw [hw9]; exact mod_set w8 l 3 _
            have hr9 := HL8.out.row.set 3 (.int .i64 (nm + 1 : Nat)) (by simp)
            have HL9 := Lib.hid (show LogAtF w9 S l F SD G { beginF L y with number := L.number + 1 } by
              have h9 := HL8.out.rec_ (w' := w9) hm9 (nm := nm + 1) (by rw [hw9]; exact hr9)
              rw [HE.out.1] at h9
              exact h9)
            have HM9 := Lib.hid (show Mod S w w9 from ((Mod.of_ext S HX7.out).then HM8.out (fun x hx => .inl hx)).then hm9 (fun x hx => .inl (by rw [show x = l from hx]; exact H.out.inS.1)))
            have HR8 := Lib.hid (HM8.out.rowB HR7.out (fun hS => by have h9 := Typed.lt H.out.ty hS; omega))
            have HR9 := Lib.hid (hm9.rowB HR8.out (fun e9 => HR8.out.apart HL8.out.row (by decide) e9))
            have HV9 := Lib.hid (((HV.out.ext HX7.out).mod HM8.out H8N.out).mod hm9 (no8_row HL8.out.row (by decide)))
            have HI9 := Lib.hid (HBG.out.1.number (n := L.number + 1) ⟨by have := HI.out.wf.num.1; omega, by have h9 := hnm1; rw [HE.out.1] at h9; unfold far; omega⟩)
            have HEA := Lib.hid (show EArg ⟨kind, nm, 0, 0, key, value⟩ from ⟨HA.out.1, by unfold far; exact hnm1, HA.out.2.1, HA.out.2.2.1⟩)
            have HPR := Lib.hid (prog_any (e := ⟨kind, nm, 0, 0, key, value⟩) ⟨_, _, _, rfl, HL9.out⟩ HI9.out (o := y) (b := { yb with segment := L.segment }) rfl (by rw [HBG.out.2]; exact List.getElem?_set_self (List.getElem?_eq_some_iff.1 HYB.out).1) HV9.out 0 0 HEA.out (by have := HA.out.2.2.2; rw [HBG.out.2]; show L.d.pending.length ≤ _; omega))
            have hg9 := HG.out
            rw [← HE.out.1] at hg9
            rw [← HE.out.1, ← hg9] at HPR
            clear hw9 hm9 hr9 c3 f3 hg9
            have x0 := (HR9.out).cell (j := 0) rfl
            have x1 := (HR9.out).cell (j := 1) rfl
            have x2 := (HR9.out).cell (j := 2) rfl
            have x3 := (HR9.out).cell (j := 3) rfl
            have x4 := (HR9.out).cell (j := 4) rfl
            have x5 := (HR9.out).cell (j := 5) rfl
            go_wp2_with (go_at_call 58; refine HPR.out.mono ?_; rintro e' wz ⟨rfl, hlz⟩; have HLZ := Lib.hid hlz; clear hlz)
            go_ret
            exact ⟨rfl, LogStep.trans HM9.out (fun x hx => .inl hx) HLZ.out⟩
          · have hn1 : nf = 1 := by omega
            obtain ⟨f0, hf0⟩ : ∃ f0, freeF L = [f0] := by
              have := HNFL.out
              rw [hn1] at this
              match freeF L, this with
              | [f], _ => exact ⟨f, rfl⟩
            have HF0 := Lib.hid hf0
            have hn3 : ¬ (2 : Int) ≤ (nf : Int) := by omega
            have HG := Lib.hid (show writeF L kind key value = (match victimF L key with
                | none => (10, L)
                | some (i, n) => if (np : Int) - k < n then (10, L) else cleanF L i f0 ⟨kind, nm, 0, 0, key, value⟩) by
              rw [HF.out]; unfold writeG; rw [if_neg (fun h9 => h9.elim HSF.out HFN.out), if_neg (by rw [← HNFL.out]; exact hn2), hf0, ← HE.out.2.1, ← HE.out.2.2.1, ← HE.out.1]; rfl)
            have HVC := Lib.hid (victim_any (HLV.out.ext HX6.out) HI.out.wf.nb.2 (wf_ok HI.out.wf) key)
            clear hn0 hn2 hf0
            cases hvc : victimF L key with
            | none =>
              rw [hvc] at HVC HG
              clear hvc
              go_wp2_with (go_at_call 41; refine HVC.out.mono ?_; rintro e' w7 ⟨rfl, hx7⟩; rw [show vI none = -1 from rfl, show vN none = 0 from rfl])
              go_ret
              rw [HG.out]
              exact ⟨rfl, LogStep.pre (HX6.out.trans hx7) (LogStep.same ⟨_, _, _, rfl, H6.out.ext hx7⟩)⟩
            | some y =>
              have hyn := victim_in hvc
              obtain ⟨yb, hyb⟩ : ∃ yb, L.blocks[y.1]? = some yb := ⟨_, List.getElem?_eq_getElem hyn.1⟩
              have hyp : y.2 ≤ 1024 := by rw [hyn.2]; exact lives_pages (wf_ok HI.out.wf) hyb key
              have HYB := Lib.hid hyb
              rw [hvc] at HVC HG
              simp only at HG
              have hy0 : ¬ ((y.1 : Nat) : Int) < 0 := by omega
              clear hvc hyn hyb
              by_cases hlt : (np : Int) - (k : Int) < ((y.2 : Nat) : Int)
              · rw [if_pos hlt] at HG
                go_wp2_with (first
                  | (go_at_call 41; refine HVC.out.mono ?_; rintro e' w7 ⟨rfl, hx7⟩; have HX7 := Lib.hid (HX6.out.trans hx7); have H7 := Lib.hid (H6.out.ext hx7); clear hx7; rw [show vI (some y) = ((y.1 : Nat) : Int) from rfl, show vN (some y) = ((y.2 : Nat) : Int) from rfl]; have d0 := H7.out.row.cell (j := 0) rfl)
                  | (go_at_call 19; refine (HPG.out _ HX7.out).mono ?_; rintro e w8 ⟨rfl, rfl⟩))
                go_ret
                rw [HG.out]
                exact ⟨rfl, LogStep.pre HX7.out (LogStep.same ⟨_, _, _, rfl, H7.out⟩)⟩
              · rw [if_neg hlt] at HG
                go_upto_region 18 with (first
                  | (go_at_call 41; refine HVC.out.mono ?_; rintro e' w7 ⟨rfl, hx7⟩; have HX67 := Lib.hid hx7; have HX7 := Lib.hid (HX6.out.trans hx7); have H7 := Lib.hid (H6.out.ext hx7); clear hx7; rw [show vI (some y) = ((y.1 : Nat) : Int) from rfl, show vN (some y) = ((y.2 : Nat) : Int) from rfl]; have d0 := H7.out.row.cell (j := 0) rfl)
                  | (go_at_call 19; refine (HPG.out _ HX7.out).mono ?_; rintro e w8 ⟨rfl, rfl⟩))
                obtain ⟨-, fb, hfb, -⟩ := free_lt (L := L) (i := f0) (by rw [HF0.out]; simp)
                have HFB := Lib.hid hfb
                have HR7 := Lib.hid (HR6.out.ext HX67.out)
                have hn7 := NumsAt.kept HN6.out HX67.out
                rw [HF0.out] at hn7
                obtain ⟨gf, cf, hvf, f0c⟩ := hn7.get (i := 0) (x := f0) rfl
                have hA6 : A6 = some ⟨gf, 0, none⟩ := by injection hvf
                subst hA6
                have hc6 : (0 : Int) < (nf : Int) := by omega
                have HCA := Lib.hid (fun W (hX : Ext w7 W) => show Calls Try.prog 61 #[.pointer (some ⟨l, 0, none⟩), .int .i64 y.1, .int .i64 f0, .agg #[.int .i64 kind, .int .i64 nm, .int .i64 0, .int .i64 0, .string (st key), .slice A value.length c]] W _ from clean_any (H7.out.ext hX) HI.out HYB.out HFB.out (by have := HSF.out; unfold far; omega) (by have := HNF.out; unfold far; omega) (e := ⟨kind, nm, 0, 0, key, value⟩) ⟨HA.out.1, by unfold far; exact hnm1, HA.out.2.1, HA.out.2.2.1⟩ (HV.out.ext (HX7.out.trans hX)) HA.out.2.2.2)
                clear hfb hn7 hvf hlt d0
                have x0 := (HR7.out).cell (j := 0) rfl
                have x1 := (HR7.out).cell (j := 1) rfl
                have x2 := (HR7.out).cell (j := 2) rfl
                have x3 := (HR7.out).cell (j := 3) rfl
                have x4 := (HR7.out).cell (j := 4) rfl
                have x5 := (HR7.out).cell (j := 5) rfl
                refine wp_region_tail (C := fun W => ∃ n, W = w7.drewN n) 6 (by kernel_rfl) (by kernel_rfl) ⟨1, rfl⟩ ?_
                simp only [List.take_succ_cons, List.take_zero, List.drop_succ_cons, List.drop_zero]
                repeat (go_big_quiet_step (fail))
                refine wpQuiet_nil ?_
                rintro _ ⟨nq7, rfl⟩
                go_wp2_with (go_at_call 61; refine (HCA.out _ ((Ext.refl _).drewN _)).mono ?_; rintro e' wz ⟨rfl, hlz⟩; have HLZ := Lib.hid hlz; clear hlz)
                go_ret
                rw [HG.out]
                exact ⟨rfl, LogStep.pre (HX7.out.trans ((Ext.refl _).drewN _)) HLZ.out⟩
end Go.Proofs.Ytepigkjgjlibcaa
namespace Go.Proofs.Ytepigkjgjlibcaa
open Go.RowKit Go.Deep Go.Proofs.Ytepigkjgjlibcaa.FL
set_option maxRecDepth 100000
set_option maxHeartbeats 16000000 in
theorem put_any {w : World} {S SD : Nat → Prop} {l : Nat} {F : LogF} {G : DevF} {L : Log} (h : LogAtF w S l F SD G L) (hi : LogInv L) {key value : Bs} (hkl : key.length ≤ 100000) (hvl : value.length ≤ 100000) {v : Value} (hv : BS w v value) (hpd : L.d.pending.length ≤ 800000) :
    Calls Try.prog 16 #[.pointer (some ⟨l, 0, none⟩), .string (st key), v] w fun e' w' => e' = .returned (codeV (putF L key value).1) ∧ LogStep w w' S l F.dv (putF L key value).2 := by
  obtain ⟨A, c, rfl, -, -⟩ := hv.slice
  have H := Lib.hid h
  have HI := Lib.hid hi
  have HV := Lib.hid hv
  have HPD := Lib.hid hpd
  have c6 := h.row.cell (j := 6) rfl
  cases hbr : L.broken with
  | true =>
    have HF := Lib.hid (show putF L key value = (6, L) by unfold putF; rw [hbr]; rfl)
    rw [hbr] at c6
    clear h hi hv hpd hbr
    go_enter Try.func16, Try.ntmps16
    go_wp2_with fail
    go_ret
    rw [HF.out]
    exact ⟨rfl, LogStep.same ⟨_, _, _, rfl, H.out⟩⟩
  | false =>
    have HBR := Lib.hid hbr
    rw [hbr] at c6
    by_cases hk : key.length < 1 ∨ 2048 < key.length
    · have HF := Lib.hid (show putF L key value = (8, L) by unfold putF; rw [hbr, if_neg (by simp), if_pos hk])
      rcases hk with hk | hk
      · have hk1 : (key.length : Int) < 1 := by omega
        clear h hi hv hpd hbr
        go_enter Try.func16, Try.ntmps16
        go_wp2_with fail
        go_ret
        rw [HF.out]
        exact ⟨rfl, LogStep.same ⟨_, _, _, rfl, H.out⟩⟩
      · have hk1 : ¬ (key.length : Int) < 1 := by omega
        have hk2 : (2048 : Int) < (key.length : Int) := by omega
        clear h hi hv hpd hbr
        go_enter Try.func16, Try.ntmps16
        go_wp2_with fail
        go_ret
        rw [HF.out]
        exact ⟨rfl, LogStep.same ⟨_, _, _, rfl, H.out⟩⟩
    · have hk1 : ¬ (key.length : Int) < 1 := by omega
      have hk2 : ¬ (2048 : Int) < (key.length : Int) := by omega
      have HK := Lib.hid (show 1 ≤ key.length ∧ key.length ≤ 2048 by omega)
      by_cases hv1 : 16384 < value.length
      · have HF := Lib.hid (show putF L key value = (5, L) by unfold putF; rw [hbr, if_neg (by simp), if_neg hk, if_pos (.inl hv1)])
        have g1 : decide (16384 < value.length) = true := decide_eq_true hv1
        have g2 : (16384 : Int) < (value.length : Int) := by omega
        clear h hi hv hpd hbr hk hv1
        go_enter Try.func16, Try.ntmps16
        go_wp2_with fail
        go_quiet (fail)
        go_wp2_with fail
        go_ret
        rw [HF.out]
        exact ⟨rfl, LogStep.pre ((Ext.refl _).drewN _) (LogStep.same ⟨_, _, _, rfl, H.out.ext ((Ext.refl _).drewN _)⟩)⟩
      · have g2 : ¬ (16384 : Int) < (value.length : Int) := by omega
        obtain ⟨k, hkk⟩ : ∃ z, z = (partsF key value).length := ⟨_, rfl⟩
        obtain ⟨np, hnp⟩ : ∃ z, z = L.d.npages := ⟨_, rfl⟩
        have HE := Lib.hid (And.intro hkk hnp)
        have HPG := Lib.hid (fun W (hX : Ext w W) => pages_any (h.ext hX).dev)
        rw [← hnp] at HPG
        have HPT := Lib.hid (fun W (hX : Ext w W) => parts_any (hv.ext hX) (by omega : key.length + value.length ≤ 100000) 0 0 0 0)
        have d0 := h.row.cell (j := 0) rfl
        have HD0 := Lib.hid d0
        have HVL := Lib.hid (show value.length ≤ 16384 by omega)
        clear h hi hv hpd hkk hnp
        go_enter Try.func16, Try.ntmps16
        go_upto_region 7 with fail
        obtain ⟨q, hq⟩ : ∃ q, q = decide (np < k) := ⟨_, rfl⟩
        have HQ := Lib.hid hq
        clear hq
        go_cut [27] (fun v27 wx => v27 = .bool q ∧ Hid (Ext w wx))
        case first =>
          refine wp_region_X Ext grows_ext 100 (by kernel_rfl) ?_
          obtain ⟨wv, hwv⟩ : ∃ z, z = w.drew := ⟨_, rfl⟩
          rw [← hwv]
          have XE := Lib.hid (show Ext w wv by rw [hwv]; exact (Ext.refl _).drew)
          clear hwv c6 d0
          refine qX_take (grows_ext) (i := 0) (s := some 28) (v := ?v1) (by kernel_rfl) (by kernel_rfl) rfl rfl (by kernel_rfl) (by kernel_rfl) (by kernel_rfl) (fun _ _ _ h => h) (by kernel_rfl) ?hy1 ?h1
          case hy1 => intro W hW; have d0 := (XE.out.trans hW).cell HD0.out; go_simp; exact rfl
          try simp only [Act.put, List.setIfInBounds_toArray, List.set_cons_succ, List.set_cons_zero]
          refine qX_take (grows_ext) (i := 1) (s := some 29) (v := ?v2) (by kernel_rfl) (by kernel_rfl) rfl rfl (by kernel_rfl) (by kernel_rfl) (by kernel_rfl) (fun _ _ _ h => h) (by kernel_rfl) ?hy2 ?h2
          case hy2 => intro W hW; have d0 := (XE.out.trans hW).cell HD0.out; go_simp; exact rfl
          try simp only [Act.put, List.setIfInBounds_toArray, List.set_cons_succ, List.set_cons_zero]
          refine qX_take (grows_ext) (i := 2) (s := some 30) (v := ?v3) (by kernel_rfl) (by kernel_rfl) rfl rfl (by kernel_rfl) (by kernel_rfl) (by kernel_rfl) (fun _ _ _ h => h) (by kernel_rfl) ?hy3 ?h3
          case hy3 => intro W hW; have d0 := (XE.out.trans hW).cell HD0.out; go_simp; exact rfl
          try simp only [Act.put, List.setIfInBounds_toArray, List.set_cons_succ, List.set_cons_zero]
          refine qX_take (grows_ext) (i := 3) (s := some 31) (v := ?v4) (by kernel_rfl) (by kernel_rfl) rfl rfl (by kernel_rfl) (by kernel_rfl) (by kernel_rfl) (fun _ _ _ h => h) (by kernel_rfl) ?hy4 ?h4
          case hy4 => intro W hW; have d0 := (XE.out.trans hW).cell HD0.out; go_simp; exact rfl
          try simp only [Act.put, List.setIfInBounds_toArray, List.set_cons_succ, List.set_cons_zero]
          refine qX_take (grows_ext) (i := 4) (s := some 32) (v := ?v5) (by kernel_rfl) (by kernel_rfl) rfl rfl (by kernel_rfl) (by kernel_rfl) (by kernel_rfl) (fun _ _ _ h => h) (by kernel_rfl) ?hy5 ?h5
          case hy5 => intro W hW; have d0 := (XE.out.trans hW).cell HD0.out; go_simp; exact rfl
          try simp only [Act.put, List.setIfInBounds_toArray, List.set_cons_succ, List.set_cons_zero]
          refine qX_take (grows_ext) (i := 5) (s := some 33) (v := ?v6) (by kernel_rfl) (by kernel_rfl) rfl rfl (by kernel_rfl) (by kernel_rfl) (by kernel_rfl) (fun _ _ _ h => h) (by kernel_rfl) ?hy6 ?h6
          case hy6 => intro W hW; have d0 := (XE.out.trans hW).cell HD0.out; go_simp; exact rfl
          try simp only [Act.put, List.setIfInBounds_toArray, List.set_cons_succ, List.set_cons_zero]
          refine qX_take (grows_ext) (i := 6) (s := some 34) (v := ?v7) (by kernel_rfl) (by kernel_rfl) rfl rfl (by kernel_rfl) (by kernel_rfl) (by kernel_rfl) (fun _ _ _ h => h) (by kernel_rfl) ?hy7 ?h7
          case hy7 => intro W hW; have d0 := (XE.out.trans hW).cell HD0.out; go_simp; exact rfl
          try simp only [Act.put, List.setIfInBounds_toArray, List.set_cons_succ, List.set_cons_zero]
          refine qX_take (grows_ext) (i := 9) (s := some 37) (v := ?v8) (by kernel_rfl) (by kernel_rfl) rfl rfl (by kernel_rfl) (by kernel_rfl) (by kernel_rfl) (fun _ _ _ h => h) (by kernel_rfl) ?hy8 ?h8
          case hy8 => intro W hW; have d0 := (XE.out.trans hW).cell HD0.out; go_simp; exact rfl
          try simp only [Act.put, List.setIfInBounds_toArray, List.set_cons_succ, List.set_cons_zero]
          refine qX_take (grows_ext) (i := 10) (s := some 38) (v := ?v9) (by kernel_rfl) (by kernel_rfl) rfl rfl (by kernel_rfl) (by kernel_rfl) (by kernel_rfl) (fun _ _ _ h => h) (by kernel_rfl) ?hy9 ?h9
          case hy9 => intro W hW; have d0 := (XE.out.trans hW).cell HD0.out; go_simp; exact rfl
          try simp only [Act.put, List.setIfInBounds_toArray, List.set_cons_succ, List.set_cons_zero]
          refine qX_take (grows_ext) (i := 11) (s := some 39) (v := ?v10) (by kernel_rfl) (by kernel_rfl) rfl rfl (by kernel_rfl) (by kernel_rfl) (by kernel_rfl) (fun _ _ _ h => h) (by kernel_rfl) ?hy10 ?h10
          case hy10 => intro W hW; have d0 := (XE.out.trans hW).cell HD0.out; go_simp; exact rfl
          try simp only [Act.put, List.setIfInBounds_toArray, List.set_cons_succ, List.set_cons_zero]
          refine qX_take (grows_ext) (i := 12) (s := some 40) (v := ?v11) (by kernel_rfl) (by kernel_rfl) rfl rfl (by kernel_rfl) (by kernel_rfl) (by kernel_rfl) (fun _ _ _ h => h) (by kernel_rfl) ?hy11 ?h11
          case hy11 => intro W hW; have d0 := (XE.out.trans hW).cell HD0.out; go_simp; exact rfl
          try simp only [Act.put, List.setIfInBounds_toArray, List.set_cons_succ, List.set_cons_zero]
          refine wpX_one 7 (by kernel_rfl) (by kernel_rfl) rfl (by kernel_rfl) (fun W hW KK hKK => ?_)
          go_simp
          refine (HPT.out W (XE.out.trans hW)).mono ?_
          rintro e' w7 ⟨v7, rfl, hx7, hp7⟩
          obtain ⟨A7, c7, rfl⟩ := hp7.slice
          have HX7 := Lib.hid (XE.out.trans (Ext.trans hW hx7))
          rw [← HE.out.1]
          refine hKK _ _ hx7 ?_
          clear hKK KK hp7 hx7
          try change wpX _ _ _ _ _ _ _ _ (Act.put _ (some 35) (.slice A7 k c7)) _
          try simp only [Act.put, List.setIfInBounds_toArray, List.set_cons_succ, List.set_cons_zero]
          refine qX_take (grows_ext) (i := 8) (s := some 36) (v := ?v12) (by kernel_rfl) (by kernel_rfl) rfl rfl (by kernel_rfl) (by kernel_rfl) (by kernel_rfl) (fun _ _ _ h => h) (by kernel_rfl) ?hy12 ?h12
          case hy12 => intro W hW; skip; go_simp; exact rfl
          try simp only [Act.put, List.setIfInBounds_toArray, List.set_cons_succ, List.set_cons_zero]
          refine wpX_call (grows_ext) (i := 13) (v := .int .i64 np) (by kernel_rfl) (by kernel_rfl) rfl (by kernel_rfl) (by kernel_rfl) (by kernel_rfl) (fun _ _ _ h => h) (by kernel_rfl) _ _ ?_ (fun W hW => ((HPG.out W (HX7.out.trans hW)).mono (fun e w'' h => ⟨h.1, by rw [← h.2]; exact Ext.refl _⟩))) ?_
          · intro W; go_simp; try (with_reducible rfl)
          change wpX _ _ _ _ _ _ _ _ (Act.put _ (some 41) (.int .i64 np)) _
          try simp only [Act.put, List.setIfInBounds_toArray, List.set_cons_succ, List.set_cons_zero]
          refine qX_take (grows_ext) (i := 14) (s := some 42) (v := ?v13) (by kernel_rfl) (by kernel_rfl) rfl rfl (by kernel_rfl) (by kernel_rfl) (by kernel_rfl) (fun _ _ _ h => h) (by kernel_rfl) ?hy13 ?h13
          case hy13 => intro W hW; skip; go_simp; exact rfl
          try simp only [Act.put, List.setIfInBounds_toArray, List.set_cons_succ, List.set_cons_zero]
          refine qX_take (grows_ext) (i := 15) (s := some 43) (v := ?v14) (by kernel_rfl) (by kernel_rfl) rfl rfl (by kernel_rfl) (by kernel_rfl) (by kernel_rfl) (fun _ _ _ h => h) (by kernel_rfl) ?hy14 ?h14
          case hy14 => intro W hW; skip; go_simp; exact rfl
          try simp only [Act.put, List.setIfInBounds_toArray, List.set_cons_succ, List.set_cons_zero]
          refine qX_take (grows_ext) (i := 16) (s := some 27) (v := ?v15) (by kernel_rfl) (by kernel_rfl) rfl rfl (by kernel_rfl) (by kernel_rfl) (by kernel_rfl) (fun _ _ _ h => h) (by kernel_rfl) ?hy15 ?h15
          case hy15 => intro W hW; skip; go_simp; exact rfl
          try simp only [Act.put, List.setIfInBounds_toArray, List.set_cons_succ, List.set_cons_zero]
          refine wpX_done (by kernel_rfl) ?_
          intro W2 hW2
          go_wp2_with fail
          go_meet
          exact ⟨by rw [HQ.out], Lib.hid (HX7.out.trans hW2)⟩
        case rest =>
          obtain ⟨rfl, hc2⟩ := hcut
          cases q with
          | true =>
            have hbig : np < k := of_decide_eq_true HQ.out.symm
            have HF := Lib.hid (show putF L key value = (5, L) by unfold putF; rw [HBR.out, if_neg (by simp), if_neg (by have := HK.out; omega), if_pos (.inr (by rw [← HE.out.1, ← HE.out.2]; exact hbig))])
            clear hbig
            go_wp2_with fail
            go_ret
            rw [HF.out]
            exact ⟨rfl, LogStep.pre hc2.out (LogStep.same ⟨_, _, _, rfl, H.out.ext hc2.out⟩)⟩
          | false =>
            have hbig : ¬ np < k := of_decide_eq_false HQ.out.symm
            have HF := Lib.hid (show putF L key value = writeF L 1 key value by unfold putF; rw [HBR.out, if_neg (by simp), if_neg (by have := HK.out; omega), if_neg (by rw [← HE.out.1, ← HE.out.2]; intro h9; rcases h9 with h9 | h9; have := HVL.out; omega; exact hbig h9)])
            clear hbig
            go_wp2_with (first
              | (go_at_call 39; refine (write_any H8.out HI.out (kind := 1) (.inl rfl) HK.out HVL.out HO8.out HPD.out).mono ?_; rintro e' wz ⟨rfl, hlz⟩; have HLZ := Lib.hid hlz; clear hlz)
              | (go_at_call 43; refine (u8clone_any (HV.out.ext hc2.out) (by have := HVL.out; omega)).mono ?_; rintro e' w8 ⟨v8, rfl, hx8, ho8⟩; have HX8 := Lib.hid (hc2.out.trans hx8); have H8 := Lib.hid (H.out.ext (hc2.out.trans hx8)); have HO8 := Lib.hid ho8.bs; clear hx8 ho8))
            go_ret
            rw [HF.out]
            exact ⟨rfl, LogStep.pre HX8.out HLZ.out⟩
theorem get_kind {L : Log} {key v : Bs} (h : getF L key = .inl v) : ∃ y, EAt L y ∧ y.2.2.key = key ∧ y.2.2.value = v := by
  unfold getF at h
  split at h
  · cases h
  · split at h
    · cases h
    · rename_i y hy
      split at h
      · cases h
        have := newest_at hy
        exact ⟨y, this.1, this.2, rfl⟩
      · cases h
theorem EAt.ok {L : Log} (hw : LogWf L) {y : Nat × Nat × Ent} (h : EAt L y) : EntOk y.2.2 := by
  obtain ⟨b, h1, h2⟩ := h
  exact (hw.ok b (List.mem_of_getElem? h1)).2.2 _ (List.mem_of_getElem? h2)
set_option maxHeartbeats 16000000 in
theorem delete_any {w : World} {S SD : Nat → Prop} {l : Nat} {F : LogF} {G : DevF} {L : Log} (h : LogAtF w S l F SD G L) (hi : LogInv L) {key : Bs} (hpd : L.d.pending.length ≤ 800000) :
    Calls Try.prog 12 #[.pointer (some ⟨l, 0, none⟩), .string (st key)] w fun e' w' => e' = .returned (codeV (deleteF L key).1) ∧ LogStep w w' S l F.dv (deleteF L key).2 := by
  have H := Lib.hid h
  have HI := Lib.hid hi
  have HPD := Lib.hid hpd
  have HG := Lib.hid (get_any h hi.wf.nb.2 (by have := hi.wf.nb.1; omega) (wf_ok hi.wf) key)
  cases hg : getF L key with
  | inr cd =>
    rw [hg] at HG
    have hcd : cd ≠ 0 := by
      unfold getF at hg
      split at hg
      · cases hg; decide
      · split at hg
        · cases hg; decide
        · split at hg
          · cases hg
          · cases hg; decide
    have HF := Lib.hid (show deleteF L key = (cd, L) by unfold deleteF; rw [hg])
    have HEV := Lib.hid (codeV_pos hcd)
    have HG2 := Lib.hid (show Calls Try.prog 38 #[.pointer (some ⟨l, 0, none⟩), .string (st key)] w (fun e w' => e = .returned (.tuple #[.slice none 0 0, errV cd]) ∧ Ext w w') from HG.out.mono (fun _ _ h => ⟨h.2, h.1⟩))
    clear h hi hpd hg HG hcd
    go_enter Try.func12, Try.ntmps12
    go_wp2_with (go_at_call 38; refine HG2.out.mono ?_; rintro e w1 ⟨rfl, hx1⟩)
    go_ret
    rw [HF.out]
    exact ⟨by rw [HEV.out]; rfl, LogStep.pre hx1 (LogStep.same ⟨_, _, _, rfl, H.out.ext hx1⟩)⟩
  | inl v =>
    rw [hg] at HG
    obtain ⟨y, hy1, hy2, -⟩ := get_kind hg
    have hky := (hy1.ok hi.wf).key
    rw [hy2] at hky
    have HK := Lib.hid hky
    have HF := Lib.hid (show deleteF L key = writeF L 2 key [] by unfold deleteF; rw [hg])
    have HG2 := Lib.hid (show Calls Try.prog 38 #[.pointer (some ⟨l, 0, none⟩), .string (st key)] w (fun e w' => ∃ u, e = .returned (.tuple #[u, .nilIface]) ∧ BS w' u v ∧ Ext w w') from HG.out.mono (fun _ _ ⟨h1, u, h2, h3⟩ => ⟨u, h2, h3, h1⟩))
    clear h hi hpd hg HG hy1 hy2 hky
    go_enter Try.func12, Try.ntmps12
    go_wp2_with (first
      | (go_at_call 39; refine (write_any H1.out HI.out (kind := 2) (.inr rfl) HK.out (value := []) (by simp) (BS.nil _) HPD.out).mono ?_; rintro e' wz ⟨rfl, hlz⟩; have HLZ := Lib.hid hlz; clear hlz)
      | (go_at_call 38; refine HG2.out.mono ?_; rintro e w1 ⟨u1, rfl, -, hx1⟩; have HX1 := Lib.hid hx1; have H1 := Lib.hid (H.out.ext hx1); clear hx1))
    go_ret
    rw [HF.out]
    exact ⟨rfl, LogStep.pre HX1.out HLZ.out⟩
end Go.Proofs.Ytepigkjgjlibcaa
