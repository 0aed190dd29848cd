/- Chapter 23: package flashlog: Free. Chapter 23: package flashlog: how a log changes in memory; Sync, begin. Chapter 23: package flashlog: a block's record changes; begin. Drawn regions in which operation z may leave the class, walked with values that Lean finds. -/
import Derived.Test.YtepigkjgjlibcaaGAJ
import Derived.Test.YtepigkjgjlibcaaGAC
namespace Go.Proofs.Ytepigkjgjlibcaa
open Go.RowKit Go.Deep Go.Proofs.Ytepigkjgjlibcaa.FL
set_option maxRecDepth 100000
/-- the pages that the open block has left -/
def room0 (L : Log) : Int := if 0 ≤ L.open_ then openRoom L else 0
/-- what Free computes from it -/
def room1 (L : Log) : Int :=
  if L.segment ≤ 1099511627776 ∧ 2 ≤ (freeF L).length then L.d.npages else
    if L.segment ≤ 1099511627776 ∧ (freeF L).length = 1 then (match victimF L [] with | some (_, n) => max (room0 L) ((L.d.npages : Int) - n) | none => room0 L) else room0 L
theorem freeBytes_eq {L : Log} (h : ¬ (L.broken = true ∨ 1099511627776 < L.number)) : freeBytes L = (480 * room1 L).toNat := by
  unfold freeBytes
  rw [if_neg h]
  rfl
theorem wf_ok {L : Log} (hw : LogWf L) : EntsOk L := fun b hb => by
  obtain ⟨i, hi⟩ := List.getElem?_of_mem hb
  exact ⟨(hw.ents hi).1, fun e he => ((hw.ok b hb).2.2 e he).pg.2⟩
theorem room0_bd {L : Log} (hw : LogWf L) : 0 ≤ room0 L ∧ room0 L ≤ 32 := by
  unfold room0
  split
  · unfold openRoom
    split
    · rename_i b hb
      have h1 := hw.nl b (List.mem_of_getElem? hb)
      have h2 := hw.np
      omega
    · omega
  · omega
theorem victim_in {L : Log} {key : Bs} {y : Nat × Nat} (h : victimF L key = some y) : y.1 < L.blocks.length ∧ y.2 = pagesOf (livesF L y.1 key) := by
  rw [victimF_eq] at h
  exact (vic_lt h).2
set_option maxHeartbeats 8000000 in
theorem freeb_any {w : World} {S SD : Nat → Prop} {l : Nat} {F : LogF} {G : DevF} {L : Log} (h : LogAtF w S l F SD G L) (hw : LogWf L) :
    Calls Try.prog 15 #[.pointer (some ⟨l, 0, none⟩)] w fun e w' => e = .returned (.int .i64 (freeBytes L)) ∧ Ext w w' := by
  have hb0 : 0 < L.blocks.length := by have := hw.nb.1; omega
  obtain ⟨g, c, hv⟩ := h.v hb0
  have H := Lib.hid h
  have HV := Lib.hid hv
  have HW := Lib.hid hw
  have c2 := h.row.cell (j := 2) rfl
  have c3 := h.row.cell (j := 3) rfl
  have c6 := h.row.cell (j := 6) rfl
  obtain ⟨nm, hnm⟩ : ∃ z, z = L.number := ⟨_, rfl⟩
  obtain ⟨op, hop⟩ : ∃ z, z = L.open_ := ⟨_, rfl⟩
  obtain ⟨sg, hsg⟩ : ∃ z, z = L.segment := ⟨_, rfl⟩
  obtain ⟨np, hnp⟩ : ∃ z, z = L.d.npages := ⟨_, rfl⟩
  have HE := Lib.hid (And.intro hnm (And.intro hop (And.intro hsg hnp)))
  have hnp2 : np ≤ 32 := by rw [hnp]; exact hw.np.2
  have HSEG := Lib.hid hw.seg
  rw [← hnm] at c3
  rw [← hop] at c2
  cases hbr : L.broken with
  | true =>
    have HF := Lib.hid (show freeBytes L = 0 by unfold freeBytes; rw [if_pos (.inl hbr)])
    rw [hbr] at c6
    clear h hv hw hbr hnm hop hsg hnp hb0
    go_enter Try.func15, Try.ntmps15
    go_wp2_with fail
    go_ret
    rw [HF.out]
    exact ⟨rfl, Ext.refl _⟩
  | false =>
    rw [hbr] at c6
    by_cases hfar : 1099511627776 < nm
    · have HF := Lib.hid (show freeBytes L = 0 by unfold freeBytes; rw [if_pos (.inr (by rw [← hnm]; exact hfar))])
      have hf1 : decide (1099511627776 < nm) = true := decide_eq_true hfar
      have hf2 : (1099511627776 : Int) < (nm : Int) := by omega
      clear h hv hw hbr hnm hop hsg hnp hb0 hfar
      go_enter Try.func15, Try.ntmps15
      go_wp2_with fail
      go_ret
      rw [HF.out]
      exact ⟨rfl, Ext.refl _⟩
    · have HFB := Lib.hid (freeBytes_eq (L := L) (by rw [hbr, ← hnm]; rintro (h9 | h9); cases h9; exact hfar h9))
      have hf2 : ¬ (1099511627776 : Int) < (nm : Int) := by omega
      have HPG := Lib.hid (fun W (hX : Ext w W) => pages_any (h.ext hX).dev)
      rw [← hnp] at HPG
      have HFR := Lib.hid (fun W (hX : Ext w W) => free_any (hv.ext hX) hw.nb.2)
      have HVC := Lib.hid (fun W (hX : Ext w W) => victim_any (hv.ext hX) hw.nb.2 (wf_ok hw) [])
      obtain ⟨p0, hp0⟩ : ∃ z, z = room0 L := ⟨_, rfl⟩
      have hp0b : 0 ≤ p0 ∧ p0 ≤ 32 := by rw [hp0]; exact room0_bd hw
      obtain ⟨hp01, hp02⟩ := hp0b
      have HP0 := Lib.hid hp0
      obtain ⟨o, hoI, ho1⟩ : ∃ o : Bool, o = decide (0 ≤ op) ∧ True := ⟨_, rfl, trivial⟩
      cases ho : decide (0 ≤ op) with
      | true =>
        have hop0 : 0 ≤ op := of_decide_eq_true ho
        obtain ⟨b, hb⟩ : ∃ b, L.blocks[op.toNat]? = some b := ⟨_, List.getElem?_eq_getElem (by have := hw.op.2; rw [← hop] at this; omega)⟩
        have hop1 : op < (L.blocks.length : Int) := by have := hw.op.2; rw [← hop] at this; exact this
        obtain ⟨A2, ca2, -, s0, -, -, -⟩ := hv.blk _ _ hb
        have c1 := hv.c1
        have c0 := h.row.cell (j := 0) rfl
        have hbn : b.next ≤ 32 := (hw.ents hb).2.2
        have HPE := Lib.hid (show p0 = (np : Int) - (b.next : Int) by rw [hp0, hnp]; unfold room0; rw [← hop, if_pos hop0]; unfold openRoom; rw [← hop, hb])
        have hpb : b.next ≤ np := by rw [hnp]; exact hw.nl b (List.mem_of_getElem? hb)
        clear h hv hw hbr hnm hop hsg hnp hb0 hp0 hb ho hfar hoI ho1
        go_enter Try.func15, Try.ntmps15
        go_upto_region 5 with fail
        have hwr : IntKind.i64.wrap ((np : Int) - (b.next : Int)) = p0 := by rw [IntWalk.i64_in _ (by omega)]; exact HPE.out.symm
        go_quiet ((go_at_call 19; exact Calls.quiet_of_same ((HPG.out _ ((Ext.refl _).drewN _)).mono fun _ _ h => ⟨h.1, h.2.symm⟩)))
        have HXW := Lib.hid (show Ext w (w.drewN nq) from (Ext.refl _).drewN _)
        obtain ⟨wq, hwq⟩ : ∃ z, z = w.drewN nq := ⟨_, rfl⟩
        rw [← hwq] at HXW
        rw [← hwq]
        clear hwq hwr c0 c1 c2 c3 c6 s0
        go_upto_region 7 with (go_at_call 34; refine (HFR.out _ HXW.out).mono ?_; rintro e w1 ⟨v4, rfl, hx1, hn1⟩; obtain ⟨A4, c4, rfl⟩ := hn1.slice)
        clear hn1
        obtain ⟨nf, hnf⟩ : ∃ z, z = (freeF L).length := ⟨_, rfl⟩
        rw [← hnf]
        have HNF := Lib.hid hnf
        have HX1 := Lib.hid (HXW.out.trans hx1)
        clear hnf hx1
        have d4 := (H.out.ext HX1.out).row.cell (j := 4) rfl
        rw [← HE.out.2.2.1] at d4
        by_cases hsf : 1099511627776 < sg
        · have HR := Lib.hid (show room1 L = p0 by unfold room1; rw [← HE.out.2.2.1, if_neg (fun h9 => by have := h9.1; omega), if_neg (fun h9 => by have := h9.1; omega), HP0.out])
          have hs1 : decide (sg ≤ 1099511627776) = false := decide_eq_false (by omega)
          have hs2 : ¬ (sg : Int) ≤ (1099511627776 : Int) := by omega
          clear hsf
          go_wp2_with fail
          go_ret
          refine ⟨?_, HX1.out⟩
          rw [HFB.out, HR.out]
          exact ret_int (by omega)
        · have hs2 : (sg : Int) ≤ (1099511627776 : Int) := by omega
          have HSF := Lib.hid (show sg ≤ 1099511627776 by omega)
          clear hsf
          by_cases hn2 : 2 ≤ nf
          · have HR := Lib.hid (show room1 L = (np : Int) by unfold room1; rw [← HE.out.2.2.1, if_pos ⟨HSF.out, by rw [← HNF.out]; exact hn2⟩, HE.out.2.2.2])
            have hn3 : (2 : Int) ≤ (nf : Int) := by omega
            have d0 := (H.out.ext HX1.out).row.cell (j := 0) rfl
            clear hn2
            go_wp2_with (go_at_call 19; refine (HPG.out _ HX1.out).mono ?_; rintro e w2 ⟨rfl, rfl⟩)
            go_ret
            refine ⟨?_, HX1.out⟩
            rw [HFB.out, HR.out]
            exact ret_int (by omega)
          · by_cases hn1 : nf = 1
            · have HR0 := Lib.hid (show room1 L = (match victimF L [] with | some (_, n) => max p0 ((np : Int) - n) | none => p0) by unfold room1; rw [← HE.out.2.2.1, if_neg (by rw [← HNF.out]; omega), if_pos ⟨HSF.out, by rw [← HNF.out]; exact hn1⟩, ← HP0.out, ← HE.out.2.2.2])
              have hn3 : ¬ (2 : Int) ≤ (nf : Int) := by omega
              have hn4 : ((nf : Int) == 1) = true := by rw [hn1]; rfl
              clear hn2 hn1
              cases hvc : victimF L [] with
              | none =>
                rw [hvc] at HR0
                simp only at HR0
                have HVC1 := Lib.hid (HVC.out _ HX1.out)
                rw [hvc] at HVC1
                clear hvc
                go_wp2_with (go_at_call 41; refine HVC1.out.mono ?_; rintro e w2 ⟨rfl, hx2⟩; rw [show vI none = -1 from rfl, show vN none = 0 from rfl])
                go_ret
                refine ⟨?_, HX1.out.trans hx2⟩
                rw [HFB.out, HR0.out]
                exact ret_int (by omega)
              | some y =>
                have hyn := victim_in hvc
                obtain ⟨yb, hyb⟩ : ∃ yb, L.blocks[y.1]? = some yb := ⟨_, List.getElem?_eq_getElem hyn.1⟩
                have hyp : y.2 ≤ 1024 := by rw [hyn.2]; exact lives_pages (wf_ok HW.out) hyb []
                rw [hvc] at HR0
                simp only at HR0
                have HVC1 := Lib.hid (HVC.out _ HX1.out)
                rw [hvc] at HVC1
                have hy0 : (0 : Int) ≤ ((y.1 : Nat) : Int) := by omega
                clear hvc hyn hyb
                go_wp2_with (first
                  | (go_at_call 41; refine HVC1.out.mono ?_; rintro e w2 ⟨rfl, hx2⟩; have HX2 := Lib.hid (HX1.out.trans hx2); clear hx2; rw [show vI (some y) = ((y.1 : Nat) : Int) from rfl, show vN (some y) = ((y.2 : Nat) : Int) from rfl]; have d0 := (H.out.ext HX2.out).row.cell (j := 0) rfl)
                  | (go_at_call 19; refine (HPG.out _ HX2.out).mono ?_; rintro e w3 ⟨rfl, rfl⟩))
                go_ret
                refine ⟨?_, HX2.out⟩
                rw [HFB.out, HR0.out]
                exact ret_int (by omega)
            · have HR := Lib.hid (show room1 L = p0 by unfold room1; rw [if_neg (by rw [← HNF.out]; omega), if_neg (by rw [← HNF.out]; omega), HP0.out])
              have hn3 : ¬ (2 : Int) ≤ (nf : Int) := by omega
              have hn4 : ((nf : Int) == 1) = false := by rw [beq_eq_false_iff_ne]; omega
              clear hn2 hn1
              go_wp2_with fail
              go_ret
              refine ⟨?_, HX1.out⟩
              rw [HFB.out, HR.out]
              exact ret_int (by omega)
      | false =>
        have hop0 : op < 0 := by simpa using ho
        have HPE := Lib.hid (show p0 = 0 by rw [hp0]; unfold room0; rw [← hop, if_neg (by omega)])
        clear h hv hw hbr hnm hop hsg hnp hb0 hp0 ho hfar hoI ho1
        go_enter Try.func15, Try.ntmps15
        have HXW := Lib.hid (Ext.refl w)
        obtain rfl : 0 = p0 := HPE.out.symm
        go_upto_region 7 with (go_at_call 34; refine (HFR.out _ HXW.out).mono ?_; rintro e w1 ⟨v4, rfl, hx1, hn1⟩; obtain ⟨A4, c4, rfl⟩ := hn1.slice)
        clear hn1
        obtain ⟨nf, hnf⟩ : ∃ z, z = (freeF L).length := ⟨_, rfl⟩
        rw [← hnf]
        have HNF := Lib.hid hnf
        have HX1 := Lib.hid (HXW.out.trans hx1)
        clear hnf hx1
        have d4 := (H.out.ext HX1.out).row.cell (j := 4) rfl
        rw [← HE.out.2.2.1] at d4
        by_cases hsf : 1099511627776 < sg
        · have HR := Lib.hid (show room1 L = 0 by unfold room1; rw [← HE.out.2.2.1, if_neg (fun h9 => by have := h9.1; omega), if_neg (fun h9 => by have := h9.1; omega), HP0.out])
          have hs1 : decide (sg ≤ 1099511627776) = false := decide_eq_false (by omega)
          have hs2 : ¬ (sg : Int) ≤ (1099511627776 : Int) := by omega
          clear hsf
          go_wp2_with fail
          go_ret
          refine ⟨?_, HX1.out⟩
          rw [HFB.out, HR.out]
          exact ret_int (by omega)
        · have hs2 : (sg : Int) ≤ (1099511627776 : Int) := by omega
          have HSF := Lib.hid (show sg ≤ 1099511627776 by omega)
          clear hsf
          by_cases hn2 : 2 ≤ nf
          · have HR := Lib.hid (show room1 L = (np : Int) by unfold room1; rw [← HE.out.2.2.1, if_pos ⟨HSF.out, by rw [← HNF.out]; exact hn2⟩, HE.out.2.2.2])
            have hn3 : (2 : Int) ≤ (nf : Int) := by omega
            have d0 := (H.out.ext HX1.out).row.cell (j := 0) rfl
            clear hn2
            go_wp2_with (go_at_call 19; refine (HPG.out _ HX1.out).mono ?_; rintro e w2 ⟨rfl, rfl⟩)
            go_ret
            refine ⟨?_, HX1.out⟩
            rw [HFB.out, HR.out]
            exact ret_int (by omega)
          · by_cases hn1 : nf = 1
            · have HR0 := Lib.hid (show room1 L = (match victimF L [] with | some (_, n) => max 0 ((np : Int) - n) | none => 0) by unfold room1; rw [← HE.out.2.2.1, if_neg (by rw [← HNF.out]; omega), if_pos ⟨HSF.out, by rw [← HNF.out]; exact hn1⟩, ← HP0.out, ← HE.out.2.2.2])
              have hn3 : ¬ (2 : Int) ≤ (nf : Int) := by omega
              have hn4 : ((nf : Int) == 1) = true := by rw [hn1]; rfl
              clear hn2 hn1
              cases hvc : victimF L [] with
              | none =>
                rw [hvc] at HR0
                simp only at HR0
                have HVC1 := Lib.hid (HVC.out _ HX1.out)
                rw [hvc] at HVC1
                clear hvc
                go_wp2_with (go_at_call 41; refine HVC1.out.mono ?_; rintro e w2 ⟨rfl, hx2⟩; rw [show vI none = -1 from rfl, show vN none = 0 from rfl])
                go_ret
                refine ⟨?_, HX1.out.trans hx2⟩
                rw [HFB.out, HR0.out]
                exact ret_int (by omega)
              | some y =>
                have hyn := victim_in hvc
                obtain ⟨yb, hyb⟩ : ∃ yb, L.blocks[y.1]? = some yb := ⟨_, List.getElem?_eq_getElem hyn.1⟩
                have hyp : y.2 ≤ 1024 := by rw [hyn.2]; exact lives_pages (wf_ok HW.out) hyb []
                rw [hvc] at HR0
                simp only at HR0
                have HVC1 := Lib.hid (HVC.out _ HX1.out)
                rw [hvc] at HVC1
                have hy0 : (0 : Int) ≤ ((y.1 : Nat) : Int) := by omega
                clear hvc hyn hyb
                go_wp2_with (first
                  | (go_at_call 41; refine HVC1.out.mono ?_; rintro e w2 ⟨rfl, hx2⟩; have HX2 := Lib.hid (HX1.out.trans hx2); clear hx2; rw [show vI (some y) = ((y.1 : Nat) : Int) from rfl, show vN (some y) = ((y.2 : Nat) : Int) from rfl]; have d0 := (H.out.ext HX2.out).row.cell (j := 0) rfl)
                  | (go_at_call 19; refine (HPG.out _ HX2.out).mono ?_; rintro e w3 ⟨rfl, rfl⟩))
                go_ret
                refine ⟨?_, HX2.out⟩
                rw [HFB.out, HR0.out]
                exact ret_int (by omega)
            · have HR := Lib.hid (show room1 L = 0 by unfold room1; rw [if_neg (by rw [← HNF.out]; omega), if_neg (by rw [← HNF.out]; omega), HP0.out])
              have hn3 : ¬ (2 : Int) ≤ (nf : Int) := by omega
              have hn4 : ((nf : Int) == 1) = false := by rw [beq_eq_false_iff_ne]; omega
              clear hn2 hn1
              go_wp2_with fail
              go_ret
              refine ⟨?_, HX1.out⟩
              rw [HFB.out, HR.out]
              exact ret_int (by omega)
end Go.Proofs.Ytepigkjgjlibcaa
namespace Go.Proofs.Ytepigkjgjlibcaa
open Go.RowKit Go.Deep Go.Proofs.Ytepigkjgjlibcaa.FL
set_option maxRecDepth 100000
/-- a log in memory, on the device at dv -/
def LogOn (w : World) (S : Nat → Prop) (l dv : Nat) (L : Log) : Prop := ∃ F SD G, F.dv = dv ∧ LogAtF w S l F SD G L
theorem LogOn.mod {w w' : World} {S X : Nat → Prop} {l dv : Nat} {L : Log} (h : LogOn w S l dv L) (hm : Mod X w w') (h8 : No8 w X) (hX : ∀ x, S x → ¬ X x) : LogOn w' S l dv L := by
  obtain ⟨F, SD, G, hdv, h⟩ := h
  exact ⟨F, SD, G, hdv, h.mod hm h8 hX⟩
theorem LogOn.ext {w w' : World} {S : Nat → Prop} {l dv : Nat} {L : Log} (h : LogOn w S l dv L) (hx : Ext w w') : LogOn w' S l dv L := h.mod (Mod.of_ext (fun _ => False) hx) (no8_false w) (fun _ _ h => h)
def LogStep (w w' : World) (S : Nat → Prop) (l dv : Nat) (L : Log) : Prop := ∃ S', LogOn w' S' l dv L ∧ Mod S w w' ∧ ∀ x, S' x → S x ∨ w.heap.size ≤ x
theorem LogStep.trans {a b c : World} {S S' : Nat → Prop} {l dv : Nat} {L : Log} (hm : Mod S a b) (hs : ∀ x, S' x → S x ∨ a.heap.size ≤ x) (h : LogStep b c S' l dv L) : LogStep a c S l dv L := by
  obtain ⟨S2, h1, h2, h3⟩ := h
  refine ⟨S2, h1, hm.then h2 hs, fun x hx => ?_⟩
  rcases h3 x hx with h4 | h4
  · exact hs x h4
  · exact .inr (Nat.le_trans hm.size h4)
theorem LogStep.pre {a b c : World} {S : Nat → Prop} {l dv : Nat} {L : Log} (hx : Ext a b) (h : LogStep b c S l dv L) : LogStep a c S l dv L := LogStep.trans (Mod.of_ext S hx) (fun _ h => .inl h) h
theorem LogStep.post {a b c : World} {S : Nat → Prop} {l dv : Nat} {L : Log} (h : LogStep a b S l dv L) (hx : Ext b c) : LogStep a c S l dv L := by
  obtain ⟨S', h1, h2, h3⟩ := h
  exact ⟨S', h1.ext hx, h2.ext' hx, h3⟩
theorem LogStep.same {w : World} {S : Nat → Prop} {l dv : Nat} {L : Log} (h : LogOn w S l dv L) : LogStep w w S l dv L := ⟨S, h, Mod.refl _ _, fun _ h => .inl h⟩
theorem own_apart {w : World} {B : Nat} {e : TypeId} {k n : Nat} {v : Value} {xs : List Value} (h : w.ownsRow B e k v n xs) {tys : List TypeId} {SD : Nat → Prop} (ht : Typed w tys SD) (he : e ∉ tys) : ∀ x, v.ownBlock = some x → ¬ SD x := by
  intro x hx hS
  obtain ⟨C, T, fr, h1, h2⟩ := ht x hS
  rcases h.2 with ⟨e2, -⟩ | ⟨g, cap, cur, e2, -, hg, -⟩
  · rw [e2] at hx; cases hx
  · rw [e2] at hx
    cases hx
    rw [hg] at h1
    cases h1
    exact he h2
theorem EntsAt.notin {w : World} {B : Nat} {v : Value} {l : List Ent} (h : EntsAt w B v l) {tys : List TypeId} {SD : Nat → Prop} (ht : Typed w tys SD) (he : 90 ∉ tys) : ∀ x, v.ownBlock = some x → ¬ SD x := by
  obtain ⟨vs, -, h2, -⟩ := h
  exact own_apart h2 ht he
theorem LBsAt.ent_of {w : World} {bv : Value} {es : List Value} {bs : List LB} (h : LBsAt w bv es bs) {u : Value} (hu : u ∈ es) : ∃ b, EntsAt w 0 u b := by
  obtain ⟨i, hi⟩ := List.getElem?_of_mem hu
  exact ⟨_, h.ents i _ u (List.getElem?_eq_getElem (by have := (List.getElem?_eq_some_iff.1 hi).1; rw [h.len] at this; exact this)) hi⟩
/-- the device alone changes -/
theorem LogAtF.devstep {w w' : World} {S SD : Nat → Prop} {l : Nat} {F : LogF} {G : DevF} {L : Log} (h : LogAtF w S l F SD G L) {D : Dev} (hd : DevStep w w' SD F.dv D) :
    ∃ S' SD' G', LogAtF w' S' l F SD' G' { L with d := D } ∧ Mod S w w' ∧ ∀ x, S' x → S x ∨ w.heap.size ≤ x := by
  obtain ⟨SD', G', h1, h2, h3⟩ := hd
  have hl : ¬ SD l := h.dev.ty.apart h.row (by decide)
  have hb := own_apart h.blks.own h.dev.ty (by decide)
  have he : ∀ u ∈ F.es, ∀ x, u.ownBlock = some x → ¬ SD x := fun u hu => by
    obtain ⟨b, hb⟩ := h.blks.ent_of hu
    exact hb.notin h.dev.ty (by decide)
  refine ⟨fun x => (S x ∧ ¬ SD x) ∨ SD' x, SD', G', ⟨h2.rowB h.row hl, h1, h.blks.mod h2 h.dev.no8 hb he, ⟨.inl ⟨h.inS.1, hl⟩, fun x hx => .inl ⟨h.inS.2.1 x hx, hb x hx⟩, fun u hu x hx => .inl ⟨h.inS.2.2.1 u hu x hx, he u hu x hx⟩, fun x hx => .inr hx⟩, fun x hx => ?_⟩, h2.mono (fun x _ hx => h.inS.2.2.2 x hx), fun x hx => ?_⟩
  · rcases hx with ⟨h4, h5⟩ | h4
    · obtain ⟨C, T, fr, h6, h7⟩ := h.ty x h4
      exact ⟨C, T, fr, (h2.block x (Typed.lt h.ty h4) h5).trans h6, h7⟩
    · obtain ⟨C, T, fr, h6, h7⟩ := h1.ty x h4
      exact ⟨C, T, fr, h6, List.mem_append_left _ h7⟩
  · rcases hx with ⟨h4, -⟩ | h4
    · exact .inl h4
    · exact (h3 x h4).imp (fun h5 => h.inS.2.2.2 x h5) id
/-- the log's own record alone changes -/
theorem LogAtF.rec_ {w w' : World} {S SD : Nat → Prop} {l : Nat} {F : LogF} {G : DevF} {L : Log} (h : LogAtF w S l F SD G L) (hm : Mod (fun x => x = l) w w') {op : Int} {nm sg : Nat} {cl : Int} {br : Bool}
    (hr : RowB w' l 78 [.pointer (some ⟨F.dv, 0, none⟩), F.bv, .int .i64 op, .int .i64 nm, .int .i64 sg, .int .i64 cl, .bool br]) :
    LogAtF w' S l F SD G { L with open_ := op, number := nm, segment := sg, cleaned := cl, broken := br } := by
  have h8 : No8 w (fun x => x = l) := no8_row h.row (by decide)
  have hl : ¬ SD l := h.dev.ty.apart h.row (by decide)
  refine ⟨hr, h.dev.mod hm h8 (fun x hx e => hl (e ▸ hx)), h.blks.mod hm h8 (fun x hx e => ?_) (fun u hu x hx e => ?_), h.inS, fun x hx => ?_⟩
  · exact own_apart h.blks.own (tys := [78]) (SD := fun x => x = l) (fun y hy => by rw [show y = l from hy]; exact row_typed h.row (by decide)) (by decide) x hx e
  · obtain ⟨b, hb⟩ := h.blks.ent_of hu
    exact hb.apart h.row (by decide) (by rw [hx, show x = l from e])
  · by_cases hxl : x = l
    · subst hxl; exact row_typed hr (by decide)
    · obtain ⟨C, T, fr, h1, h2⟩ := h.ty x hx
      exact ⟨C, T, fr, (hm.block x (Typed.lt h.ty hx) hxl).trans h1, h2⟩
theorem syncF_ok {L : Log} (hb : L.broken = false) {d : Dev} (hs : syncD L.d = (0, d)) : syncF L = (0, { L with d := d }) := by
  unfold syncF
  rw [hb, hs]
  rfl
theorem syncF_err {L : Log} (hb : L.broken = false) {c : Nat} {d : Dev} (hc : c ≠ 0) (hs : syncD L.d = (c, d)) : syncF L = (c, { L with d := d, broken := true }) := by
  unfold syncF
  rw [hb, hs]
  cases c with
  | zero => exact absurd rfl hc
  | succ c => rfl
theorem errV_ne (c : Nat) : (errV c : Value) ≠ .nilIface := by intro h; cases h
set_option maxHeartbeats 4000000 in
theorem logsync_any {w : World} {S SD : Nat → Prop} {l : Nat} {F : LogF} {G : DevF} {L : Log} (h : LogAtF w S l F SD G L) :
    Calls Try.prog 22 #[.pointer (some ⟨l, 0, none⟩)] w fun e w' => e = .returned (codeV (syncF L).1) ∧ LogStep w w' S l F.dv (syncF L).2 := by
  have H := Lib.hid h
  have c0 := h.row.cell (j := 0) rfl
  have c6 := h.row.cell (j := 6) rfl
  have HD := Lib.hid (devsync_any h.dev)
  cases hbr : L.broken with
  | true =>
    have HF := Lib.hid (show syncF L = (6, L) by unfold syncF; rw [hbr]; rfl)
    rw [hbr] at c6
    clear h hbr
    go_enter Try.func22, Try.ntmps22
    go_wp2_with fail
    go_ret
    rw [HF.out]
    exact ⟨rfl, LogStep.same ⟨_, _, _, rfl, H.out⟩⟩
  | false =>
    have HBR := Lib.hid hbr
    rw [hbr] at c6
    rcases hs : syncD L.d with ⟨cd, d'⟩
    rw [hs] at HD
    simp only at HD
    cases cd with
    | zero =>
      have HF := Lib.hid (syncF_ok hbr hs)
      clear h hbr hs
      go_enter Try.func22, Try.ntmps22
      go_wp2_with (go_at_call 37; refine HD.out.mono ?_; rintro e w1 ⟨rfl, hd1⟩; rw [codeV_zero]; have HD1 := Lib.hid hd1; clear hd1)
      go_ret
      rw [HF.out]
      obtain ⟨S', SD', G', h1, h2, h3⟩ := H.out.devstep HD1.out
      exact ⟨rfl, S', ⟨_, _, _, rfl, h1⟩, h2, h3⟩
    | succ cd =>
      have HF := Lib.hid (syncF_err hbr (Nat.succ_ne_zero cd) hs)
      obtain ⟨cn, hcn⟩ : ∃ z : Int, z = ((cd + 1 : Nat) : Int) := ⟨_, rfl⟩
      have HEV := Lib.hid (show codeV (cd + 1) = errV cn by rw [codeV_pos (Nat.succ_ne_zero cd), hcn])
      rw [HEV.out] at HD
      clear h hbr hs hcn
      go_enter Try.func22, Try.ntmps22
      go_upto_region 7 with (go_at_call 37; refine HD.out.mono ?_; rintro e w1 ⟨rfl, hd1⟩; have HD1 := Lib.hid hd1; clear hd1)
      obtain ⟨S', SD', G', h1, h2, h3⟩ := H.out.devstep HD1.out
      have H1 := Lib.hid h1
      have HM := Lib.hid (And.intro h2 h3)
      clear h1 h2 h3 c0 c6
      have c6 := H1.out.row.cell (j := 6) rfl
      have f6 := H1.out.row.frozen (j := 6) (by simp)
      go_wp2_with fail
      go_ret
      rw [HF.out]
      have hm := mod_set w1 l 6 (.bool true)
      have hr := H1.out.row.set 6 (.bool true) (by simp)
      refine ⟨by rw [HEV.out]; rfl, S', ⟨_, _, _, rfl, H1.out.rec_ hm hr⟩, HM.out.1.then hm (fun x hx => ?_), HM.out.2⟩
      rw [show x = l from hx]
      exact .inl H.out.inS.1
end Go.Proofs.Ytepigkjgjlibcaa
namespace Go.Proofs.Ytepigkjgjlibcaa
open Go.RowKit Go.Deep Go.Proofs.Ytepigkjgjlibcaa.FL
set_option maxRecDepth 100000
theorem own_set {w : World} {B : Nat} {e : TypeId} {k n g c : Nat} {xs : List Value} (h : w.ownsRow B e k (.slice (some ⟨g, 0, none⟩) n c) n xs) (j : Nat) (v : Value) (_hj : j < xs.length) :
    (w.setCell ⟨g, j, none⟩ v).ownsRow B e k (.slice (some ⟨g, 0, none⟩) n c) n (xs.set j v) := by
  refine ⟨by rw [List.length_set]; exact h.1, .inr ?_⟩
  rcases h.2 with ⟨e2, -⟩ | ⟨g', cap, cur, e2, hb, hg, hn, hm, hz, ht⟩
  · cases e2
  · cases e2
    refine ⟨g, c, cur.setIfInBounds j v, rfl, hb, ?_, hn, hm, by rw [Array.size_setIfInBounds]; exact hz, ?_⟩
    · simp [World.setCell, Array.getElem?_modify, hg]
    · rw [Array.toList_setIfInBounds, List.take_set, ht]
theorem zip_setl {α β : Type} (bs : List α) (es : List β) (i : Nat) (a : α) (e : β) (he : es[i]? = some e) : (bs.set i a).zip es = (bs.zip es).set i (a, e) := by
  induction bs generalizing i es with
  | nil => simp
  | cons x r ih =>
    cases es with
    | nil => simp at he
    | cons y s =>
      cases i with
      | zero => cases he; rfl
      | succ i => rw [List.set_cons_succ, List.zip_cons_cons, List.zip_cons_cons, List.set_cons_succ, ih s i he]
theorem zip_some {α β : Type} {bs : List α} {es : List β} {i : Nat} {a : α} {e : β} (ha : bs[i]? = some a) (he : es[i]? = some e) : (bs.zip es)[i]? = some (a, e) := by rw [List.getElem?_zip_eq_some]; exact ⟨ha, he⟩
theorem LBsAt.put {w : World} {es : List Value} {bs : List LB} {g c : Nat} (h : LBsAt w (.slice (some ⟨g, 0, none⟩) bs.length c) es bs) {i : Nat} {b b' : LB} (hb : bs[i]? = some b) {j : Nat} (hj : j < 3) {v : Value}
    (hy : ∀ u, lbCells (b', u) = (lbCells (b, u)).set j v) (hent : b'.entries = b.entries) : LBsAt (w.setCell ⟨g, i * 4 + j, none⟩ v) (.slice (some ⟨g, 0, none⟩) (bs.set i b').length c) es (bs.set i b') := by
  have hi := (List.getElem?_eq_some_iff.1 hb).1
  obtain ⟨u, hu⟩ : ∃ u, es[i]? = some u := ⟨_, List.getElem?_eq_getElem (by rw [h.len]; exact hi)⟩
  have hm : Mod (fun x => x = g) w (w.setCell ⟨g, i * 4 + j, none⟩ v) := mod_set w g _ v
  have hr := (own_row h.own).1
  have h8 : No8 w (fun x => x = g) := no8_row hr (by decide)
  refine ⟨by rw [List.length_set]; exact h.len, ?_, fun k c u hc hu2 => ?_, h.apart⟩
  · have h1 := own_set h.own (i * 4 + j) v (by rw [flat_len lbCells 4 lbCells_len, List.length_zip, h.len, Nat.min_self]; omega)
    rw [flat_set lbCells 4 lbCells_len (bs.zip es) i j (by omega) v (b, u) (b', u) (zip_some hb hu) (hy u), ← zip_setl bs es i b' u hu] at h1
    rw [List.length_set]
    exact h1
  · have hne : ∀ x, u.ownBlock = some x → ¬ x = g := fun x hx e => by
      by_cases hki : k < bs.length
      · have h2 := h.ents k _ u (List.getElem?_eq_getElem hki) hu2
        exact h2.apart hr (by decide) (by rw [hx, e])
      · have h3 := (List.getElem?_eq_some_iff.1 hc).1
        rw [List.length_set] at h3
        exact hki h3
    by_cases hki : k = i
    · subst hki
      rw [List.getElem?_set_self hi] at hc
      cases hc
      rw [hent]
      exact (h.ents k b u hb hu2).mod hm h8 hne
    · rw [List.getElem?_set_ne (Ne.symm hki)] at hc
      exact (h.ents k c u hc hu2).mod hm h8 hne
theorem LogAtF.block {w : World} {S SD : Nat → Prop} {l : Nat} {F : LogF} {G : DevF} {L : Log} (h : LogAtF w S l F SD G L) {g c : Nat} (hbv : F.bv = .slice (some ⟨g, 0, none⟩) L.blocks.length c) {i : Nat} {b b' : LB} (hb : L.blocks[i]? = some b) {j : Nat} (hj : j < 3) {v : Value}
    (hy : ∀ u, lbCells (b', u) = (lbCells (b, u)).set j v) (hent : b'.entries = b.entries) : LogAtF (w.setCell ⟨g, i * 4 + j, none⟩ v) S l F SD G { L with blocks := L.blocks.set i b' } ∧ S g := by
  have hb0 := h.blks
  rw [hbv] at hb0
  have hr := (own_row hb0.own).1
  have hm : Mod (fun x => x = g) w (w.setCell ⟨g, i * 4 + j, none⟩ v) := mod_set w g _ v
  have h8 : No8 w (fun x => x = g) := no8_row hr (by decide)
  have hg : S g := h.inS.2.1 g (by rw [hbv]; rfl)
  have hlg : l ≠ g := h.row.apart hr (by decide)
  refine ⟨⟨hm.rowB h.row hlg, h.dev.mod hm h8 (fun x hx e => (h.dev.ty.apart hr (by decide)) (e ▸ hx)), ?_, h.inS, fun x hx => ?_⟩, hg⟩
  · have := hb0.put hb hj hy hent
    rw [hbv]
    rw [List.length_set] at this
    exact this
  · by_cases hxg : x = g
    · subst hxg
      have := (own_row (own_set hb0.own (i * 4 + j) v (by rw [flat_len lbCells 4 lbCells_len, List.length_zip, hb0.len, Nat.min_self]; have := (List.getElem?_eq_some_iff.1 hb).1; omega))).1
      exact row_typed this (by decide)
    · obtain ⟨C, T, fr, h1, h2⟩ := h.ty x hx
      exact ⟨C, T, fr, (hm.block x (Typed.lt h.ty hx) hxg).trans h1, h2⟩
theorem setLB_at {L : Log} {i : Nat} {b : LB} {f : LB → LB} (h : L.blocks[i]? = some b) : setLB L i f = { L with blocks := L.blocks.set i (f b) } := by
  unfold setLB
  rw [h]
set_option maxHeartbeats 4000000 in
theorem begin_any {w : World} {S SD : Nat → Prop} {l : Nat} {F : LogF} {G : DevF} {L : Log} (h : LogAtF w S l F SD G L) {i : Nat} {b : LB} (hb : L.blocks[i]? = some b) (hs : L.segment ≤ 1099511627777) (h64 : L.blocks.length ≤ 64) :
    Calls Try.prog 59 #[.pointer (some ⟨l, 0, none⟩), .int .i64 i] w fun e w' => e = .returned (.tuple #[]) ∧ LogAtF w' S l F SD G (beginF L i) ∧ Mod S w w' := by
  have hi := (List.getElem?_eq_some_iff.1 hb).1
  obtain ⟨g, c, hbv⟩ := h.blks.addr (by omega)
  obtain ⟨g2, c2, A, ca, e2, -, -, s0, s1, -, -⟩ := h.blks.get hb
  rw [hbv] at e2
  cases e2
  have hr := h.row
  rw [hbv] at hr
  obtain ⟨n, hn⟩ : ∃ n, n = L.blocks.length := ⟨_, rfl⟩
  rw [← hn] at hr hi
  have hii : (i : Int) < (n : Int) := by omega
  obtain ⟨sg, hsg⟩ : ∃ z, z = L.segment := ⟨_, rfl⟩
  rw [← hsg] at hr hs
  have hsi : (sg : Int) ≤ 1099511627777 := by omega
  -- the three stores
  have hm1 := mod_set w l 2 (.int .i64 i)
  have hr1 := h.row.set 2 (.int .i64 i) (by simp)
  have h1 := h.rec_ (op := i) hm1 hr1
  obtain ⟨w1, hw1⟩ : ∃ z, z = w.setCell ⟨l, 2, none⟩ (.int .i64 i) := ⟨_, rfl⟩
  rw [← hw1] at h1 hm1 hr1
  obtain ⟨h2, hSg⟩ := h1.block hbv hb (j := 1) (b' := { b with segment := sg }) (v := .int .i64 sg) (by decide) (fun u => rfl) rfl
  obtain ⟨w2, hw2⟩ : ∃ z, z = w1.setCell ⟨g, i * 4 + 1, none⟩ (.int .i64 sg) := ⟨_, rfl⟩
  rw [← hw2] at h2
  have hm2 : Mod (fun x => x = g) w1 w2 := by rw [hw2]; exact mod_set w1 g _ _
  have hm3 := mod_set w2 l 4 (.int .i64 (sg + 1 : Nat))
  have hr3 := h2.row.set 4 (.int .i64 (sg + 1 : Nat)) (by simp)
  have h3 := h2.rec_ hm3 hr3
  have H3 := Lib.hid h3
  have HM := Lib.hid (show Mod S w (w2.setCell ⟨l, 4, none⟩ (.int .i64 (sg + 1 : Nat))) from ((hm1.mono (fun x _ hx => by rw [show x = l from hx]; exact h.inS.1)).then hm2 (fun x hx => .inl (by rw [show x = g from hx]; exact hSg))).then hm3 (fun x hx => .inl (by rw [show x = l from hx]; exact h.inS.1)))
  have HB := Lib.hid (show beginF L i = { L with blocks := L.blocks.set i { b with segment := sg }, open_ := i, segment := sg + 1 } by unfold beginF; rw [setLB_at hb, ← hsg])
  have f2 := hr.frozen (j := 2) (by simp)
  have c2 := hr.cell (j := 2) rfl
  have D1 := Lib.hid h1.row
  have D2 := Lib.hid h2.row
  have D3 := Lib.hid (hm1.cell s1 (fun e => by
    have hrr := (own_row (by have := h.blks.own; rw [hbv] at this; exact this)).1
    exact h.row.apart hrr (by decide) (show g = l from e).symm))
  have D4 := Lib.hid (by
    have hrr := h1.blks.own
    rw [show (F.bv) = _ from hbv] at hrr
    exact (own_row hrr).1.frozen (j := i * 4 + 1) (by rw [flat_len lbCells 4 lbCells_len, List.length_zip, h1.blks.len, Nat.min_self]; show i * 4 + 1 < L.blocks.length * 4; omega))
  have HW := Lib.hid (And.intro hw1 hw2)
  rw [← hn] at hbv
  have HBV := Lib.hid hbv
  have HSG := Lib.hid hsg
  clear h hb hm1 hr1 h1 h2 hSg hm2 hm3 hr3 h3 s0 s1 hw1 hw2 hr hn hbv hsg hs h64 hi
  go_enter Try.func59, Try.ntmps59
  go_upto_region 1 with fail
  rw [← HW.out.1]
  clear f2 c2
  have d1 := D1.out.cell (j := 1) rfl
  have d4 := D1.out.cell (j := 4) rfl
  simp only at d1 d4
  rw [HBV.out] at d1
  rw [← HSG.out] at d4
  have d3 := D3.out
  have d5 := D4.out
  refine wp_region_tail (C := fun W => ∃ n, W = w1.drewN n) 11 (by kernel_rfl) (by kernel_rfl) ⟨1, rfl⟩ ?_
  simp only [List.take_succ_cons, List.take_zero, List.drop_succ_cons, List.drop_zero]
  repeat (go_big_quiet_step (fail))
  refine wpQuiet_nil ?_
  rintro _ ⟨nq, rfl⟩
  go_upto_region 2 with fail
  rw [show (w1.drewN nq).setCell ⟨g, i * 4 + 1, none⟩ (.int .i64 sg) = w2.drewN nq by rw [HW.out.2]; rfl]
  clear d1 d4 d3 d5
  have e4 := D2.out.cell (j := 4) rfl
  have f4 := D2.out.frozen (j := 4) (by simp)
  simp only at e4
  rw [← HSG.out] at e4
  go_wp2_with fail
  go_end0
  rw [HB.out, show (w2.drewN nq).setCell ⟨l, 4, none⟩ (.int .i64 ((sg : Int) + 1)) = (w2.setCell ⟨l, 4, none⟩ (.int .i64 (sg + 1 : Nat))).drewN nq from rfl]
  exact ⟨rfl, H3.out.ext ((Ext.refl _).drewN _), HM.out.drewN _⟩
end Go.Proofs.Ytepigkjgjlibcaa
namespace Go.Proofs.Ytepigkjgjlibcaa
open Go.RowKit
section
variable {P : Program} {ops : Array Oper} {md : Region.Mode} {C : World → Prop} {z : Nat} {Q : Exit → Act → World → Prop} {f : Nat} {seen : Array Bool} {a : Act} {w : World}
theorem qE_take {i : Nat} {oi : Oper} {v : Value} {s : Option Nat} (hz : waitsT md ops 3 z i = true) (hcl : closedB md ops seen = true) (hi : ops[i]? = some oi) (hd : oi.dst = s) (hs : Region.noSelect ops = true) (hf : Region.free md ops seen i = true) (hr : (Region.ready md ops seen).contains i = true)
    (hQ : ∀ c a w, Q (.panic c) (a.put s v) w → Q (.panic c) a w) (hw : C w) (hg : Region.wanted oi (yielded ops a.tmps) = true) (hy : ∀ w, C w → (execOp a.eval oi).run P w = .ok (.value v) w)
    (h : wpAnyE P md ops C z Q f (seen.setIfInBounds i true) (a.put s v) w) : wpAnyE P md ops C z Q (f + 1) seen a w := by
  subst hd
  exact wpAnyE_take hz hcl hi hs hf hr hQ hw hg hy h
theorem qE_skip {i : Nat} {oi : Oper} {s : Option Nat} (hz : waitsT md ops 3 z i = true) (hcl : closedB md ops seen = true) (hi : ops[i]? = some oi) (hd : oi.dst = s) (hs : Region.noSelect ops = true) (hf : Region.free md ops seen i = true) (hr : (Region.ready md ops seen).contains i = true)
    (hQ : ∀ c a w, Q (.panic c) (a.put s undef) w → Q (.panic c) a w) (hw : C w) (hg : Region.wanted oi (yielded ops a.tmps) = false)
    (h : wpAnyE P md ops C z Q f (seen.setIfInBounds i true) (a.put s undef) w) : wpAnyE P md ops C z Q (f + 1) seen a w := by
  subst hd
  exact wpAnyE_skip hz hcl hi hs hf hr hQ hw hg h
/-- the only operation left, z itself: what comes behind it is done -/
theorem wpAnyE_last (i : Nat) {o : Oper} (hr : Region.ready md ops seen = [i]) (hi : ops[i]? = some o) (hg : Region.wanted o (yielded ops a.tmps) = true) (hiz : i = z)
    (h : ∀ K : Act → World → Prop, (∀ a w, wpAnyE P md ops C z Q f (seen.setIfInBounds i true) a w → K a w) → Oper.wp P o a w K Q) : wpAnyE P md ops C z Q (f + 1) seen a w :=
  wpAnyE_one i hr hi hg fun K hK => h K fun a w h1 => hK a w (.inl hiz) h1
end
end Go.Proofs.Ytepigkjgjlibcaa
