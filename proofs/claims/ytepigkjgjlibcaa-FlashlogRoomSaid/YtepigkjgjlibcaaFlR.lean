/- Chapter 23: package flashlog: read. -/
import Derived.Test.YtepigkjgjlibcaaGAF
namespace Go.Proofs.Ytepigkjgjlibcaa
open Go.RowKit Go.Deep Go.Proofs.Ytepigkjgjlibcaa.FL
set_option maxRecDepth 100000
section
variable {l : Bs} {d : Rec}
theorem readF_inr {c : Nat} (h : decF l = .inr c) : readF l = none := by unfold readF; rw [h]
theorem readF_head (h : decF l = .inl d) (hb : 512 ≤ d.size ∨ (d.kind ≠ 1 ∧ d.kind ≠ 2)) (hl : l.length = 512) : readF l = none := by
  unfold readF
  rw [h]
  simp only
  rw [if_pos (by rw [hl]; omega)]
theorem readF_rest (h : decF l = .inl d) (hb : ¬ (512 ≤ d.size ∨ (d.kind ≠ 1 ∧ d.kind ≠ 2))) (hl : l.length = 512) (ha : (l.drop d.size).any (· ≠ 0) = true) : readF l = none := by
  unfold readF
  rw [h]
  simp only
  rw [if_neg (by rw [hl]; omega), if_pos ha]
theorem readF_cur (h : decF l = .inl d) (hb : ¬ (512 ≤ d.size ∨ (d.kind ≠ 1 ∧ d.kind ≠ 2))) (hl : l.length = 512) (ha : (l.drop d.size).any (· ≠ 0) = false) {s1 s2 s3 : Nat × Cur} (h1 : s1 = uintF (some d.payload)) (h2 : s2 = uintF s1.2) (h3 : s3 = uintF s2.2) :
    readF l = match s3.2 with
      | none => none
      | some left => if 1099511627776 < s1.1 ∨ s3.1 < 1 ∨ s3.1 ≤ s2.1 then none else some ⟨d.kind, d.number, s1.1, s2.1, s3.1, left⟩ := by
  subst h1 h2 h3
  unfold readF
  rw [h]
  simp only
  rw [if_neg (by rw [hl]; omega), if_neg (by rw [ha]; simp)]
  rcases (uintF (uintF (uintF (some d.payload)).2).2).2 with _ | left <;> rfl
end
theorem decF_le {l : Bs} {d : Rec} (h : decF l = .inl d) : d.payload.length ≤ l.length ∧ d.size ≤ l.length := by
  unfold decF at h
  split at h
  · cases h
  · simp only at h
    split at h
    · cases h
    · split at h
      · cases h
      · split at h
        · cases h
        · split at h
          · cases h
          · split at h
            · cases h
            · split at h
              · cases h
              · split at h
                · cases h
                  refine ⟨?_, ?_⟩
                  · simp only [List.length_drop, List.length_take]
                    omega
                  · simp only
                    omega
                · cases h
theorem uintF_suffix {b r : Bs} (h : (uintF (some b)).2 = some r) : r = b.drop (b.length - r.length) ∧ r.length ≤ b.length ∧ 1 ≤ b.length := by
  unfold uintF at h
  simp only at h
  split at h
  · cases h
  · rename_i hn
    cases h
    have h1 := takeF_le 9 b 0 0
    rw [List.length_drop]
    refine ⟨?_, by omega, by omega⟩
    congr 1
    omega
def pgZ : List Value := [.int .i64 0, .int .i64 0, .int .i64 0, .int .i64 0, .int .i64 0, .slice none 0 0]
def ReadPost (w' : World) (e : Ending) : Option Pg → Prop
  | none => e = .returned (.tuple #[.agg #[.int .i64 0, .int .i64 0, .int .i64 0, .int .i64 0, .int .i64 0, .slice none 0 0], .bool false])
  | some p => ∃ v, e = .returned (.tuple #[.agg #[.int .i64 p.kind, .int .i64 p.number, .int .i64 p.segment, .int .i64 p.part, .int .i64 p.parts, v], .bool true]) ∧ BS w' v p.data
set_option maxHeartbeats 16000000 in
theorem fread_any {w : World} {v : Value} {l : Bs} (h : BS w v l) (hl : l.length = 512) :
    Calls Try.prog 71 #[v] w fun e w' => Ext w w' ∧ ReadPost w' e (readF l) := by
  obtain ⟨A, cap, rfl, hcap, hne⟩ := h.slice
  obtain ⟨g, o, rfl⟩ := hne (by intro e; rw [e] at hl; cases hl)
  have HL := Lib.hid hl
  obtain ⟨wz, hwz⟩ : ∃ z, z = w.alloc (.cells #[.int .i64 0, .int .i64 0, .int .i64 0, .int .i64 0, .int .i64 0, .slice none 0 0] 129) := ⟨_, rfl⟩
  have HXZ := Lib.hid (show Ext w wz by rw [hwz]; exact (Ext.refl w).alloc _)
  have HRZ : Hid (RowB wz w.heap.size 129 [.int .i64 0, .int .i64 0, .int .i64 0, .int .i64 0, .int .i64 0, .slice none 0 0]) := Lib.hid (by rw [hwz]; exact row_laid w _ _)
  have HB := Lib.hid h
  rw [hl] at HB hcap ⊢
  have HDC := Lib.hid (decode_any (HB.out.ext HXZ.out) (by rw [hl]; omega))
  clear h hl hne
  cases hdec : decF l with
  | inr c =>
    rw [hdec] at HDC
    have HD := Lib.hid (readF_inr hdec)
    clear hdec
    go_enter Try.func71, Try.ntmps71
    go_upto_region 1 with fail
    rw [← hwz]
    clear hwz
    go_upto_region 3 with (go_at_call 89; refine HDC.out.mono ?_; rintro e w1 ⟨hx1, c1, rfl⟩)
    have HX1 := Lib.hid hx1
    have HR1 := Lib.hid (HRZ.out.ext hx1)
    clear hx1
    obtain ⟨w2, hw2⟩ : ∃ z, z = w1.alloc (.cells #[.int .i64 0, .int .i64 0, .slice none 0 0] 138) := ⟨_, rfl⟩
    rw [← hw2]
    have HX2 : Hid (Ext w w2) := Lib.hid (by rw [hw2]; exact (HXZ.out.trans HX1.out).alloc _)
    have HR2 : Hid (RowB w2 w.heap.size 129 [.int .i64 0, .int .i64 0, .int .i64 0, .int .i64 0, .int .i64 0, .slice none 0 0]) := Lib.hid (by rw [hw2]; exact HR1.out.ext ((Ext.refl _).alloc _))
    clear hw2
    have e0 := (HR2.out).cell (j := 0) rfl
    have e1 := (HR2.out).cell (j := 1) rfl
    have e2 := (HR2.out).cell (j := 2) rfl
    have e3 := (HR2.out).cell (j := 3) rfl
    have e4 := (HR2.out).cell (j := 4) rfl
    have e5 := (HR2.out).cell (j := 5) rfl
    have q0 := (HR2.out).frozen (j := 0) (by simp)
    have q1 := (HR2.out).frozen (j := 1) (by simp)
    have q2 := (HR2.out).frozen (j := 2) (by simp)
    have q3 := (HR2.out).frozen (j := 3) (by simp)
    have q4 := (HR2.out).frozen (j := 4) (by simp)
    have q5 := (HR2.out).frozen (j := 5) (by simp)
    obtain ⟨hr9, hm9⟩ := row_set6 HR2.out (.int .i64 0) (.int .i64 0) (.int .i64 0) (.int .i64 0) (.int .i64 0) (.slice none 0 0)
    have HR9 := Lib.hid hr9
    have HM9 := Lib.hid (Mod.ext (((Mod.of_ext (fun _ => False) HX2.out).then hm9 (fun i hi => .inr (by omega)))) (fun _ h => h.elim))
    clear hr9 hm9
    go_wp2_with fail
    have r0 := (HR9.out).cell (j := 0) rfl
    have r1 := (HR9.out).cell (j := 1) rfl
    have r2 := (HR9.out).cell (j := 2) rfl
    have r3 := (HR9.out).cell (j := 3) rfl
    have r4 := (HR9.out).cell (j := 4) rfl
    have r5 := (HR9.out).cell (j := 5) rfl
    refine bodyPost_ret (by simp [results, Try.results71, go_sem, r0, r1, r2, r3, r4, r5]; try rfl) rfl ?_
    exact ⟨HM9.out, by rw [HD.out]; rfl⟩
  | inl d =>
    rw [hdec] at HDC
    have HD := Lib.hid hdec
    clear hdec
    go_enter Try.func71, Try.ntmps71
    go_upto_region 1 with fail
    rw [← hwz]
    clear hwz
    go_upto_region 2 with (go_at_call 89; refine HDC.out.mono ?_; rintro e w1 ⟨hx1, u, rfl, hu⟩; obtain ⟨Au, cu, rfl, -, -⟩ := hu.bs.slice)
    have HX1 := Lib.hid hx1
    have HU1 := Lib.hid hu.bs
    clear hx1 hu
    obtain ⟨w2, hw2⟩ : ∃ z, z = w1.alloc (.cells #[.int .i64 d.kind, .int .i64 d.number, .slice Au d.payload.length cu] 138) := ⟨_, rfl⟩
    rw [← hw2]
    have HX12 : Hid (Ext w1 w2) := Lib.hid (by rw [hw2]; exact (Ext.refl w1).alloc _)
    have HRR : Hid (RowB w2 w1.heap.size 138 [.int .i64 d.kind, .int .i64 d.number, .slice Au d.payload.length cu]) := Lib.hid (by rw [hw2]; exact row_laid w1 _ _)
    have HX2 := Lib.hid (HXZ.out.trans (HX1.out.trans HX12.out))
    have HR2 := Lib.hid (HRZ.out.ext (HX1.out.trans HX12.out))
    have HU2 := Lib.hid (HU1.out.ext HX12.out)
    have HB2 := Lib.hid (HB.out.ext HX2.out)
    obtain ⟨rr, hrr⟩ : ∃ x, x = w1.heap.size := ⟨_, rfl⟩
    rw [← hrr] at HRR
    rw [← hrr]
    have HRRN := Lib.hid (show rr ≠ w.heap.size from HRR.out.apart HR2.out (by decide))
    clear hw2 hrr HX12 HU1
    by_cases hbad : 512 ≤ d.size ∨ (d.kind ≠ 1 ∧ d.kind ≠ 2)
    · have HN := Lib.hid (readF_head HD.out hbad HL.out)
      have e0 := (HR2.out).cell (j := 0) rfl
      have e1 := (HR2.out).cell (j := 1) rfl
      have e2 := (HR2.out).cell (j := 2) rfl
      have e3 := (HR2.out).cell (j := 3) rfl
      have e4 := (HR2.out).cell (j := 4) rfl
      have e5 := (HR2.out).cell (j := 5) rfl
      have q0 := (HR2.out).frozen (j := 0) (by simp)
      have q1 := (HR2.out).frozen (j := 1) (by simp)
      have q2 := (HR2.out).frozen (j := 2) (by simp)
      have q3 := (HR2.out).frozen (j := 3) (by simp)
      have q4 := (HR2.out).frozen (j := 4) (by simp)
      have q5 := (HR2.out).frozen (j := 5) (by simp)
      obtain ⟨hr9, hm9⟩ := row_set6 HR2.out (.int .i64 0) (.int .i64 0) (.int .i64 0) (.int .i64 0) (.int .i64 0) (.slice none 0 0)
      have HR9 := Lib.hid hr9
      have HM9 := Lib.hid (Mod.ext (((Mod.of_ext (fun _ => False) HX2.out).then hm9 (fun i hi => .inr (by omega)))) (fun _ h => h.elim))
      have k0 := HRR.out.cell (j := 0) rfl
      clear hr9 hm9
      by_cases hs : 512 ≤ d.size
      · have hsi : (512 : Int) ≤ (d.size : Int) := by omega
        clear hbad hs
        go_wp2_with fail
        have r0 := (HR9.out).cell (j := 0) rfl
        have r1 := (HR9.out).cell (j := 1) rfl
        have r2 := (HR9.out).cell (j := 2) rfl
        have r3 := (HR9.out).cell (j := 3) rfl
        have r4 := (HR9.out).cell (j := 4) rfl
        have r5 := (HR9.out).cell (j := 5) rfl
        refine bodyPost_ret (by simp [results, Try.results71, go_sem, r0, r1, r2, r3, r4, r5]; try rfl) rfl ?_
        exact ⟨HM9.out, by rw [HN.out]; rfl⟩
      · have hsi : (d.size : Int) < 512 := by omega
        have hk1 : ((d.kind : Int) != 1) = true := by rw [bne_iff_ne]; omega
        have hk2 : ((d.kind : Int) != 2) = true := by rw [bne_iff_ne]; omega
        clear hbad hs
        go_wp2_with fail
        have r0 := (HR9.out).cell (j := 0) rfl
        have r1 := (HR9.out).cell (j := 1) rfl
        have r2 := (HR9.out).cell (j := 2) rfl
        have r3 := (HR9.out).cell (j := 3) rfl
        have r4 := (HR9.out).cell (j := 4) rfl
        have r5 := (HR9.out).cell (j := 5) rfl
        refine bodyPost_ret (by simp [results, Try.results71, go_sem, r0, r1, r2, r3, r4, r5]; try rfl) rfl ?_
        exact ⟨HM9.out, by rw [HN.out]; rfl⟩
    · have HBAD := Lib.hid hbad
      have hsi : (d.size : Int) < 512 := by omega
      go_cut [39] (fun v wx => v = .bool false ∧ wx = w2)
      case first =>
        have k0 := HRR.out.cell (j := 0) rfl
        by_cases hk : d.kind = 1
        · have hk1 : ((d.kind : Int) != 1) = false := by rw [hk]; rfl
          clear hbad hk
          go_wp2_with fail
          go_meet
          exact ⟨by first | rfl | rw [decide_eq_false (by omega)], rfl⟩
        · have hk1 : ((d.kind : Int) != 1) = true := by rw [bne_iff_ne]; omega
          have hk2 : ((d.kind : Int) != 2) = false := by rw [show d.kind = 2 by omega]; rfl
          clear hbad hk
          go_wp2_with fail
          go_meet
          exact ⟨by first | rfl | rw [decide_eq_false (by omega)], rfl⟩
      case rest =>
      obtain ⟨rfl, rfl⟩ := hcut
      clear hbad
      go_upto_region 5 with fail
      obtain ⟨sz, hsz⟩ : ∃ sz, sz = d.size := ⟨_, rfl⟩
      have HSZ := Lib.hid hsz
      rw [← hsz] at hsi ⊢
      have hnn : ((512 - sz : Nat) : Int) = 512 - (sz : Int) := by omega
      clear hsz
      go_loopw [45] (fun i wr => ∃ k : Nat, i = .int .i64 k ∧ k ≤ 512 - sz ∧ wr = wc ∧ Hid (∀ j, j < k → (l.drop sz)[j]? = some 0)) (fun i _ => 512 - (intOf i).toNat)
      case atStart => exact ⟨0, rfl, by omega, rfl, Lib.hid (fun j hj => by omega)⟩
      case round =>
        obtain ⟨k, rfl, hk, rfl, hW⟩ := hrel
        by_cases hkn : k < 512 - sz
        · have hki : (k : Int) < 512 - (sz : Int) := by omega
          obtain ⟨g', o', eg, hx⟩ := HB2.out.at (sz + k) (by rw [HL.out]; omega)
          cases eg
          obtain ⟨x, hx2⟩ : ∃ x, l[sz + k]? = some x := ⟨_, List.getElem?_eq_getElem (by rw [HL.out]; omega)⟩
          have hxe : l[sz + k]'(by rw [HL.out]; omega) = x := (List.getElem?_eq_some_iff.1 hx2).2
          rw [hxe, ← Nat.add_assoc] at hx
          have HX := Lib.hid hx2
          clear hx2 hxe
          by_cases hz : x.toNat = 0
          · have hzi : ((x.toNat : Int) != 0) = false := by rw [hz]; rfl
            have HZ := Lib.hid hz
            clear hz
            go_wp2_with fail
            exact ⟨⟨k + 1, by go_num, by omega, (by first | rfl | trivial), Lib.hid (fun j hj => by
              rcases Nat.lt_or_ge j k with h1 | h1
              · exact hW.out j h1
              · obtain rfl : j = k := by omega
                rw [List.getElem?_drop, HX.out]
                congr 1
                exact UInt8.toNat_inj.1 HZ.out)⟩, by simp [intOf]; omega⟩
          · have hzi : ((x.toNat : Int) != 0) = true := by rw [bne_iff_ne]; omega
            have HZ := Lib.hid (readF_rest HD.out HBAD.out HL.out (by
              rw [List.any_eq_true]
              refine ⟨x, ?_, ?_⟩
              · rw [← HSZ.out]
                exact List.mem_of_getElem? (i := k) (by rw [List.getElem?_drop]; exact HX.out)
              · simp only [ne_eq, decide_not, Bool.not_eq_true', decide_eq_false_iff_not]
                intro e
                rw [e] at hz
                exact hz rfl))
            have e0 := (HR2.out).cell (j := 0) rfl
            have e1 := (HR2.out).cell (j := 1) rfl
            have e2 := (HR2.out).cell (j := 2) rfl
            have e3 := (HR2.out).cell (j := 3) rfl
            have e4 := (HR2.out).cell (j := 4) rfl
            have e5 := (HR2.out).cell (j := 5) rfl
            have q0 := (HR2.out).frozen (j := 0) (by simp)
            have q1 := (HR2.out).frozen (j := 1) (by simp)
            have q2 := (HR2.out).frozen (j := 2) (by simp)
            have q3 := (HR2.out).frozen (j := 3) (by simp)
            have q4 := (HR2.out).frozen (j := 4) (by simp)
            have q5 := (HR2.out).frozen (j := 5) (by simp)
            obtain ⟨hr9, hm9⟩ := row_set6 HR2.out (.int .i64 0) (.int .i64 0) (.int .i64 0) (.int .i64 0) (.int .i64 0) (.slice none 0 0)
            have HR9 := Lib.hid hr9
            have HM9 := Lib.hid (Mod.ext (((Mod.of_ext (fun _ => False) HX2.out).then hm9 (fun i hi => .inr (by omega)))) (fun _ h => h.elim))
            clear hr9 hm9 hz
            go_wp2_with fail
            have r0 := (HR9.out).cell (j := 0) rfl
            have r1 := (HR9.out).cell (j := 1) rfl
            have r2 := (HR9.out).cell (j := 2) rfl
            have r3 := (HR9.out).cell (j := 3) rfl
            have r4 := (HR9.out).cell (j := 4) rfl
            have r5 := (HR9.out).cell (j := 5) rfl
            refine bodyPost_ret (by simp [results, Try.results71, go_sem, r0, r1, r2, r3, r4, r5]; try rfl) rfl ?_
            exact ⟨HM9.out, by rw [HZ.out]; rfl⟩
        · have hki : 512 - (sz : Int) ≤ (k : Int) := by omega
          have HA : Hid ((l.drop d.size).any (· ≠ 0) = false) := Lib.hid (by
            rw [List.any_eq_false]
            intro x hx
            obtain ⟨j, hj⟩ := List.getElem?_of_mem hx
            have h1 := (List.getElem?_eq_some_iff.1 hj).1
            rw [List.length_drop, HL.out] at h1
            have h2 := hW.out j (by rw [HSZ.out] at hkn; omega)
            rw [HSZ.out, hj] at h2
            cases h2
            simp)
          have k2 := HRR.out.cell (j := 2) rfl
          have HUL := Lib.hid (show d.payload.length ≤ 1000000 by have := decF_le HD.out; rw [HL.out] at this; omega)
          go_upto_region 11 with (go_at_call 90; refine (read_any HU2.out HUL.out).mono ?_; rintro e w3 ⟨c, rfl, hx3, hc3, hcur⟩)
          have HX3 := Lib.hid hx3
          have HRR3 := Lib.hid (HRR.out.ext hx3)
          have HU3' := Lib.hid (HU2.out.ext hx3)
          have HC3 := Lib.hid hc3
          have HCUR := Lib.hid hcur
          have HCL := Lib.hid (show c < w3.heap.size by obtain ⟨v, ev, hr, -⟩ := hcur.row; exact hr.lt)
          have HRC := Lib.hid (show rr ≠ c ∧ rr < w3.heap.size from ⟨by have := HRR.out.lt; have := HC3.out; omega, HRR3.out.lt⟩)
          clear hx3 hc3 hcur k2 hW
          obtain ⟨s1, hs1⟩ : ∃ s, s = uintF (some d.payload) := ⟨_, rfl⟩
          obtain ⟨s2, hs2⟩ : ∃ s, s = uintF s1.2 := ⟨_, rfl⟩
          obtain ⟨s3, hs3⟩ : ∃ s, s = uintF s2.2 := ⟨_, rfl⟩
          have HRF := Lib.hid (readF_cur HD.out HBAD.out HL.out HA.out hs1 hs2 hs3)
          have HL1 := Lib.hid (show ∀ m, s1.2 = some m → m.length ≤ 1000000 from fun m hm => by
            rw [hs1] at hm
            obtain ⟨m0, e0, h0⟩ := uintF_le hm
            cases e0
            have := HUL.out
            omega)
          have HL2 := Lib.hid (show ∀ m, s2.2 = some m → m.length ≤ 1000000 from fun m hm => by
            rw [hs2] at hm
            obtain ⟨m0, e0, h0⟩ := uintF_le hm
            have := HL1.out m0 e0
            omega)
          have HU1 : Hid (∀ W, CurAt W c (some d.payload) → Calls Try.prog 91 #[.pointer (some ⟨c, 0, none⟩)] W fun e w' => e = .returned (.int .i64 s1.1) ∧ Mod (fun x => x = c) W w' ∧ CurAt w' c s1.2) := Lib.hid (fun W h => by rw [hs1]; exact uint_any h (fun m hm => by cases hm; exact HUL.out))
          have HU2 : Hid (∀ W, CurAt W c s1.2 → Calls Try.prog 91 #[.pointer (some ⟨c, 0, none⟩)] W fun e w' => e = .returned (.int .i64 s2.1) ∧ Mod (fun x => x = c) W w' ∧ CurAt w' c s2.2) := Lib.hid (fun W h => by rw [hs2]; exact uint_any h HL1.out)
          have HU3 : Hid (∀ W, CurAt W c s2.2 → Calls Try.prog 91 #[.pointer (some ⟨c, 0, none⟩)] W fun e w' => e = .returned (.int .i64 s3.1) ∧ Mod (fun x => x = c) W w' ∧ CurAt w' c s3.2) := Lib.hid (fun W h => by rw [hs3]; exact uint_any h HL2.out)
          have HS3 := Lib.hid (show ∀ m, s3.2 = some m → m.length ≤ d.payload.length ∧ True from fun m hm => ⟨by
            rw [hs3] at hm
            obtain ⟨m0, e0, h0⟩ := uintF_le hm
            rw [hs2] at e0
            obtain ⟨m1, e1, h1⟩ := uintF_le e0
            rw [hs1] at e1
            obtain ⟨m2, e2, h2⟩ := uintF_le e1
            cases e2
            omega, trivial⟩)
          have HSX := Lib.hid (show ∀ m, s3.2 = some m → m = d.payload.drop (d.payload.length - m.length) ∧ m.length ≤ d.payload.length ∧ 1 ≤ d.payload.length from fun m hm => by
            rw [hs3] at hm
            obtain ⟨m0, e0, h0⟩ := uintF_le hm
            rw [e0] at hm
            rw [hs2] at e0
            obtain ⟨m1, e1, h1⟩ := uintF_le e0
            rw [e1] at e0
            rw [hs1] at e1
            obtain ⟨f1, f2, f3⟩ := uintF_suffix hm
            obtain ⟨g1, g2, g3⟩ := uintF_suffix e0
            obtain ⟨k1, k2, k3⟩ := uintF_suffix e1
            refine ⟨?_, by omega, k3⟩
            have z1 : m = m1.drop (m1.length - m.length) := by
              have := f1
              rw [g1, List.drop_drop, List.length_drop] at this
              rw [show m1.length - m0.length + (m1.length - (m1.length - m0.length) - m.length) = m1.length - m.length by omega] at this
              exact this
            have := z1
            rw [k1, List.drop_drop, List.length_drop] at this
            rw [show d.payload.length - m1.length + (d.payload.length - (d.payload.length - m1.length) - m.length) = d.payload.length - m.length by omega] at this
            exact this)
          clear hs1 hs2 hs3
          go_cut [10] (fun v10 wx => Hid (∃ gp, v10 = .pointer (some ⟨gp, 0, none⟩) ∧ Mod (fun x => x = c) w3 wx ∧ w3.heap.size ≤ gp ∧ RowB wx gp 129 [.int .i64 d.kind, .int .i64 d.number, .int .i64 s1.1, .int .i64 s2.1, .int .i64 s3.1, .slice none 0 0] ∧ CurAt wx c s3.2))
          case first =>
            clear HSX HS3 HRF HL1 HL2 HUL HA HBAD HD HB2 HU3' HC3 HX3 HRR HR2 HX2 HSZ HRRN HX1 HB HRZ HXZ HL hcap hsi hnn hk hkn hki
            refine wp_region_C (C := fun W => Mod (fun x => x = c ∨ w3.heap.size ≤ x) w3 W) (by kernel_rfl) ?_
            obtain ⟨wv, hwv⟩ : ∃ z, z = w3.drew := ⟨_, rfl⟩
            have HM : Hid (Mod (fun x => x = c) w3 wv) := Lib.hid (by rw [hwv]; exact Mod.of_ext _ (Ext.refl _).drew)
            have HU : Hid (CurAt wv c (some d.payload)) := Lib.hid (by rw [hwv]; exact HCUR.out.ext (Ext.refl _).drew)
            rw [← hwv]
            clear hwv
            refine qC_take (i := 0) (s := some 56) (v := ?v1) rfl rfl (by kernel_rfl) (by kernel_rfl) (by kernel_rfl) (fun _ _ _ h => h) (HM.out.mono (fun x _ h => .inl h)) (by kernel_rfl) ?hy1 ?h1
            case hy1 => intro W hW; have h9 := HRC.out; have b0 := hW.cell (HRR3.out.cell (j := 0) rfl) (by show ¬ (_ = _ ∨ _); simp only; omega); have b1 := hW.cell (HRR3.out.cell (j := 1) rfl) (by show ¬ (_ = _ ∨ _); simp only; omega); go_simp; exact rfl
            try simp only [Act.put, List.setIfInBounds_toArray, List.set_cons_succ, List.set_cons_zero]
            refine qC_take (i := 2) (s := some 58) (v := ?v2) rfl rfl (by kernel_rfl) (by kernel_rfl) (by kernel_rfl) (fun _ _ _ h => h) (HM.out.mono (fun x _ h => .inl h)) (by kernel_rfl) ?hy2 ?h2
            case hy2 => intro W hW; have h9 := HRC.out; have b0 := hW.cell (HRR3.out.cell (j := 0) rfl) (by show ¬ (_ = _ ∨ _); simp only; omega); have b1 := hW.cell (HRR3.out.cell (j := 1) rfl) (by show ¬ (_ = _ ∨ _); simp only; omega); go_simp; exact rfl
            try simp only [Act.put, List.setIfInBounds_toArray, List.set_cons_succ, List.set_cons_zero]
            refine qC_take (i := 4) (s := some 60) (v := ?v3) rfl rfl (by kernel_rfl) (by kernel_rfl) (by kernel_rfl) (fun _ _ _ h => h) (HM.out.mono (fun x _ h => .inl h)) (by kernel_rfl) ?hy3 ?h3
            case hy3 => intro W hW; have h9 := HRC.out; have b0 := hW.cell (HRR3.out.cell (j := 0) rfl) (by show ¬ (_ = _ ∨ _); simp only; omega); have b1 := hW.cell (HRR3.out.cell (j := 1) rfl) (by show ¬ (_ = _ ∨ _); simp only; omega); go_simp; exact rfl
            try simp only [Act.put, List.setIfInBounds_toArray, List.set_cons_succ, List.set_cons_zero]
            refine qC_take (i := 6) (s := some 62) (v := ?v4) rfl rfl (by kernel_rfl) (by kernel_rfl) (by kernel_rfl) (fun _ _ _ h => h) (HM.out.mono (fun x _ h => .inl h)) (by kernel_rfl) ?hy4 ?h4
            case hy4 => intro W hW; have h9 := HRC.out; have b0 := hW.cell (HRR3.out.cell (j := 0) rfl) (by show ¬ (_ = _ ∨ _); simp only; omega); have b1 := hW.cell (HRR3.out.cell (j := 1) rfl) (by show ¬ (_ = _ ∨ _); simp only; omega); go_simp; exact rfl
            try simp only [Act.put, List.setIfInBounds_toArray, List.set_cons_succ, List.set_cons_zero]
            refine qC_take (i := 8) (s := some 64) (v := ?v5) rfl rfl (by kernel_rfl) (by kernel_rfl) (by kernel_rfl) (fun _ _ _ h => h) (HM.out.mono (fun x _ h => .inl h)) (by kernel_rfl) ?hy5 ?h5
            case hy5 => intro W hW; have h9 := HRC.out; have b0 := hW.cell (HRR3.out.cell (j := 0) rfl) (by show ¬ (_ = _ ∨ _); simp only; omega); have b1 := hW.cell (HRR3.out.cell (j := 1) rfl) (by show ¬ (_ = _ ∨ _); simp only; omega); go_simp; exact rfl
            try simp only [Act.put, List.setIfInBounds_toArray, List.set_cons_succ, List.set_cons_zero]
            refine qC_take (i := 1) (s := some 57) (v := ?v6) rfl rfl (by kernel_rfl) (by kernel_rfl) (by kernel_rfl) (fun _ _ _ h => h) (HM.out.mono (fun x _ h => .inl h)) (by kernel_rfl) ?hy6 ?h6
            case hy6 => intro W hW; have h9 := HRC.out; have b0 := hW.cell (HRR3.out.cell (j := 0) rfl) (by show ¬ (_ = _ ∨ _); simp only; omega); have b1 := hW.cell (HRR3.out.cell (j := 1) rfl) (by show ¬ (_ = _ ∨ _); simp only; omega); go_simp; exact rfl
            try simp only [Act.put, List.setIfInBounds_toArray, List.set_cons_succ, List.set_cons_zero]
            refine qC_take (i := 3) (s := some 59) (v := ?v7) rfl rfl (by kernel_rfl) (by kernel_rfl) (by kernel_rfl) (fun _ _ _ h => h) (HM.out.mono (fun x _ h => .inl h)) (by kernel_rfl) ?hy7 ?h7
            case hy7 => intro W hW; have h9 := HRC.out; have b0 := hW.cell (HRR3.out.cell (j := 0) rfl) (by show ¬ (_ = _ ∨ _); simp only; omega); have b1 := hW.cell (HRR3.out.cell (j := 1) rfl) (by show ¬ (_ = _ ∨ _); simp only; omega); go_simp; exact rfl
            try simp only [Act.put, List.setIfInBounds_toArray, List.set_cons_succ, List.set_cons_zero]
            --@REGION11
            refine wpAnyC_two 5 11 (by kernel_rfl) ?_ ?_
            · refine wpOpC_of rfl (by kernel_rfl) (fun KK hKK => ?_)
              go_simp
              refine (HU1.out _ HU.out).mono ?_
              rintro e wv ⟨rfl, hm, hu⟩
              have HM := Lib.hid (HM.out.trans hm)
              have HU := Lib.hid hu
              refine hKK _ _ (HM.out.mono (fun x _ h => .inl h)) ?_
              clear hKK KK hm hu
              try simp only [Act.put, List.setIfInBounds_toArray, List.set_cons_succ, List.set_cons_zero]
              refine wpAnyC_two 7 11 (by kernel_rfl) ?_ ?_
              · refine wpOpC_of rfl (by kernel_rfl) (fun KK hKK => ?_)
                go_simp
                refine (HU2.out _ HU.out).mono ?_
                rintro e wv ⟨rfl, hm, hu⟩
                have HM := Lib.hid (HM.out.trans hm)
                have HU := Lib.hid hu
                refine hKK _ _ (HM.out.mono (fun x _ h => .inl h)) ?_
                clear hKK KK hm hu
                try simp only [Act.put, List.setIfInBounds_toArray, List.set_cons_succ, List.set_cons_zero]
                refine wpAnyC_two 9 11 (by kernel_rfl) ?_ ?_
                · refine wpOpC_of rfl (by kernel_rfl) (fun KK hKK => ?_)
                  go_simp
                  refine (HU3.out _ HU.out).mono ?_
                  rintro e wv ⟨rfl, hm, hu⟩
                  have HM := Lib.hid (HM.out.trans hm)
                  have HU := Lib.hid hu
                  refine hKK _ _ (HM.out.mono (fun x _ h => .inl h)) ?_
                  clear hKK KK hm hu
                  try simp only [Act.put, List.setIfInBounds_toArray, List.set_cons_succ, List.set_cons_zero]
                  refine qC_take (i := 10) (s := some 66) (v := ?v8) rfl rfl (by kernel_rfl) (by kernel_rfl) (by kernel_rfl) (fun _ _ _ h => h) (HM.out.mono (fun x _ h => .inl h)) (by kernel_rfl) ?hy8 ?h8
                  case hy8 => intro W hW; skip; go_simp; exact rfl
                  try simp only [Act.put, List.setIfInBounds_toArray, List.set_cons_succ, List.set_cons_zero]
                  refine wpAnyC_one 11 (by kernel_rfl) rfl (by kernel_rfl) (fun KK hKK => ?_)
                  go_simp
                  obtain ⟨wn, hwn⟩ : ∃ z, z = wv.alloc (.cells #[.int .i64 0, .int .i64 0, .int .i64 0, .int .i64 0, .int .i64 0, .slice none 0 0] 129) := ⟨_, rfl⟩
                  obtain ⟨gp, hgp⟩ : ∃ z, z = wv.heap.size := ⟨_, rfl⟩
                  have HG : Hid (RowB wn gp 129 [.int .i64 0, .int .i64 0, .int .i64 0, .int .i64 0, .int .i64 0, .slice none 0 0] ∧ w3.heap.size ≤ gp) := Lib.hid (by rw [hwn, hgp]; exact ⟨row_laid wv _ _, HM.out.size⟩)
                  have hm : Mod (fun x => x = c) wv wn := by rw [hwn]; exact (Mod.refl _ _).alloc _
                  have hu : CurAt wn c s3.2 := by rw [hwn]; exact HU.out.ext ((Ext.refl _).alloc _)
                  rw [← hwn, ← hgp]
                  have HM := Lib.hid (HM.out.trans hm)
                  have HU := Lib.hid hu
                  refine hKK _ _ (HM.out.mono (fun x _ h => .inl h)) ?_
                  clear hKK KK hm hu hwn hgp
                  try simp only [Act.put, List.setIfInBounds_toArray, List.set_cons_succ, List.set_cons_zero]
                  have e0 := (HG.out.1).cell (j := 0) rfl
                  have e1 := (HG.out.1).cell (j := 1) rfl
                  have e2 := (HG.out.1).cell (j := 2) rfl
                  have e3 := (HG.out.1).cell (j := 3) rfl
                  have e4 := (HG.out.1).cell (j := 4) rfl
                  have e5 := (HG.out.1).cell (j := 5) rfl
                  have q0 := (HG.out.1).frozen (j := 0) (by simp)
                  have q1 := (HG.out.1).frozen (j := 1) (by simp)
                  have q2 := (HG.out.1).frozen (j := 2) (by simp)
                  have q3 := (HG.out.1).frozen (j := 3) (by simp)
                  have q4 := (HG.out.1).frozen (j := 4) (by simp)
                  have q5 := (HG.out.1).frozen (j := 5) (by simp)
                  refine wpAnyC_one 12 (by kernel_rfl) rfl (by kernel_rfl) (fun KK hKK => ?_)
                  go_simp
                  obtain ⟨hr9, hm9⟩ := row_set6 HG.out.1 (.int .i64 d.kind) (.int .i64 d.number) (.int .i64 s1.1) (.int .i64 s2.1) (.int .i64 s3.1) (.slice none 0 0)
                  have HR9 := Lib.hid hr9
                  have HM9 := Lib.hid (HM.out.then hm9 (fun x hx => .inr (by rw [hx]; exact HG.out.2)))
                  have HU9 := Lib.hid (CurAt.mod HU.out hm9 (fun e => by have := HG.out.2; have := HCL.out; omega) (no8_row HG.out.1 (by decide)))
                  refine hKK _ _ (HM9.out.mono (fun x _ h => .inl h)) ?_
                  clear hKK KK hr9 hm9
                  try simp only [Act.put, List.setIfInBounds_toArray, List.set_cons_succ, List.set_cons_zero]
                  refine ⟨by kernel_rfl, ?_⟩
                  go_wp2_with fail
                  go_meet
                  exact Lib.hid ⟨gp, rfl, HM9.out, HG.out.2, HR9.out, HU9.out⟩
                · refine wpOpC_of rfl (by kernel_rfl) (fun KK hKK => ?_)
                  go_simp
                  obtain ⟨wn, hwn⟩ : ∃ z, z = wv.alloc (.cells #[.int .i64 0, .int .i64 0, .int .i64 0, .int .i64 0, .int .i64 0, .slice none 0 0] 129) := ⟨_, rfl⟩
                  obtain ⟨gp, hgp⟩ : ∃ z, z = wv.heap.size := ⟨_, rfl⟩
                  have HG : Hid (RowB wn gp 129 [.int .i64 0, .int .i64 0, .int .i64 0, .int .i64 0, .int .i64 0, .slice none 0 0] ∧ w3.heap.size ≤ gp) := Lib.hid (by rw [hwn, hgp]; exact ⟨row_laid wv _ _, HM.out.size⟩)
                  have hm : Mod (fun x => x = c) wv wn := by rw [hwn]; exact (Mod.refl _ _).alloc _
                  have hu : CurAt wn c s2.2 := by rw [hwn]; exact HU.out.ext ((Ext.refl _).alloc _)
                  rw [← hwn, ← hgp]
                  have HM := Lib.hid (HM.out.trans hm)
                  have HU := Lib.hid hu
                  refine hKK _ _ (HM.out.mono (fun x _ h => .inl h)) ?_
                  clear hKK KK hm hu hwn hgp
                  try simp only [Act.put, List.setIfInBounds_toArray, List.set_cons_succ, List.set_cons_zero]
                  refine wpAnyC_one 9 (by kernel_rfl) rfl (by kernel_rfl) (fun KK hKK => ?_)
                  go_simp
                  refine (HU3.out _ HU.out).mono ?_
                  rintro e wv ⟨rfl, hm, hu⟩
                  have HG := Lib.hid (And.intro (hm.rowB HG.out.1 (fun e => by have := HG.out.2; have := HCL.out; omega)) HG.out.2)
                  have HM := Lib.hid (HM.out.trans hm)
                  have HU := Lib.hid hu
                  refine hKK _ _ (HM.out.mono (fun x _ h => .inl h)) ?_
                  clear hKK KK hm hu
                  try simp only [Act.put, List.setIfInBounds_toArray, List.set_cons_succ, List.set_cons_zero]
                  refine qC_take (i := 10) (s := some 66) (v := ?v9) rfl rfl (by kernel_rfl) (by kernel_rfl) (by kernel_rfl) (fun _ _ _ h => h) (HM.out.mono (fun x _ h => .inl h)) (by kernel_rfl) ?hy9 ?h9
                  case hy9 => intro W hW; skip; go_simp; exact rfl
                  try simp only [Act.put, List.setIfInBounds_toArray, List.set_cons_succ, List.set_cons_zero]
                  have e0 := (HG.out.1).cell (j := 0) rfl
                  have e1 := (HG.out.1).cell (j := 1) rfl
                  have e2 := (HG.out.1).cell (j := 2) rfl
                  have e3 := (HG.out.1).cell (j := 3) rfl
                  have e4 := (HG.out.1).cell (j := 4) rfl
                  have e5 := (HG.out.1).cell (j := 5) rfl
                  have q0 := (HG.out.1).frozen (j := 0) (by simp)
                  have q1 := (HG.out.1).frozen (j := 1) (by simp)
                  have q2 := (HG.out.1).frozen (j := 2) (by simp)
                  have q3 := (HG.out.1).frozen (j := 3) (by simp)
                  have q4 := (HG.out.1).frozen (j := 4) (by simp)
                  have q5 := (HG.out.1).frozen (j := 5) (by simp)
                  refine wpAnyC_one 12 (by kernel_rfl) rfl (by kernel_rfl) (fun KK hKK => ?_)
                  go_simp
                  obtain ⟨hr9, hm9⟩ := row_set6 HG.out.1 (.int .i64 d.kind) (.int .i64 d.number) (.int .i64 s1.1) (.int .i64 s2.1) (.int .i64 s3.1) (.slice none 0 0)
                  have HR9 := Lib.hid hr9
                  have HM9 := Lib.hid (HM.out.then hm9 (fun x hx => .inr (by rw [hx]; exact HG.out.2)))
                  have HU9 := Lib.hid (CurAt.mod HU.out hm9 (fun e => by have := HG.out.2; have := HCL.out; omega) (no8_row HG.out.1 (by decide)))
                  refine hKK _ _ (HM9.out.mono (fun x _ h => .inl h)) ?_
                  clear hKK KK hr9 hm9
                  try simp only [Act.put, List.setIfInBounds_toArray, List.set_cons_succ, List.set_cons_zero]
                  refine ⟨by kernel_rfl, ?_⟩
                  go_wp2_with fail
                  go_meet
                  exact Lib.hid ⟨gp, rfl, HM9.out, HG.out.2, HR9.out, HU9.out⟩
              · refine wpOpC_of rfl (by kernel_rfl) (fun KK hKK => ?_)
                go_simp
                obtain ⟨wn, hwn⟩ : ∃ z, z = wv.alloc (.cells #[.int .i64 0, .int .i64 0, .int .i64 0, .int .i64 0, .int .i64 0, .slice none 0 0] 129) := ⟨_, rfl⟩
                obtain ⟨gp, hgp⟩ : ∃ z, z = wv.heap.size := ⟨_, rfl⟩
                have HG : Hid (RowB wn gp 129 [.int .i64 0, .int .i64 0, .int .i64 0, .int .i64 0, .int .i64 0, .slice none 0 0] ∧ w3.heap.size ≤ gp) := Lib.hid (by rw [hwn, hgp]; exact ⟨row_laid wv _ _, HM.out.size⟩)
                have hm : Mod (fun x => x = c) wv wn := by rw [hwn]; exact (Mod.refl _ _).alloc _
                have hu : CurAt wn c s1.2 := by rw [hwn]; exact HU.out.ext ((Ext.refl _).alloc _)
                rw [← hwn, ← hgp]
                have HM := Lib.hid (HM.out.trans hm)
                have HU := Lib.hid hu
                refine hKK _ _ (HM.out.mono (fun x _ h => .inl h)) ?_
                clear hKK KK hm hu hwn hgp
                try simp only [Act.put, List.setIfInBounds_toArray, List.set_cons_succ, List.set_cons_zero]
                refine wpAnyC_one 7 (by kernel_rfl) rfl (by kernel_rfl) (fun KK hKK => ?_)
                go_simp
                refine (HU2.out _ HU.out).mono ?_
                rintro e wv ⟨rfl, hm, hu⟩
                have HG := Lib.hid (And.intro (hm.rowB HG.out.1 (fun e => by have := HG.out.2; have := HCL.out; omega)) HG.out.2)
                have HM := Lib.hid (HM.out.trans hm)
                have HU := Lib.hid hu
                refine hKK _ _ (HM.out.mono (fun x _ h => .inl h)) ?_
                clear hKK KK hm hu
                try simp only [Act.put, List.setIfInBounds_toArray, List.set_cons_succ, List.set_cons_zero]
                refine wpAnyC_one 9 (by kernel_rfl) rfl (by kernel_rfl) (fun KK hKK => ?_)
                go_simp
                refine (HU3.out _ HU.out).mono ?_
                rintro e wv ⟨rfl, hm, hu⟩
                have HG := Lib.hid (And.intro (hm.rowB HG.out.1 (fun e => by have := HG.out.2; have := HCL.out; omega)) HG.out.2)
                have HM := Lib.hid (HM.out.trans hm)
                have HU := Lib.hid hu
                refine hKK _ _ (HM.out.mono (fun x _ h => .inl h)) ?_
                clear hKK KK hm hu
                try simp only [Act.put, List.setIfInBounds_toArray, List.set_cons_succ, List.set_cons_zero]
                refine qC_take (i := 10) (s := some 66) (v := ?v10) rfl rfl (by kernel_rfl) (by kernel_rfl) (by kernel_rfl) (fun _ _ _ h => h) (HM.out.mono (fun x _ h => .inl h)) (by kernel_rfl) ?hy10 ?h10
                case hy10 => intro W hW; skip; go_simp; exact rfl
                try simp only [Act.put, List.setIfInBounds_toArray, List.set_cons_succ, List.set_cons_zero]
                have e0 := (HG.out.1).cell (j := 0) rfl
                have e1 := (HG.out.1).cell (j := 1) rfl
                have e2 := (HG.out.1).cell (j := 2) rfl
                have e3 := (HG.out.1).cell (j := 3) rfl
                have e4 := (HG.out.1).cell (j := 4) rfl
                have e5 := (HG.out.1).cell (j := 5) rfl
                have q0 := (HG.out.1).frozen (j := 0) (by simp)
                have q1 := (HG.out.1).frozen (j := 1) (by simp)
                have q2 := (HG.out.1).frozen (j := 2) (by simp)
                have q3 := (HG.out.1).frozen (j := 3) (by simp)
                have q4 := (HG.out.1).frozen (j := 4) (by simp)
                have q5 := (HG.out.1).frozen (j := 5) (by simp)
                refine wpAnyC_one 12 (by kernel_rfl) rfl (by kernel_rfl) (fun KK hKK => ?_)
                go_simp
                obtain ⟨hr9, hm9⟩ := row_set6 HG.out.1 (.int .i64 d.kind) (.int .i64 d.number) (.int .i64 s1.1) (.int .i64 s2.1) (.int .i64 s3.1) (.slice none 0 0)
                have HR9 := Lib.hid hr9
                have HM9 := Lib.hid (HM.out.then hm9 (fun x hx => .inr (by rw [hx]; exact HG.out.2)))
                have HU9 := Lib.hid (CurAt.mod HU.out hm9 (fun e => by have := HG.out.2; have := HCL.out; omega) (no8_row HG.out.1 (by decide)))
                refine hKK _ _ (HM9.out.mono (fun x _ h => .inl h)) ?_
                clear hKK KK hr9 hm9
                try simp only [Act.put, List.setIfInBounds_toArray, List.set_cons_succ, List.set_cons_zero]
                refine ⟨by kernel_rfl, ?_⟩
                go_wp2_with fail
                go_meet
                exact Lib.hid ⟨gp, rfl, HM9.out, HG.out.2, HR9.out, HU9.out⟩
            · refine wpOpC_of rfl (by kernel_rfl) (fun KK hKK => ?_)
              go_simp
              obtain ⟨wn, hwn⟩ : ∃ z, z = wv.alloc (.cells #[.int .i64 0, .int .i64 0, .int .i64 0, .int .i64 0, .int .i64 0, .slice none 0 0] 129) := ⟨_, rfl⟩
              obtain ⟨gp, hgp⟩ : ∃ z, z = wv.heap.size := ⟨_, rfl⟩
              have HG : Hid (RowB wn gp 129 [.int .i64 0, .int .i64 0, .int .i64 0, .int .i64 0, .int .i64 0, .slice none 0 0] ∧ w3.heap.size ≤ gp) := Lib.hid (by rw [hwn, hgp]; exact ⟨row_laid wv _ _, HM.out.size⟩)
              have hm : Mod (fun x => x = c) wv wn := by rw [hwn]; exact (Mod.refl _ _).alloc _
              have hu : CurAt wn c (some d.payload) := by rw [hwn]; exact HU.out.ext ((Ext.refl _).alloc _)
              rw [← hwn, ← hgp]
              have HM := Lib.hid (HM.out.trans hm)
              have HU := Lib.hid hu
              refine hKK _ _ (HM.out.mono (fun x _ h => .inl h)) ?_
              clear hKK KK hm hu hwn hgp
              try simp only [Act.put, List.setIfInBounds_toArray, List.set_cons_succ, List.set_cons_zero]
              refine wpAnyC_one 5 (by kernel_rfl) rfl (by kernel_rfl) (fun KK hKK => ?_)
              go_simp
              refine (HU1.out _ HU.out).mono ?_
              rintro e wv ⟨rfl, hm, hu⟩
              have HG := Lib.hid (And.intro (hm.rowB HG.out.1 (fun e => by have := HG.out.2; have := HCL.out; omega)) HG.out.2)
              have HM := Lib.hid (HM.out.trans hm)
              have HU := Lib.hid hu
              refine hKK _ _ (HM.out.mono (fun x _ h => .inl h)) ?_
              clear hKK KK hm hu
              try simp only [Act.put, List.setIfInBounds_toArray, List.set_cons_succ, List.set_cons_zero]
              refine wpAnyC_one 7 (by kernel_rfl) rfl (by kernel_rfl) (fun KK hKK => ?_)
              go_simp
              refine (HU2.out _ HU.out).mono ?_
              rintro e wv ⟨rfl, hm, hu⟩
              have HG := Lib.hid (And.intro (hm.rowB HG.out.1 (fun e => by have := HG.out.2; have := HCL.out; omega)) HG.out.2)
              have HM := Lib.hid (HM.out.trans hm)
              have HU := Lib.hid hu
              refine hKK _ _ (HM.out.mono (fun x _ h => .inl h)) ?_
              clear hKK KK hm hu
              try simp only [Act.put, List.setIfInBounds_toArray, List.set_cons_succ, List.set_cons_zero]
              refine wpAnyC_one 9 (by kernel_rfl) rfl (by kernel_rfl) (fun KK hKK => ?_)
              go_simp
              refine (HU3.out _ HU.out).mono ?_
              rintro e wv ⟨rfl, hm, hu⟩
              have HG := Lib.hid (And.intro (hm.rowB HG.out.1 (fun e => by have := HG.out.2; have := HCL.out; omega)) HG.out.2)
              have HM := Lib.hid (HM.out.trans hm)
              have HU := Lib.hid hu
              refine hKK _ _ (HM.out.mono (fun x _ h => .inl h)) ?_
              clear hKK KK hm hu
              try simp only [Act.put, List.setIfInBounds_toArray, List.set_cons_succ, List.set_cons_zero]
              refine qC_take (i := 10) (s := some 66) (v := ?v11) rfl rfl (by kernel_rfl) (by kernel_rfl) (by kernel_rfl) (fun _ _ _ h => h) (HM.out.mono (fun x _ h => .inl h)) (by kernel_rfl) ?hy11 ?h11
              case hy11 => intro W hW; skip; go_simp; exact rfl
              try simp only [Act.put, List.setIfInBounds_toArray, List.set_cons_succ, List.set_cons_zero]
              have e0 := (HG.out.1).cell (j := 0) rfl
              have e1 := (HG.out.1).cell (j := 1) rfl
              have e2 := (HG.out.1).cell (j := 2) rfl
              have e3 := (HG.out.1).cell (j := 3) rfl
              have e4 := (HG.out.1).cell (j := 4) rfl
              have e5 := (HG.out.1).cell (j := 5) rfl
              have q0 := (HG.out.1).frozen (j := 0) (by simp)
              have q1 := (HG.out.1).frozen (j := 1) (by simp)
              have q2 := (HG.out.1).frozen (j := 2) (by simp)
              have q3 := (HG.out.1).frozen (j := 3) (by simp)
              have q4 := (HG.out.1).frozen (j := 4) (by simp)
              have q5 := (HG.out.1).frozen (j := 5) (by simp)
              refine wpAnyC_one 12 (by kernel_rfl) rfl (by kernel_rfl) (fun KK hKK => ?_)
              go_simp
              obtain ⟨hr9, hm9⟩ := row_set6 HG.out.1 (.int .i64 d.kind) (.int .i64 d.number) (.int .i64 s1.1) (.int .i64 s2.1) (.int .i64 s3.1) (.slice none 0 0)
              have HR9 := Lib.hid hr9
              have HM9 := Lib.hid (HM.out.then hm9 (fun x hx => .inr (by rw [hx]; exact HG.out.2)))
              have HU9 := Lib.hid (CurAt.mod HU.out hm9 (fun e => by have := HG.out.2; have := HCL.out; omega) (no8_row HG.out.1 (by decide)))
              refine hKK _ _ (HM9.out.mono (fun x _ h => .inl h)) ?_
              clear hKK KK hr9 hm9
              try simp only [Act.put, List.setIfInBounds_toArray, List.set_cons_succ, List.set_cons_zero]
              refine ⟨by kernel_rfl, ?_⟩
              go_wp2_with fail
              go_meet
              exact Lib.hid ⟨gp, rfl, HM9.out, HG.out.2, HR9.out, HU9.out⟩
            --@END11
          case rest =>
          obtain ⟨gp, rfl, hm4, hg4, hr4, hc4⟩ := hcut.out
          have HM4 := Lib.hid hm4
          have HG4 := Lib.hid hg4
          have HR4 := Lib.hid hr4
          have HC4 := Lib.hid hc4
          clear hcut hm4 hg4 hr4 hc4
          have HX4 := Lib.hid (show Ext w wc from (Mod.of_ext (fun _ => False) (HX2.out.trans HX3.out) |>.then HM4.out (fun x hx => .inr (by have := HC3.out; have := HX2.out.size; omega))).ext (fun _ h => h.elim))
          have HZ4 := Lib.hid (HM4.out.rowB (HR2.out.ext HX3.out) (fun e => by have := HC3.out; have := HR2.out.lt; have : w.heap.size = c := e; omega))
          have HP4 := Lib.hid (HM4.out.rowB HRR3.out (fun e => HRC.out.1 e))
          have HB4 := Lib.hid (HU3'.out.mod HM4.out (by obtain ⟨v, ev, hr, -⟩ := HCUR.out.row; exact no8_row hr (by decide)))
          have HER := Lib.hid (err_any (s := s3.2) HC4.out)
          have e0 := (HZ4.out).cell (j := 0) rfl
          have e1 := (HZ4.out).cell (j := 1) rfl
          have e2 := (HZ4.out).cell (j := 2) rfl
          have e3 := (HZ4.out).cell (j := 3) rfl
          have e4 := (HZ4.out).cell (j := 4) rfl
          have e5 := (HZ4.out).cell (j := 5) rfl
          have q0 := (HZ4.out).frozen (j := 0) (by simp)
          have q1 := (HZ4.out).frozen (j := 1) (by simp)
          have q2 := (HZ4.out).frozen (j := 2) (by simp)
          have q3 := (HZ4.out).frozen (j := 3) (by simp)
          have q4 := (HZ4.out).frozen (j := 4) (by simp)
          have q5 := (HZ4.out).frozen (j := 5) (by simp)
          have m0 := (HR4.out).cell (j := 0) rfl
          have m1 := (HR4.out).cell (j := 1) rfl
          have m2 := (HR4.out).cell (j := 2) rfl
          have m3 := (HR4.out).cell (j := 3) rfl
          have m4 := (HR4.out).cell (j := 4) rfl
          have m5 := (HR4.out).cell (j := 5) rfl
          obtain ⟨hr9, hm9⟩ := row_set6 HZ4.out (.int .i64 0) (.int .i64 0) (.int .i64 0) (.int .i64 0) (.int .i64 0) (.slice none 0 0)
          have HR9 := Lib.hid hr9
          have HM9 := Lib.hid (Mod.ext (((Mod.of_ext (fun _ => False) HX4.out).then hm9 (fun i hi => .inr (by omega)))) (fun _ h => h.elim))
          clear hr9 hm9
          cases hleft : s3.2 with
          | none =>
            rw [hleft] at HRF HER
            have HRF0 := Lib.hid (show readF l = none from HRF.out)
            rw [show curErr none = errV 2 from rfl] at HER
            clear hleft
            go_wp2_with (go_at_call 92; refine HER.out.mono ?_; rintro e w5 ⟨rfl, rfl⟩)
            have r0 := (HR9.out).cell (j := 0) rfl
            have r1 := (HR9.out).cell (j := 1) rfl
            have r2 := (HR9.out).cell (j := 2) rfl
            have r3 := (HR9.out).cell (j := 3) rfl
            have r4 := (HR9.out).cell (j := 4) rfl
            have r5 := (HR9.out).cell (j := 5) rfl
            refine bodyPost_ret (by simp [results, Try.results71, go_sem, r0, r1, r2, r3, r4, r5]; try rfl) rfl ?_
            exact ⟨HM9.out, by rw [HRF0.out]; rfl⟩
          | some left =>
            rw [hleft] at HRF HER HC4
            rw [show curErr (some left) = .nilIface from rfl] at HER
            have HRF1 := Lib.hid (show readF l = if 1099511627776 < s1.1 ∨ s3.1 < 1 ∨ s3.1 ≤ s2.1 then none else some ⟨d.kind, d.number, s1.1, s2.1, s3.1, left⟩ from HRF.out)
            have HSUF := Lib.hid (HSX.out left hleft)
            clear hleft
            by_cases hbd : 1099511627776 < s1.1 ∨ s3.1 < 1 ∨ s3.1 ≤ s2.1
            · have HRF2 := HRF1.out
              rw [if_pos hbd] at HRF2
              have HRF2 := Lib.hid HRF2
              by_cases h1 : 1099511627776 < s1.1
              · have h1i : (1099511627776 : Int) < (s1.1 : Int) := by omega
                clear hbd h1
                go_wp2_with (go_at_call 92; refine HER.out.mono ?_; rintro e w5 ⟨rfl, rfl⟩)
                have r0 := (HR9.out).cell (j := 0) rfl
                have r1 := (HR9.out).cell (j := 1) rfl
                have r2 := (HR9.out).cell (j := 2) rfl
                have r3 := (HR9.out).cell (j := 3) rfl
                have r4 := (HR9.out).cell (j := 4) rfl
                have r5 := (HR9.out).cell (j := 5) rfl
                refine bodyPost_ret (by simp [results, Try.results71, go_sem, r0, r1, r2, r3, r4, r5]; try rfl) rfl ?_
                exact ⟨HM9.out, by rw [HRF2.out]; rfl⟩
              · have h1i : (s1.1 : Int) ≤ 1099511627776 := by omega
                by_cases h2 : s3.1 < 1
                · have h2i : (s3.1 : Int) < 1 := by omega
                  clear hbd h1 h2
                  go_wp2_with (go_at_call 92; refine HER.out.mono ?_; rintro e w5 ⟨rfl, rfl⟩)
                  have r0 := (HR9.out).cell (j := 0) rfl
                  have r1 := (HR9.out).cell (j := 1) rfl
                  have r2 := (HR9.out).cell (j := 2) rfl
                  have r3 := (HR9.out).cell (j := 3) rfl
                  have r4 := (HR9.out).cell (j := 4) rfl
                  have r5 := (HR9.out).cell (j := 5) rfl
                  refine bodyPost_ret (by simp [results, Try.results71, go_sem, r0, r1, r2, r3, r4, r5]; try rfl) rfl ?_
                  exact ⟨HM9.out, by rw [HRF2.out]; rfl⟩
                · have h2i : (1 : Int) ≤ (s3.1 : Int) := by omega
                  have h3i : (s3.1 : Int) ≤ (s2.1 : Int) := by omega
                  clear hbd h1 h2
                  go_wp2_with (go_at_call 92; refine HER.out.mono ?_; rintro e w5 ⟨rfl, rfl⟩)
                  have r0 := (HR9.out).cell (j := 0) rfl
                  have r1 := (HR9.out).cell (j := 1) rfl
                  have r2 := (HR9.out).cell (j := 2) rfl
                  have r3 := (HR9.out).cell (j := 3) rfl
                  have r4 := (HR9.out).cell (j := 4) rfl
                  have r5 := (HR9.out).cell (j := 5) rfl
                  refine bodyPost_ret (by simp [results, Try.results71, go_sem, r0, r1, r2, r3, r4, r5]; try rfl) rfl ?_
                  exact ⟨HM9.out, by rw [HRF2.out]; rfl⟩
            · have HRF2 := HRF1.out
              rw [if_neg hbd] at HRF2
              have HRF2 := Lib.hid HRF2
              have h1i : (s1.1 : Int) ≤ 1099511627776 := by omega
              have h2i : (1 : Int) ≤ (s3.1 : Int) := by omega
              have h3i : (s2.1 : Int) < (s3.1 : Int) := by omega
              clear hbd
              go_upto_region 14 with (go_at_call 92; refine HER.out.mono ?_; rintro e w5 ⟨rfl, rfl⟩)
              obtain ⟨g1, o1, rfl⟩ : ∃ g1 o1, Au = some ⟨g1, o1, none⟩ := by
                obtain ⟨A', c', e', -, h'⟩ := HB4.out.slice
                cases e'
                exact h' (fun e => by have := HSUF.out.2.2; rw [e] at this; simp at this)
              obtain ⟨K, hK⟩ : ∃ K, K = d.payload.length - left.length := ⟨_, rfl⟩
              have hKi : (d.payload.length : Int) - (left.length : Int) = (K : Int) := by have := HSUF.out.2.1; omega
              have hKl : K ≤ d.payload.length := by omega
              have hpc : d.payload.length ≤ cu := HB4.out.len.2
              obtain ⟨A1, hA1⟩ : ∃ A1, (if cu = K then some ⟨g1, o1, none⟩ else some (⟨g1, o1 + K, none⟩ : Addr)) = A1 := ⟨_, rfl⟩
              have HDP : Hid (BS wc (.slice A1 (d.payload.length - K) (cu - K)) left) := Lib.hid (by
                have h1 := HB4.out.drop2 K hKl
                rw [hA1, hK, ← HSUF.out.1, ← hK] at h1
                exact h1)
              have HGR := Lib.hid (show rr ≠ gp ∧ c ≠ gp from ⟨by have := HG4.out; have := HRC.out; omega, by have := HG4.out; have := HCL.out; omega⟩)
              have HUL9 := Lib.hid HUL.out
              have hul : d.payload.length ≤ 1000000 := HUL9.out
              have hwK : IntKind.i64.wrap (K : Int) = (K : Int) := IntWalk.i64_in _ (by omega)
              clear hK
              refine wp_region_C (C := fun W => Mod (fun x => x = gp) wc W) (by kernel_rfl) ?_
              obtain ⟨wv, hwv⟩ : ∃ z, z = wc.drew := ⟨_, rfl⟩
              have XV : Hid (Ext wc wv) := Lib.hid (by rw [hwv]; exact (Ext.refl _).drew)
              have HM := Lib.hid (Mod.of_ext (fun x => x = gp) XV.out)
              rw [← hwv]
              clear hwv
              refine qC_take (i := 0) (s := some 88) (v := ?v12) rfl rfl (by kernel_rfl) (by kernel_rfl) (by kernel_rfl) (fun _ _ _ h => h) HM.out (by kernel_rfl) ?hy12 ?h12
              case hy12 => intro W hW; have h9 := HGR.out; have b2 := hW.cell (HP4.out.cell (j := 2) rfl) (by show ¬ _ = _; exact h9.1); go_simp; exact rfl
              try simp only [Act.put, List.setIfInBounds_toArray, List.set_cons_succ, List.set_cons_zero]
              refine qC_take (i := 2) (s := some 90) (v := ?v13) rfl rfl (by kernel_rfl) (by kernel_rfl) (by kernel_rfl) (fun _ _ _ h => h) HM.out (by kernel_rfl) ?hy13 ?h13
              case hy13 => intro W hW; have h9 := HGR.out; have b2 := hW.cell (HP4.out.cell (j := 2) rfl) (by show ¬ _ = _; exact h9.1); go_simp; exact rfl
              try simp only [Act.put, List.setIfInBounds_toArray, List.set_cons_succ, List.set_cons_zero]
              refine qC_take (i := 5) (s := some 93) (v := ?v14) rfl rfl (by kernel_rfl) (by kernel_rfl) (by kernel_rfl) (fun _ _ _ h => h) HM.out (by kernel_rfl) ?hy14 ?h14
              case hy14 => intro W hW; have h9 := HGR.out; have b2 := hW.cell (HP4.out.cell (j := 2) rfl) (by show ¬ _ = _; exact h9.1); go_simp; exact rfl
              try simp only [Act.put, List.setIfInBounds_toArray, List.set_cons_succ, List.set_cons_zero]
              refine qC_take (i := 1) (s := some 89) (v := ?v15) rfl rfl (by kernel_rfl) (by kernel_rfl) (by kernel_rfl) (fun _ _ _ h => h) HM.out (by kernel_rfl) ?hy15 ?h15
              case hy15 => intro W hW; have h9 := HGR.out; have b2 := hW.cell (HP4.out.cell (j := 2) rfl) (by show ¬ _ = _; exact h9.1); go_simp; exact rfl
              try simp only [Act.put, List.setIfInBounds_toArray, List.set_cons_succ, List.set_cons_zero]
              refine qC_take (i := 3) (s := some 91) (v := ?v16) rfl rfl (by kernel_rfl) (by kernel_rfl) (by kernel_rfl) (fun _ _ _ h => h) HM.out (by kernel_rfl) ?hy16 ?h16
              case hy16 => intro W hW; have h9 := HGR.out; have b2 := hW.cell (HP4.out.cell (j := 2) rfl) (by show ¬ _ = _; exact h9.1); go_simp; exact rfl
              try simp only [Act.put, List.setIfInBounds_toArray, List.set_cons_succ, List.set_cons_zero]
              refine qC_take (i := 4) (s := some 92) (v := ?v17) rfl rfl (by kernel_rfl) (by kernel_rfl) (by kernel_rfl) (fun _ _ _ h => h) HM.out (by kernel_rfl) ?hy17 ?h17
              case hy17 => intro W hW; have h9 := HGR.out; have b2 := hW.cell (HP4.out.cell (j := 2) rfl) (by show ¬ _ = _; exact h9.1); go_simp; exact rfl
              try simp only [Act.put, List.setIfInBounds_toArray, List.set_cons_succ, List.set_cons_zero]
              refine wpAnyC_one 6 (by kernel_rfl) rfl (by kernel_rfl) (fun KK hKK => ?_)
              go_simp
              refine (left_any (HC4.out.ext XV.out)).mono ?_
              rintro e w5 ⟨rfl, rfl⟩
              refine hKK _ _ HM.out ?_
              clear hKK KK
              try simp only [Act.put, List.setIfInBounds_toArray, List.set_cons_succ, List.set_cons_zero]
              refine qC_take (i := 7) (s := some 95) (v := ?v18) rfl rfl (by kernel_rfl) (by kernel_rfl) (by kernel_rfl) (fun _ _ _ h => h) HM.out (by kernel_rfl) ?hy18 ?h18
              case hy18 => intro W hW; have h9 := HGR.out; have b2 := hW.cell (HP4.out.cell (j := 2) rfl) (by show ¬ _ = _; exact h9.1); go_simp; exact rfl
              try simp only [Act.put, List.setIfInBounds_toArray, List.set_cons_succ, List.set_cons_zero]
              refine qC_take (i := 8) (s := some 96) (v := ?v19) rfl rfl (by kernel_rfl) (by kernel_rfl) (by kernel_rfl) (fun _ _ _ h => h) HM.out (by kernel_rfl) ?hy19 ?h19
              case hy19 => intro W hW; have h9 := HGR.out; have b2 := hW.cell (HP4.out.cell (j := 2) rfl) (by show ¬ _ = _; exact h9.1); go_simp; exact rfl
              try simp only [Act.put, List.setIfInBounds_toArray, List.set_cons_succ, List.set_cons_zero]
              refine qC_take (i := 9) (s := some 97) (v := ?v20) rfl rfl (by kernel_rfl) (by kernel_rfl) (by kernel_rfl) (fun _ _ _ h => h) HM.out (by kernel_rfl) ?hy20 ?h20
              case hy20 => intro W hW; have h9 := HGR.out; have b2 := hW.cell (HP4.out.cell (j := 2) rfl) (by show ¬ _ = _; exact h9.1); go_simp; exact rfl
              try simp only [Act.put, List.setIfInBounds_toArray, List.set_cons_succ, List.set_cons_zero]
              have HR5 := Lib.hid (HR4.out.ext XV.out)
              have e5 := HR5.out.cell (j := 5) rfl
              have q5 := HR5.out.frozen (j := 5) (by simp)
              refine wpAnyC_one 10 (by kernel_rfl) rfl (by kernel_rfl) (fun KK hKK => ?_)
              go_simp
              obtain ⟨w6, hw6⟩ : ∃ z, z = wv.setCell ⟨gp, 5, none⟩ (.slice A1 (d.payload.length - K) (cu - K)) := ⟨_, rfl⟩
              have HM6 : Hid (Mod (fun x => x = gp) wv w6) := Lib.hid (by rw [hw6]; exact mod_set wv gp 5 _)
              have HR6 : Hid (RowB w6 gp 129 [.int .i64 d.kind, .int .i64 d.number, .int .i64 s1.1, .int .i64 s2.1, .int .i64 s3.1, .slice A1 (d.payload.length - K) (cu - K)]) := Lib.hid (by rw [hw6]; exact HR5.out.set 5 _ (by simp))
              rw [← hw6]
              refine hKK _ _ (HM.out.trans HM6.out) ?_
              clear hKK KK hw6 e5 q5
              try simp only [Act.put, List.setIfInBounds_toArray, List.set_cons_succ, List.set_cons_zero]
              refine ⟨by kernel_rfl, ?_⟩
              have HM7 := Lib.hid (HM.out.trans HM6.out)
              have HGZ := Lib.hid (show w.heap.size < gp by have := HG4.out; have := HX3.out.size; have := HR2.out.lt; omega)
              have HZ7 := Lib.hid (HM7.out.rowB HZ4.out (fun e => by have := HGZ.out; have : w.heap.size = gp := e; omega))
              have HX7 := Lib.hid (((Mod.of_ext (fun _ => False) HX4.out).then HM7.out (fun i hi => .inr (by have := HGZ.out; omega))).ext (fun _ h => h.elim))
              have HD7 := Lib.hid (HDP.out.mod HM7.out (no8_row HR4.out (by decide)))
              have e0 := (HZ7.out).cell (j := 0) rfl
              have e1 := (HZ7.out).cell (j := 1) rfl
              have e2 := (HZ7.out).cell (j := 2) rfl
              have e3 := (HZ7.out).cell (j := 3) rfl
              have e4 := (HZ7.out).cell (j := 4) rfl
              have e5 := (HZ7.out).cell (j := 5) rfl
              have q0 := (HZ7.out).frozen (j := 0) (by simp)
              have q1 := (HZ7.out).frozen (j := 1) (by simp)
              have q2 := (HZ7.out).frozen (j := 2) (by simp)
              have q3 := (HZ7.out).frozen (j := 3) (by simp)
              have q4 := (HZ7.out).frozen (j := 4) (by simp)
              have q5 := (HZ7.out).frozen (j := 5) (by simp)
              have m0 := (HR6.out).cell (j := 0) rfl
              have m1 := (HR6.out).cell (j := 1) rfl
              have m2 := (HR6.out).cell (j := 2) rfl
              have m3 := (HR6.out).cell (j := 3) rfl
              have m4 := (HR6.out).cell (j := 4) rfl
              have m5 := (HR6.out).cell (j := 5) rfl
              obtain ⟨hr8, hm8⟩ := row_set6 HZ7.out (.int .i64 d.kind) (.int .i64 d.number) (.int .i64 s1.1) (.int .i64 s2.1) (.int .i64 s3.1) (.slice A1 (d.payload.length - K) (cu - K))
              have HR8 := Lib.hid hr8
              have HD8 := Lib.hid (HD7.out.mod hm8 (no8_row HZ7.out (by decide)))
              have HM8 := Lib.hid (Mod.ext (((Mod.of_ext (fun _ => False) HX7.out).then hm8 (fun i hi => .inr (by omega)))) (fun _ h => h.elim))
              clear hr8 hm8
              go_wp2_with fail
              have r0 := (HR8.out).cell (j := 0) rfl
              have r1 := (HR8.out).cell (j := 1) rfl
              have r2 := (HR8.out).cell (j := 2) rfl
              have r3 := (HR8.out).cell (j := 3) rfl
              have r4 := (HR8.out).cell (j := 4) rfl
              have r5 := (HR8.out).cell (j := 5) rfl
              refine bodyPost_ret (by simp [results, Try.results71, go_sem, r0, r1, r2, r3, r4, r5]; try rfl) rfl ?_
              refine ⟨HM8.out, ?_⟩
              rw [HRF2.out]
              exact ⟨_, rfl, HD8.out⟩
end Go.Proofs.Ytepigkjgjlibcaa
