/- Chapter 52: the law Laws. -/
import Derived.Test.YtjdbhemojopnlaaMgS5
namespace Go.Proofs.Ytjdbhemojopnlaa
open Go.RowKit Go.Maps
set_option maxRecDepth 100000 in
set_option maxHeartbeats 4000000 in
theorem laws_law {v0 v1 v2 : Value} {e0 e1 e2 : List Ent} (w : World) (h0 : EnsArg w v0 e0) (hty0 : ∀ x ∈ e0, x.typed) (h1 : EnsArg w v1 e1) (hty1 : ∀ x ∈ e1, x.typed) (h2 : EnsArg w v2 e2) (hty2 : ∀ x ∈ e2, x.typed) :
    Calls Try.prog 9 #[v0, v1, v2] w fun e w' => e = .returned (.bool true) ∧ Ext w w' := by
  have HE := Lib.hid (And.intro h0 (And.intro h1 h2))
  have HTY := Lib.hid (And.intro hty0 (And.intro hty1 hty2))
  obtain ⟨A0, c0, rfl, -⟩ := h0
  obtain ⟨A1, c1, rfl, -⟩ := h1
  obtain ⟨A2, c2, rfl, -⟩ := h2
  obtain ⟨n0, hn0⟩ : ∃ n, e0.length = n := ⟨_, rfl⟩
  obtain ⟨n1, hn1⟩ : ∃ n, e1.length = n := ⟨_, rfl⟩
  obtain ⟨n2, hn2⟩ : ∃ n, e2.length = n := ⟨_, rfl⟩
  have HN := Lib.hid (And.intro hn0 (And.intro hn1 hn2))
  rw [hn0, hn1, hn2] at HE ⊢
  clear hn0 hn1 hn2 hty0 hty1 hty2
  by_cases hc : n0 ≤ 30 ∧ n1 ≤ 30 ∧ n2 ≤ 30
  · obtain ⟨hl0, hl1, hl2⟩ := hc
    have hmf : ∀ (fn : Fn) (first cap : Array Value) (w : World), (Instr.makeFunc fn first cap).run Try.prog w = .ok (.func fn first cap) w := fun _ _ _ _ => rfl
    go_enter Try.func9, Try.ntmps9
    go_upto_region 3 with (go_at_call 11; refine (awake_any _).mono ?_; rintro e w1 ⟨rfl, hx1⟩)
    go_upto_region 5 with fail
    obtain ⟨wa, hwa⟩ : ∃ wa, wa = w1.alloc (.cells #[.slice A0 n0 c0, .slice A1 n1 c1, .slice A2 n2 c2] 57) := ⟨_, rfl⟩
    have XA : Ext w1 wa := by rw [hwa]; exact (Ext.refl w1).alloc _
    have HRW : Hid (RowB wa w1.heap.size 57 [.slice A0 n0 c0, .slice A1 n1 c1, .slice A2 n2 c2]) := Lib.hid (by rw [hwa]; exact row_laid _ _ _)
    rw [← hwa]
    clear hwa
    obtain ⟨lb, hlb⟩ : ∃ lb, w1.heap.size = lb := ⟨_, rfl⟩
    rw [hlb] at HRW ⊢
    clear hlb
    obtain ⟨g, hg⟩ : ∃ g : Nat → List Ent, g 0 = e0 ∧ g 1 = e1 ∧ g 2 = e2 := ⟨fun k => match k with | 0 => e0 | 1 => e1 | _ => e2, rfl, rfl, rfl⟩
    obtain ⟨hg0, hg1, hg2⟩ := hg
    have HX := Lib.hid (hx1.trans XA)
    have HL : Hid (Lists3 wa lb g) := Lib.hid ⟨fun k hk => by
        rcases (show k = 0 ∨ k = 1 ∨ k = 2 by omega) with rfl | rfl | rfl
        · exact ⟨_, HRW.out.cell (j := 0) rfl, by rw [hg0]; exact HE.out.1.ext HX.out⟩
        · exact ⟨_, HRW.out.cell (j := 1) rfl, by rw [hg1]; exact HE.out.2.1.ext HX.out⟩
        · exact ⟨_, HRW.out.cell (j := 2) rfl, by rw [hg2]; exact HE.out.2.2.ext HX.out⟩,
      fun k hk => by
        have := HN.out
        rcases (show k = 0 ∨ k = 1 ∨ k = 2 by omega) with rfl | rfl | rfl
        · rw [hg0]; omega
        · rw [hg1]; omega
        · rw [hg2]; omega,
      fun k hk => by
        rcases (show k = 0 ∨ k = 1 ∨ k = 2 by omega) with rfl | rfl | rfl
        · rw [hg0]; exact HTY.out.1
        · rw [hg1]; exact HTY.out.2.1
        · rw [hg2]; exact HTY.out.2.2⟩
    clear hg0 hg1 hg2 HRW hx1 XA
    have HM1 : Hid (Calls Try.prog 26 #[.slice (some ⟨wa.heap.size, 0, none⟩) 3 3, .pointer (some ⟨lb, 0, none⟩)] (wa.alloc (.cells #[.int .i64 0, .int .i64 1, .int .i64 2] 3)) fun e w' => ∃ q b C gd, e = .returned (.tuple #[.pointer (some ⟨q, 0, none⟩), .bool gd]) ∧ wa.heap.size ≤ b ∧ wa.heap.size ≤ q ∧ MdAt wa w' g [0, 1, 2] q b 3 gd C) := Lib.hid (by
      have hx := (Ext.refl wa).alloc (.cells #[.int .i64 0, .int .i64 1, .int .i64 2] 3)
      have hrow := row_laid wa 3 [.int .i64 0, .int .i64 1, .int .i64 2]
      refine (made_any lb wa.heap.size [0, 1, 2] _ (HL.out.ext hx) (by simp) (by simp) (fun i k hi => hrow.cell (j := i) ?_)).mono ?_
      · match i, hi with
        | 0, hi => cases hi; rfl
        | 1, hi => cases hi; rfl
        | 2, hi => cases hi; rfl
        | i + 3, hi => simp at hi
      · rintro e w' ⟨q, b, C, gd, rfl, h1, h2, h3⟩
        have := hx.size
        exact ⟨q, b, C, gd, rfl, by omega, by omega, ⟨hx.trans h3.x, h3.c, h3.n, h3.s, h3.f, h3.co⟩⟩)
    go_upto_region 6 with (go_at_call 26; refine HM1.out.mono ?_; rintro e w2 ⟨q, b, C, gd, rfl, hb, hq, hM⟩)
    cases gd with
    | false =>
      go_wp2_with fail
      go_ret
      exact ⟨rfl, HX.out.trans hM.x⟩
    | true =>
      have HCO : Hid (Coh (uni g [0, 1, 2])) := Lib.hid ⟨fun x hx => hM.c.ok x (hM.f rfl x hx), fun x hx y hy hk => pair_unique hM.c.nd (hM.f rfl y hy) (hM.f rfl x hx) hk⟩
      have HM2' := Lib.hid (And.intro (And.intro hb hq) hM)
      clear hb hq hM
      have HA2 : Hid (Calls Try.prog 26 #[.slice (some ⟨w2.heap.size, 0, none⟩) 3 3, .pointer (some ⟨lb, 0, none⟩)] (w2.alloc (.cells #[.int .i64 2, .int .i64 0, .int .i64 1] 3)) fun e w' => ∃ q b C gd, e = .returned (.tuple #[.pointer (some ⟨q, 0, none⟩), .bool gd]) ∧ w2.heap.size ≤ b ∧ w2.heap.size ≤ q ∧ MdAt w2 w' g [2, 0, 1] q b 3 gd C) := Lib.hid (by
        have hx := (Ext.refl w2).alloc (.cells #[.int .i64 2, .int .i64 0, .int .i64 1] 3)
        have hrow := row_laid w2 3 [.int .i64 2, .int .i64 0, .int .i64 1]
        refine (made_any lb w2.heap.size [2, 0, 1] _ (HL.out.ext (HM2'.out.2.x.trans hx)) (by simp) (by simp) (fun i k hi => hrow.cell (j := i) ?_)).mono ?_
        · match i, hi with
          | 0, hi => cases hi; rfl
          | 1, hi => cases hi; rfl
          | 2, hi => cases hi; rfl
          | i + 3, hi => simp at hi
        · rintro e w' ⟨q, b, C, gd, rfl, h1, h2, h3⟩
          have := hx.size
          exact ⟨q, b, C, gd, rfl, by omega, by omega, ⟨hx.trans h3.x, h3.c, h3.n, h3.s, h3.f, h3.co⟩⟩)
      go_upto_region 9 with (go_at_call 26; refine HA2.out.mono ?_; rintro e w3 ⟨q2, b2, C2, gd2, rfl, hb2, hq2, hM2⟩)
      obtain rfl : gd2 = true := hM2.co (HCO.out.sub (fun z hz => by simp [uni] at hz ⊢; grind))
      have HM3' := Lib.hid (And.intro (And.intro hb2 hq2) hM2)
      clear hb2 hq2 hM2 HA2
      have HA3 : Hid (Calls Try.prog 26 #[.slice (some ⟨w3.heap.size, 0, none⟩) 5 5, .pointer (some ⟨lb, 0, none⟩)] (w3.alloc (.cells #[.int .i64 1, .int .i64 2, .int .i64 0, .int .i64 1, .int .i64 0] 3)) fun e w' => ∃ q b C gd, e = .returned (.tuple #[.pointer (some ⟨q, 0, none⟩), .bool gd]) ∧ w3.heap.size ≤ b ∧ w3.heap.size ≤ q ∧ MdAt w3 w' g [1, 2, 0, 1, 0] q b 5 gd C) := Lib.hid (by
        have hx := (Ext.refl w3).alloc (.cells #[.int .i64 1, .int .i64 2, .int .i64 0, .int .i64 1, .int .i64 0] 3)
        have hrow := row_laid w3 3 [.int .i64 1, .int .i64 2, .int .i64 0, .int .i64 1, .int .i64 0]
        refine (made_any lb w3.heap.size [1, 2, 0, 1, 0] _ (HL.out.ext ((HM2'.out.2.x.trans HM3'.out.2.x).trans hx)) (by simp) (by simp) (fun i k hi => hrow.cell (j := i) ?_)).mono ?_
        · match i, hi with
          | 0, hi => cases hi; rfl
          | 1, hi => cases hi; rfl
          | 2, hi => cases hi; rfl
          | 3, hi => cases hi; rfl
          | 4, hi => cases hi; rfl
          | i + 5, hi => simp at hi
        · rintro e w' ⟨q, b, C, gd, rfl, h1, h2, h3⟩
          have := hx.size
          exact ⟨q, b, C, gd, rfl, by omega, by omega, ⟨hx.trans h3.x, h3.c, h3.n, h3.s, h3.f, h3.co⟩⟩)
      go_upto_region 10 with (go_at_call 26; refine HA3.out.mono ?_; rintro e w4 ⟨q3, b3, C3, gd3, rfl, hb3, hq3, hM3⟩)
      obtain rfl : gd3 = true := hM3.co (HCO.out.sub (fun z hz => by simp [uni] at hz ⊢; grind))
      clear HA3
      obtain ⟨⟨hb, hq⟩, hM⟩ := HM2'.out
      obtain ⟨⟨hb2, hq2⟩, hM2⟩ := HM3'.out
      have hS1 := hM.c.ext (hM2.x.trans hM3.x)
      have hS2 := hM2.c.ext hM3.x
      have hS3 := hM3.c
      have hm2 : ∀ z, z ∈ C ↔ z ∈ C2 := fun z => ⟨fun h => hM2.f rfl z (by have := hM.s z h; simp [uni] at this ⊢; grind), fun h => hM.f rfl z (by have := hM2.s z h; simp [uni] at this ⊢; grind)⟩
      have hm3 : ∀ z, z ∈ C ↔ z ∈ C3 := fun z => ⟨fun h => hM3.f rfl z (by have := hM.s z h; simp [uni] at this ⊢; grind), fun h => hM.f rfl z (by have := hM3.s z h; simp [uni] at this ⊢; grind)⟩
      have hCl : C.length ≤ 1000 := by have := hM.n; omega
      have hne : b ≠ b2 ∧ b ≠ q2 := by
        have h1 := wf_of_new hM.c
        omega
      obtain ⟨r, hrr⟩ : ∃ r, srtL C = r := ⟨_, rfl⟩
      have HRL : Hid (r.length ≤ 1000) := Lib.hid (by rw [← hrr, (srt_tied hM.c.nd).p.length_eq]; exact hCl)
      have HLA : Hid (∀ Z, Ext w4 Z → ListsTo Z (.pointer (some ⟨q, 0, none⟩)) r ∧ ListsTo Z (.pointer (some ⟨q2, 0, none⟩)) r ∧ ListsTo Z (.pointer (some ⟨q3, 0, none⟩)) r) := Lib.hid (fun Z hZ => by
        rw [← hrr]
        exact ⟨(hS1.ext hZ).lists_of hM.c.nd hCl (fun z => Iff.rfl), (hS2.ext hZ).lists_of hM.c.nd hCl hm2, (hS3.ext hZ).lists_of hM.c.nd hCl hm3⟩)
      have HJ : Hid (∀ Z, Ext w4 Z → Calls Try.prog 21 #[.pointer (some ⟨q, 0, none⟩), .pointer (some ⟨q, 0, none⟩)] Z fun e w' => e = .returned .nilIface ∧ Ext w w' ∧ ListsTo w' (.pointer (some ⟨q, 0, none⟩)) r ∧ ListsTo w' (.pointer (some ⟨q2, 0, none⟩)) r) := Lib.hid (fun Z hZ => (join_any q b q b C C Z (hS1.ext hZ) (hS1.ext hZ)).mono (by
        rintro e w' (⟨hn, -⟩ | ⟨-, rfl, hg, C', hC', hm⟩)
        · exact absurd (fun x hx y hy hk => pair_unique hM.c.nd hy hx hk) hn
        · have hm' : ∀ z, z ∈ C ↔ z ∈ C' := fun z => by rw [hm z, or_self]
          refine ⟨rfl, ?_, ?_, ?_⟩
          · exact (HX.out.trans (hM.x.trans (hM2.x.trans (hM3.x.trans hZ)))).grownB hg (by have := HX.out.size; omega)
          · rw [← hrr]; exact hC'.lists_of hM.c.nd hCl hm'
          · rw [← hrr]; exact ((hS2.ext hZ).kept hg (by simpa using fun h => hne.2 h.symm) (by simpa using fun h => hne.1 h.symm)).lists_of hM.c.nd hCl hm2))
      clear hb hq hM hb2 hq2 hM2 hS1 hS2 hS3 hm2 hm3 hCl hne hrr hb3 hq3 hM3
      go_wp2_with fail
      refine (sets_same (HLA.out w4 (Ext.refl _)).1 (HLA.out w4 (Ext.refl _)).2.1 HRL.out).mono ?_
      rintro e w5 ⟨rfl, hx5⟩
      rw [decide_eq_true rfl]
      go_wp2_with fail
      refine (sets_same (HLA.out w5 hx5).2.1 (HLA.out w5 hx5).2.2 HRL.out).mono ?_
      rintro e w6 ⟨rfl, hx6⟩
      rw [decide_eq_true rfl]
      go_wp2_with fail
      refine (HJ.out w6 (hx5.trans hx6)).mono ?_
      rintro e w7 ⟨rfl, hx7, hl1, hl2⟩
      have HL7 := Lib.hid (And.intro hx7 (And.intro hl1 hl2))
      clear hx5 hx6 hx7 hl1 hl2
      go_wp2_with fail
      refine (sets_same HL7.out.2.1 HL7.out.2.2 HRL.out).mono ?_
      rintro e w8 ⟨rfl, hx8⟩
      rw [decide_eq_true rfl]
      go_wp2_with fail
      go_ret
      exact ⟨rfl, HL7.out.1.trans hx8⟩
  · go_enter Try.func9, Try.ntmps9
    rcases Nat.lt_or_ge 30 n0 with hl0 | hl0
    · go_wp2_with (go_at_call 11; refine (awake_any _).mono ?_; rintro e w1 ⟨rfl, hx1⟩)
      go_ret
      exact ⟨rfl, hx1⟩
    · rcases Nat.lt_or_ge 30 n1 with hl1 | hl1
      · go_wp2_with (go_at_call 11; refine (awake_any _).mono ?_; rintro e w1 ⟨rfl, hx1⟩)
        go_ret
        exact ⟨rfl, hx1⟩
      · have hl2 : 30 < n2 := by omega
        clear hc
        go_wp2_with (go_at_call 11; refine (awake_any _).mono ?_; rintro e w1 ⟨rfl, hx1⟩)
        go_ret
        exact ⟨rfl, hx1⟩
end Go.Proofs.Ytjdbhemojopnlaa
