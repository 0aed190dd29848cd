/- Chapter 23: package flashlog: join. Chapter 23: package flashlog: at. -/
import Derived.Test.YtepigkjgjlibcaaFlR
namespace Go.Proofs.Ytepigkjgjlibcaa
open Go.RowKit Go.Deep Go.Proofs.Ytepigkjgjlibcaa.FL
set_option maxRecDepth 100000
/-- a page's record at a place -/
def PgCell (w : World) (g b : Nat) (p : Pg) : Prop := ∃ A c, BS w (.slice A p.data.length c) p.data ∧ w.cell? ⟨g, b, none⟩ = some (.int .i64 p.kind) ∧ w.cell? ⟨g, b + 1, none⟩ = some (.int .i64 p.number) ∧
  w.cell? ⟨g, b + 2, none⟩ = some (.int .i64 p.segment) ∧ w.cell? ⟨g, b + 3, none⟩ = some (.int .i64 p.part) ∧ w.cell? ⟨g, b + 4, none⟩ = some (.int .i64 p.parts) ∧ w.cell? ⟨g, b + 5, none⟩ = some (.slice A p.data.length c)
theorem PgCell.ext {w w' : World} {g b : Nat} {p : Pg} (h : PgCell w g b p) (hx : Ext w w') : PgCell w' g b p := by
  obtain ⟨A, c, h0, h1, h2, h3, h4, h5, h6⟩ := h
  exact ⟨A, c, h0.ext hx, hx.cell h1, hx.cell h2, hx.cell h3, hx.cell h4, hx.cell h5, hx.cell h6⟩
section
variable {f p : Pg} {r list : List Pg} {i m : Nat}
theorem fits_five (h : ¬ (p.kind = f.kind ∧ p.number = f.number ∧ p.segment = f.segment ∧ p.parts = m ∧ p.part = i)) : fitsF f m i p = false := by
  unfold fitsF
  rw [decide_eq_false h]
  simp
theorem fits_len (h : (i + 1 < m ∧ p.data.length ≠ 480) ∨ p.data.length < 1 ∨ 480 < p.data.length) : fitsF f m i p = false := by
  unfold fitsF
  rcases h with h | h
  · rw [decide_eq_true h]
    simp
  · rw [decide_eq_false (show ¬ (1 ≤ p.data.length ∧ p.data.length ≤ 480) by omega)]
    simp
theorem fits_all (h : p.kind = f.kind ∧ p.number = f.number ∧ p.segment = f.segment ∧ p.parts = m ∧ p.part = i) (h2 : ¬ ((i + 1 < m ∧ p.data.length ≠ 480) ∨ p.data.length < 1 ∨ 480 < p.data.length)) : fitsF f m i p = true := by
  unfold fitsF
  rw [decide_eq_true h, decide_eq_false (show ¬ (i + 1 < m ∧ p.data.length ≠ 480) by omega), decide_eq_true (show 1 ≤ p.data.length ∧ p.data.length ≤ 480 by omega)]
  rfl
theorem joinF_bad (hf : list[0]? = some f) (hp : list[i]? = some p) (hb : fitsF f list.length i p = false) : joinF list = none := by
  cases list with
  | nil => cases hf
  | cons f' r =>
    cases hf
    unfold joinF
    simp only
    rw [if_neg]
    intro h
    rw [List.all_eq_true] at h
    have := h (p, i) (by rw [List.mem_iff_getElem?]; exact ⟨i, by rw [List.getElem?_zipIdx, hp]; simp⟩)
    simp only at this
    rw [hb] at this
    cases this
theorem joinF_go (hf : list[0]? = some f) (ha : ∀ j q, list[j]? = some q → fitsF f list.length j q = true) : joinF list = match textF (some (list.flatMap (·.data))) with
      | (_, none) => none
      | (k, some v) => if k.length < 1 ∨ 2048 < k.length ∨ (f.kind = 2 ∧ v ≠ []) then none else some ⟨f.kind, f.number, f.segment, list.length, k, v⟩ := by
  cases list with
  | nil => cases hf
  | cons f' r =>
    cases hf
    unfold joinF
    simp only
    rw [if_pos (by
      rw [List.all_eq_true]
      rintro ⟨q, j⟩ hq
      exact ha j q (List.mk_mem_zipIdx_iff_getElem?.1 hq))]
    rcases textF (some ((f :: r).flatMap (·.data))) with ⟨k, _ | v⟩ <;> rfl
end
def JoinPost (w' : World) (e : Ending) : Option Ent → Prop
  | none => e = .returned (.tuple #[.agg #[.int .i64 0, .int .i64 0, .int .i64 0, .int .i64 0, .string ⟨#[]⟩, .slice none 0 0], .bool false])
  | some x => ∃ v, e = .returned (.tuple #[.agg #[.int .i64 x.kind, .int .i64 x.number, .int .i64 x.segment, .int .i64 x.pages, .string (st x.key), v], .bool true]) ∧ BS w' v x.value
theorem u8clone_any {w : World} {v : Value} {l : Bs} (h : BS w v l) (hl : l.length ≤ 1000000) :
    Calls Try.prog 43 #[v] w fun e w' => ∃ u, e = .returned u ∧ Ext w w' ∧ OB w' w.heap.size u l := by
  obtain ⟨A, cap, rfl, hcap, -⟩ := h.slice
  cases A with
  | none =>
    have hb : ∀ W : World, (binOp .eql 42 (.slice none l.length cap) (.slice none 0 0)).run Try.prog W = .ok (.bool true) W := fun W => by kernel_rfl
    have HL : Hid (l = []) := Lib.hid (by
      rcases h with ⟨-, h⟩ | ⟨g, o, c, e, -⟩
      · exact h
      · cases e)
    clear h
    go_enter Try.func43, Try.ntmps43
    go_wp2_with fail
    go_ret
    exact ⟨_, rfl, Ext.refl w, by rw [HL.out]; exact OB.nil _ _⟩
  | some ad =>
    have hb : ∀ W : World, (binOp .eql 42 (.slice (some ad) l.length cap) (.slice none 0 0)).run Try.prog W = .ok (.bool false) W := fun W => by kernel_rfl
    have XA := Lib.hid ((Ext.refl w).alloc (.cells #[] 5))
    have HO : Hid (OB (w.alloc (.cells #[] 5)) w.heap.size (.slice (some ⟨w.heap.size, 0, none⟩) 0 0) []) := Lib.hid ⟨rfl, .inr ⟨w.heap.size, 0, #[], rfl, Nat.le_refl _, heap_alloc_new w _, Nat.le_refl _, by simp only [maxLen]; omega, rfl, rfl⟩⟩
    have HB := Lib.hid (h.ext XA.out)
    have HL := Lib.hid hl
    clear h hl
    go_enter Try.func43, Try.ntmps43
    go_wp2_with (at_builtin; refine wpList_append_obx (w0 := w) _ rfl (.tmp 5) (.tmp 6) 42 Try.underlying42 rfl _ [] rfl XA.out HO.out _ _ _ l rfl HB.out (by have := HL.out; simp; omega) ?_; intro v2 w2 HO2 HX2 _)
    go_ret
    exact ⟨_, rfl, HX2.out, by have := HO2.out; rwa [List.nil_append] at this⟩
theorem flat_le (l : List Pg) (h : ∀ p ∈ l, p.data.length ≤ 512) : (l.flatMap (·.data)).length ≤ l.length * 512 := by
  induction l with
  | nil => simp
  | cons p r ih =>
    rw [List.flatMap_cons, List.length_append, List.length_cons, Nat.succ_mul]
    have := h p (by simp)
    have := ih (fun q hq => h q (List.mem_cons_of_mem _ hq))
    omega
theorem textF_suffix {b k r : Bs} (h : textF (some b) = (k, some r)) : r = b.drop (b.length - r.length) ∧ r.length ≤ b.length := by
  unfold textF at h
  simp only at h
  split at h
  · cases h
  · rename_i n m hu
    split at h
    · cases h
    · simp only [Prod.mk.injEq, Option.some.injEq] at h
      obtain ⟨-, rfl⟩ := h
      have h2 : (uintF (some b)).2 = some m := by rw [hu]
      obtain ⟨f1, f2, -⟩ := uintF_suffix h2
      rw [List.length_drop]
      refine ⟨?_, by omega⟩
      rw [f1, List.drop_drop, List.length_drop]
      congr 1
      omega
set_option maxHeartbeats 8000000 in
theorem join_any {w : World} {g o n cap : Nat} {list : List Pg} (hn : n = list.length) (h1 : 1 ≤ n) (h32 : n ≤ 32) (hcap : n ≤ cap) (hd : ∀ p ∈ list, p.data.length ≤ 512) (hc : ∀ i p, list[i]? = some p → PgCell w g (o + i * 6) p) :
    Calls Try.prog 95 #[.slice (some ⟨g, o, none⟩) n cap] w fun e w' => Ext w w' ∧ JoinPost w' e (joinF list) := by
  have HN := Lib.hid hn
  have HD := Lib.hid hd
  have HC := Lib.hid hc
  obtain ⟨f, hf⟩ : ∃ f, list[0]? = some f := ⟨_, List.getElem?_eq_getElem (by omega)⟩
  have HF := Lib.hid hf
  have hf0 := hc 0 f hf
  rw [Nat.zero_mul, Nat.add_zero] at hf0
  obtain ⟨wz, hwz⟩ : ∃ z, z = w.alloc (.cells #[.int .i64 0, .int .i64 0, .int .i64 0, .int .i64 0, .string ⟨#[]⟩, .slice none 0 0] 90) := ⟨_, rfl⟩
  have HXZ := Lib.hid (show Ext w wz by rw [hwz]; exact (Ext.refl w).alloc _)
  have HRZ : Hid (RowB wz w.heap.size 90 [.int .i64 0, .int .i64 0, .int .i64 0, .int .i64 0, .string ⟨#[]⟩, .slice none 0 0]) := Lib.hid (by rw [hwz]; exact row_laid w _ _)
  obtain ⟨Af, cf, hf1, f0, f1, f2, f3, f4, f5⟩ := hf0.ext HXZ.out
  have HFB := Lib.hid hf1
  clear hn hd hc hf hf0 hf1
  go_enter Try.func95, Try.ntmps95
  go_upto_region 1 with fail
  rw [← hwz]
  clear hwz
  go_upto_region 4 with fail
  obtain ⟨wl, hwl⟩ : ∃ z, z = (wz.alloc (.cells #[.int .i64 f.kind, .int .i64 f.number, .int .i64 f.segment, .int .i64 f.part, .int .i64 f.parts, .slice Af f.data.length cf] 129)).alloc (.cells #[.int .i64 f.kind, .int .i64 f.number, .int .i64 f.segment, .int .i64 n, .string ⟨#[]⟩, .slice none 0 0] 90) := ⟨_, rfl⟩
  obtain ⟨t4, ht4⟩ : ∃ z, z = wz.heap.size := ⟨_, rfl⟩
  obtain ⟨t5, ht5⟩ : ∃ z, z = wz.heap.size + 1 := ⟨_, rfl⟩
  have HXL : Hid (Ext w wl) := Lib.hid (by rw [hwl]; exact (HXZ.out.alloc _).alloc _)
  have HRF : Hid (RowB wl t4 129 [.int .i64 f.kind, .int .i64 f.number, .int .i64 f.segment, .int .i64 f.part, .int .i64 f.parts, .slice Af f.data.length cf]) := Lib.hid (by rw [hwl, ht4]; exact (row_laid wz _ _).ext ((Ext.refl _).alloc _))
  have HRE : Hid (RowB wl t5 90 [.int .i64 f.kind, .int .i64 f.number, .int .i64 f.segment, .int .i64 n, .string ⟨#[]⟩, .slice none 0 0]) := Lib.hid (by
    rw [hwl, ht5]
    have h9 := row_laid (wz.alloc (.cells #[.int .i64 f.kind, .int .i64 f.number, .int .i64 f.segment, .int .i64 f.part, .int .i64 f.parts, .slice Af f.data.length cf] 129)) 90 [.int .i64 f.kind, .int .i64 f.number, .int .i64 f.segment, .int .i64 n, .string ⟨#[]⟩, .slice none 0 0]
    rw [show (wz.alloc (.cells #[.int .i64 f.kind, .int .i64 f.number, .int .i64 f.segment, .int .i64 f.part, .int .i64 f.parts, .slice Af f.data.length cf] 129)).heap.size = wz.heap.size + 1 by simp] at h9
    exact h9)
  have HRR : Hid (RowB wl w.heap.size 90 [.int .i64 0, .int .i64 0, .int .i64 0, .int .i64 0, .string ⟨#[]⟩, .slice none 0 0]) := Lib.hid (by rw [hwl]; exact HRZ.out.ext (((Ext.refl _).alloc _).alloc _))
  have HT5 := Lib.hid (show w.heap.size < t5 by rw [ht5]; have := HRZ.out.lt; omega)
  rw [← ht5, ← ht4, ← hwl]
  clear hwl ht4 ht5 f0 f1 f2 f3 f4 f5
  go_wp2_with fail
  go_loopw [6, 24] (fun v i wr => ∃ k : Nat, i = .int .i64 k ∧ k ≤ n ∧ Hid (Ext wl wr ∧ OB wr wl.heap.size v ((list.take k).flatMap (·.data)) ∧ ∀ j q, j < k → list[j]? = some q → fitsF f list.length j q = true)) (fun _ i _ => n - (intOf i).toNat)
  case atStart => exact ⟨0, rfl, by omega, Lib.hid ⟨Ext.refl _, OB.nil _ _, fun j q hj => by omega⟩⟩
  case round =>
    obtain ⟨k, rfl, hk, hW⟩ := hrel
    by_cases hkn : k < n
    · have hki : (k : Int) < (n : Int) := by omega
      obtain ⟨p, hp⟩ : ∃ p, list[k]? = some p := ⟨_, List.getElem?_eq_getElem (by rw [← HN.out]; exact hkn)⟩
      have HP := Lib.hid hp
      obtain ⟨Ap, cp, hb, p0, p1, p2, p3, p4, p5⟩ := (HC.out k p hp).ext (HXL.out.trans hW.out.1)
      have HPB := Lib.hid hb
      have HPL := Lib.hid (HD.out p (List.mem_of_getElem? hp))
      clear hp hb
      go_upto_region 7 with fail
      obtain ⟨w1, hw1⟩ : ∃ z, z = wr.alloc (.cells #[.int .i64 p.kind, .int .i64 p.number, .int .i64 p.segment, .int .i64 p.part, .int .i64 p.parts, .slice Ap p.data.length cp] 129) := ⟨_, rfl⟩
      have X1 : Hid (Ext wr w1) := Lib.hid (by rw [hw1]; exact (Ext.refl wr).alloc _)
      obtain ⟨t8, ht8⟩ : ∃ z, z = wr.heap.size := ⟨_, rfl⟩
      have HR8 : Hid (RowB w1 t8 129 [.int .i64 p.kind, .int .i64 p.number, .int .i64 p.segment, .int .i64 p.part, .int .i64 p.parts, .slice Ap p.data.length cp]) := Lib.hid (by rw [hw1, ht8]; exact row_laid wr _ _)
      have HF8 := Lib.hid (HRF.out.ext (hW.out.1.trans X1.out))
      rw [← ht8, ← hw1]
      clear hw1 ht8 p0 p1 p2 p3 p4 p5
      obtain ⟨b1, hb1⟩ : ∃ b, b = !(decide (p.kind = f.kind ∧ p.number = f.number ∧ p.segment = f.segment ∧ p.parts = n ∧ p.part = k)) := ⟨_, rfl⟩
      have HB1 := Lib.hid hb1
      clear hb1
      have a0 := (HR8.out).cell (j := 0) rfl
      have a1 := (HR8.out).cell (j := 1) rfl
      have a2 := (HR8.out).cell (j := 2) rfl
      have a3 := (HR8.out).cell (j := 3) rfl
      have a4 := (HR8.out).cell (j := 4) rfl
      have a5 := (HR8.out).cell (j := 5) rfl
      have c0 := (HF8.out).cell (j := 0) rfl
      have c1 := (HF8.out).cell (j := 1) rfl
      have c2 := (HF8.out).cell (j := 2) rfl
      have c3 := (HF8.out).cell (j := 3) rfl
      have c4 := (HF8.out).cell (j := 4) rfl
      have c5 := (HF8.out).cell (j := 5) rfl
      go_cut [60] (fun v wx => v = .bool b1 ∧ wx = w1)
      case first =>
        by_cases h0 : p.kind = f.kind
        · have i0 : ((p.kind : Int) != (f.kind : Int)) = false := by rw [h0]; simp
          by_cases h1 : p.number = f.number
          · have i1 : ((p.number : Int) != (f.number : Int)) = false := by rw [h1]; simp
            by_cases h2 : p.segment = f.segment
            · have i2 : ((p.segment : Int) != (f.segment : Int)) = false := by rw [h2]; simp
              by_cases h3 : p.parts = n
              · have i3 : ((p.parts : Int) != (n : Int)) = false := by rw [h3]; simp
                by_cases h4 : p.part = k
                · have i4 : ((p.part : Int) != (k : Int)) = false := by rw [h4]; simp
                  have HV := Lib.hid (show b1 = false by rw [HB1.out]; simp [h0, h1, h2, h3, h4])
                  clear h0 h1 h2 h3 h4
                  go_wp2_with fail
                  go_meet
                  exact ⟨by rw [HV.out], rfl⟩
                · have i4 : ((p.part : Int) != (k : Int)) = true := by rw [bne_iff_ne]; omega
                  have HV := Lib.hid (show b1 = true by rw [HB1.out]; simp [h0, h1, h2, h3, h4])
                  clear h0 h1 h2 h3 h4
                  go_wp2_with fail
                  go_meet
                  exact ⟨by rw [HV.out], rfl⟩
              · have i3 : ((p.parts : Int) != (n : Int)) = true := by rw [bne_iff_ne]; omega
                have HV := Lib.hid (show b1 = true by rw [HB1.out]; simp [h0, h1, h2, h3])
                clear h0 h1 h2 h3
                go_wp2_with fail
                go_meet
                exact ⟨by rw [HV.out], rfl⟩
            · have i2 : ((p.segment : Int) != (f.segment : Int)) = true := by rw [bne_iff_ne]; omega
              have HV := Lib.hid (show b1 = true by rw [HB1.out]; simp [h0, h1, h2])
              clear h0 h1 h2
              go_wp2_with fail
              go_meet
              exact ⟨by rw [HV.out], rfl⟩
          · have i1 : ((p.number : Int) != (f.number : Int)) = true := by rw [bne_iff_ne]; omega
            have HV := Lib.hid (show b1 = true by rw [HB1.out]; simp [h0, h1])
            clear h0 h1
            go_wp2_with fail
            go_meet
            exact ⟨by rw [HV.out], rfl⟩
        · have i0 : ((p.kind : Int) != (f.kind : Int)) = true := by rw [bne_iff_ne]; omega
          have HV := Lib.hid (show b1 = true by rw [HB1.out]; simp [h0])
          clear h0
          go_wp2_with fail
          go_meet
          exact ⟨by rw [HV.out], rfl⟩
      case rest =>
      obtain ⟨rfl, rfl⟩ := hcut
      clear a0 a1 a2 a3 a4 a5
      clear c0 c1 c2 c3 c4 c5
      have HZ9 := Lib.hid (HRR.out.ext (hW.out.1.trans X1.out))
      have HX9 := Lib.hid (HXL.out.trans (hW.out.1.trans X1.out))
      cases b1 with
      | true =>
        have HJ := Lib.hid (joinF_bad HF.out HP.out (fits_five (f := f) (p := p) (i := k) (by
          intro hh
          have h9 := HB1.out
          rw [HN.out, decide_eq_true hh] at h9
          cases h9)))
        have e0 := (HZ9.out).cell (j := 0) rfl
        have e1 := (HZ9.out).cell (j := 1) rfl
        have e2 := (HZ9.out).cell (j := 2) rfl
        have e3 := (HZ9.out).cell (j := 3) rfl
        have e4 := (HZ9.out).cell (j := 4) rfl
        have e5 := (HZ9.out).cell (j := 5) rfl
        have q0 := (HZ9.out).frozen (j := 0) (by simp)
        have q1 := (HZ9.out).frozen (j := 1) (by simp)
        have q2 := (HZ9.out).frozen (j := 2) (by simp)
        have q3 := (HZ9.out).frozen (j := 3) (by simp)
        have q4 := (HZ9.out).frozen (j := 4) (by simp)
        have q5 := (HZ9.out).frozen (j := 5) (by simp)
        obtain ⟨hr9, hm9⟩ := row_set6 HZ9.out (.int .i64 0) (.int .i64 0) (.int .i64 0) (.int .i64 0) (.string ⟨#[]⟩) (.slice none 0 0)
        have HR9 := Lib.hid hr9
        have HM9 := Lib.hid (Mod.ext (((Mod.of_ext (fun _ => False) HX9.out).then hm9 (fun i hi => .inr (by omega)))) (fun _ h => h.elim))
        clear hr9 hm9
        go_wp2_with fail
        have r0 := (HR9.out).cell (j := 0) rfl
        have r1 := (HR9.out).cell (j := 1) rfl
        have r2 := (HR9.out).cell (j := 2) rfl
        have r3 := (HR9.out).cell (j := 3) rfl
        have r4 := (HR9.out).cell (j := 4) rfl
        have r5 := (HR9.out).cell (j := 5) rfl
        refine bodyPost_ret (by simp [results, Try.results95, go_sem, r0, r1, r2, r3, r4, r5]; try rfl) rfl ?_
        exact ⟨HM9.out, by rw [HJ.out]; rfl⟩
      | false =>
        have H5 := Lib.hid (show p.kind = f.kind ∧ p.number = f.number ∧ p.segment = f.segment ∧ p.parts = n ∧ p.part = k by
          have h9 := HB1.out
          simpa using h9)
        have a5 := HR8.out.cell (j := 5) rfl
        go_upto_region 9 with fail
        obtain ⟨b2, hb2⟩ : ∃ b, b = decide ((k + 1 < n ∧ p.data.length ≠ 480) ∨ p.data.length < 1 ∨ 480 < p.data.length) := ⟨_, rfl⟩
        have HB2 := Lib.hid hb2
        clear hb2
        obtain ⟨m, hm⟩ : ∃ m, m = p.data.length := ⟨_, rfl⟩
        have HMM := Lib.hid hm
        rw [← hm] at HB2 a5
        have HR8b := HR8
        rw [← hm] at HR8b
        clear hm
        go_cut [84] (fun v wx => v = .bool b2 ∧ wx = wc)
        case first =>
          by_cases g0 : k + 1 < n
          · have g0i : (k : Int) < (n : Int) - 1 := by omega
            by_cases g1 : m = 480
            · have g1i : ((m : Int) != 480) = false := by rw [g1]; simp
              have g2i : (1 : Int) ≤ (m : Int) := by omega
              have g3i : (m : Int) ≤ 480 := by omega
              have HV := Lib.hid (show b2 = false by rw [HB2.out, decide_eq_false_iff_not]; omega)
              clear g0 g1
              go_wp2_with fail
              go_meet
              exact ⟨by rw [HV.out, decide_eq_false (show ¬ ((m : Int) < 1) by omega), decide_eq_false (show ¬ (480 < (m : Int)) by omega)]; rfl, rfl⟩
            · have g1i : ((m : Int) != 480) = true := by rw [bne_iff_ne]; omega
              have HV := Lib.hid (show b2 = true by rw [HB2.out, decide_eq_true_eq]; omega)
              clear g0 g1
              go_wp2_with fail
              go_meet
              exact ⟨by rw [HV.out], rfl⟩
          · have g0i : (n : Int) - 1 ≤ (k : Int) := by omega
            by_cases g1 : m < 1
            · have g1i : (m : Int) < 1 := by omega
              have HV := Lib.hid (show b2 = true by rw [HB2.out, decide_eq_true_eq]; omega)
              clear g0 g1
              go_wp2_with fail
              go_meet
              exact ⟨by rw [HV.out], rfl⟩
            · have g1i : (1 : Int) ≤ (m : Int) := by omega
              by_cases g2 : 480 < m
              · have g2i : (480 : Int) < (m : Int) := by omega
                have HV := Lib.hid (show b2 = true by rw [HB2.out, decide_eq_true_eq]; omega)
                clear g0 g1 g2
                go_wp2_with fail
                go_meet
                exact ⟨by rw [HV.out], rfl⟩
              · have g2i : (m : Int) ≤ 480 := by omega
                have HV := Lib.hid (show b2 = false by rw [HB2.out, decide_eq_false_iff_not]; omega)
                clear g0 g1 g2
                go_wp2_with fail
                go_meet
                exact ⟨by rw [HV.out, decide_eq_false (show ¬ ((m : Int) < 1) by omega), decide_eq_false (show ¬ (480 < (m : Int)) by omega)]; rfl, rfl⟩
        case rest =>
        obtain ⟨rfl, rfl⟩ := hcut
        cases b2 with
        | true =>
          have HJ := Lib.hid (joinF_bad HF.out HP.out (fits_len (f := f) (p := p) (i := k) (m := list.length) (by
            have h9 := HB2.out
            rw [HMM.out] at h9
            rw [← HN.out]
            exact of_decide_eq_true h9.symm)))
          have e0 := (HZ9.out).cell (j := 0) rfl
          have e1 := (HZ9.out).cell (j := 1) rfl
          have e2 := (HZ9.out).cell (j := 2) rfl
          have e3 := (HZ9.out).cell (j := 3) rfl
          have e4 := (HZ9.out).cell (j := 4) rfl
          have e5 := (HZ9.out).cell (j := 5) rfl
          have q0 := (HZ9.out).frozen (j := 0) (by simp)
          have q1 := (HZ9.out).frozen (j := 1) (by simp)
          have q2 := (HZ9.out).frozen (j := 2) (by simp)
          have q3 := (HZ9.out).frozen (j := 3) (by simp)
          have q4 := (HZ9.out).frozen (j := 4) (by simp)
          have q5 := (HZ9.out).frozen (j := 5) (by simp)
          obtain ⟨hr9, hm9⟩ := row_set6 HZ9.out (.int .i64 0) (.int .i64 0) (.int .i64 0) (.int .i64 0) (.string ⟨#[]⟩) (.slice none 0 0)
          have HR9 := Lib.hid hr9
          have HM9 := Lib.hid (Mod.ext (((Mod.of_ext (fun _ => False) HX9.out).then hm9 (fun i hi => .inr (by omega)))) (fun _ h => h.elim))
          clear hr9 hm9
          go_wp2_with fail
          have r0 := (HR9.out).cell (j := 0) rfl
          have r1 := (HR9.out).cell (j := 1) rfl
          have r2 := (HR9.out).cell (j := 2) rfl
          have r3 := (HR9.out).cell (j := 3) rfl
          have r4 := (HR9.out).cell (j := 4) rfl
          have r5 := (HR9.out).cell (j := 5) rfl
          refine bodyPost_ret (by simp [results, Try.results95, go_sem, r0, r1, r2, r3, r4, r5]; try rfl) rfl ?_
          exact ⟨HM9.out, by rw [HJ.out]; rfl⟩
        | false =>
          have HFT := Lib.hid (fits_all (f := f) (p := p) (i := k) (m := n) H5.out (by
            have h9 := HB2.out
            rw [HMM.out] at h9
            exact of_decide_eq_false h9.symm))
          have HXC := Lib.hid (hW.out.1.trans X1.out)
          have HOC := Lib.hid (hW.out.2.1.ext X1.out)
          have HPC : Hid (BS wc (.slice Ap m cp) p.data) := Lib.hid (by rw [HMM.out]; exact HPB.out.ext X1.out)
          have HTL := Lib.hid (show ((list.take k).flatMap (·.data)).length + p.data.length ≤ 1000000 by
            have h9 := flat_le (list.take k) (fun q hq => HD.out q (List.mem_of_mem_take hq))
            have := HPL.out
            rw [List.length_take] at h9
            have : min k list.length * 512 ≤ 32 * 512 := Nat.mul_le_mul_right _ (by omega)
            omega)
          go_wp2_with (at_builtin; refine wpList_append_obx (w0 := wl) _ rfl (.tmp 86) (.tmp 88) 42 Try.underlying42 rfl _ _ rfl HXC.out HOC.out _ _ _ p.data rfl HPC.out (by have := HTL.out; omega) ?_; intro v2 w2 HO2 HX2 _)
          refine ⟨⟨k + 1, by go_num, by omega, Lib.hid ⟨HX2.out, ?_, fun j q hj hq => ?_⟩⟩, by simp [intOf]; omega⟩
          · rw [List.take_add_one, HP.out, Option.toList_some, List.flatMap_append, List.flatMap_singleton]
            exact HO2.out
          · rcases Nat.lt_or_ge j k with h9 | h9
            · exact hW.out.2.2 j q h9 hq
            · obtain rfl : j = k := by omega
              rw [HP.out] at hq
              cases hq
              rw [← HN.out]
              exact HFT.out
    · have hki : (n : Int) ≤ (k : Int) := by omega
      obtain rfl : k = n := by omega
      have HALL := Lib.hid (show (list.take k).flatMap (·.data) = list.flatMap (·.data) by rw [List.take_of_length_le (by have := HN.out; omega)])
      have HJG := Lib.hid (joinF_go HF.out (fun j q hq => hW.out.2.2 j q (by rw [HN.out]; exact (List.getElem?_eq_some_iff.1 hq).1) hq))
      obtain ⟨al, hal⟩ : ∃ al, al = list.flatMap (·.data) := ⟨_, rfl⟩
      have HALN := Lib.hid (show al.length ≤ 1000000 by
        rw [hal]
        have h9 := flat_le list HD.out
        have : list.length * 512 ≤ 32 * 512 := Nat.mul_le_mul_right _ (by have := HN.out; omega)
        omega)
      have HOB := Lib.hid (show OB wr wl.heap.size u6 al by rw [hal, ← HALL.out]; exact hW.out.2.1)
      have HXR := Lib.hid hW.out.1
      rw [← hal] at HJG
      clear hal HALL hW
      obtain ⟨Aa, ca, rfl, -, -⟩ := HOB.out.bs.slice
      go_upto_region 14 with (go_at_call 90; refine (read_any HOB.out.bs HALN.out).mono ?_; rintro e w3 ⟨c, rfl, hx3, hc3, hcur⟩)
      have HX3 := Lib.hid hx3
      have HC3 := Lib.hid hc3
      have HCUR := Lib.hid hcur
      have HRE3 := Lib.hid (HRE.out.ext (HXR.out.trans hx3))
      have HRR3 := Lib.hid (HRR.out.ext (HXR.out.trans hx3))
      have HB3 := Lib.hid (HOB.out.bs.ext hx3)
      have HTX := Lib.hid (text23_any hcur (fun l hl => by cases hl; exact HALN.out))
      have HSF := Lib.hid (fun k r => textF_suffix (b := al) (k := k) (r := r))
      clear hx3 hc3 hcur
      obtain ⟨⟨ky, lf⟩, htx⟩ : ∃ x, x = textF (some al) := ⟨_, rfl⟩
      rw [← htx] at HTX HJG HSF
      simp only at HTX HJG HSF
      have HK1 := Lib.hid (show ∀ k r, (ky, lf) = (k, some r) → 1 ≤ al.length from fun k r e => by
        rw [htx] at e
        unfold textF at e
        simp only at e
        split at e
        · cases e
        · rename_i n m hu
          exact (uintF_suffix (b := al) (r := m) (by rw [hu])).2.2)
      clear htx
      have HTC := Lib.hid (show t5 ≠ c ∧ w.heap.size ≠ c ∧ w.heap.size ≠ t5 from by
        obtain ⟨v, ev, hr, -⟩ := HCUR.out.row
        exact ⟨HRE3.out.apart hr (by decide), HRR3.out.apart hr (by decide), by have := HT5.out; omega⟩)
      go_upto_region 15 with (go_at_call 106; refine HTX.out.mono ?_; rintro e w4 ⟨rfl, hm4, hc4⟩; have hr4 := hm4.rowB HRE3.out (fun e => HTC.out.1 e); have e4 := hr4.cell (j := 4) rfl; have q4 := hr4.frozen (j := 4) (by simp))
      obtain ⟨w5, hw5⟩ : ∃ z, z = w4.setCell ⟨t5, 4, none⟩ (.string (st ky)) := ⟨_, rfl⟩
      have HM45 : Hid (Mod (fun x => x = t5) w4 w5) := Lib.hid (by rw [hw5]; exact mod_set w4 t5 4 _)
      have HRE5 : Hid (RowB w5 t5 90 [.int .i64 f.kind, .int .i64 f.number, .int .i64 f.segment, .int .i64 k, .string (st ky), .slice none 0 0]) := Lib.hid (by rw [hw5]; exact hr4.set 4 _ (by simp))
      have HM35 := Lib.hid ((hm4.mono (fun _ _ h => .inl h) : Mod (fun x => x = c ∨ x = t5) w3 w4).then HM45.out (fun i hi => .inl (.inr hi)))
      have HC5 := Lib.hid (hc4.mod HM45.out (fun e => HTC.out.1 e.symm) (no8_row hr4 (by decide)))
      rw [← hw5]
      clear hw5 hr4 e4 q4 hm4 hc4
      have HZ9 := Lib.hid (HM35.out.rowB HRR3.out (fun e => e.elim HTC.out.2.1 HTC.out.2.2))
      have HX9 := Lib.hid (show Ext w w5 from ((Mod.of_ext (fun _ => False) (HXL.out.trans (HXR.out.trans HX3.out))).then HM35.out (fun x hx => .inr (by
        have h1 := HC3.out
        have h2 := HXR.out.size
        have h3 := HXL.out.size
        have h4 := HT5.out
        rcases hx with rfl | rfl <;> omega))).ext (fun _ h => h.elim))
      have HB5 := Lib.hid (HB3.out.mod HM35.out (fun g C fr hg hx => hx.elim (fun e => by obtain ⟨v, ev, hr, -⟩ := HCUR.out.row; exact no8_row hr (by decide) g C fr hg e) (fun e => no8_row HRE3.out (by decide) g C fr hg e)))
      have HER := Lib.hid (err_any HC5.out)
      cases lf with
      | none =>
        rw [show curErr none = errV 2 from rfl] at HER
        have HJ := Lib.hid (show joinF list = none from HJG.out)
        have e0 := (HZ9.out).cell (j := 0) rfl
        have e1 := (HZ9.out).cell (j := 1) rfl
        have e2 := (HZ9.out).cell (j := 2) rfl
        have e3 := (HZ9.out).cell (j := 3) rfl
        have e4 := (HZ9.out).cell (j := 4) rfl
        have e5 := (HZ9.out).cell (j := 5) rfl
        have q0 := (HZ9.out).frozen (j := 0) (by simp)
        have q1 := (HZ9.out).frozen (j := 1) (by simp)
        have q2 := (HZ9.out).frozen (j := 2) (by simp)
        have q3 := (HZ9.out).frozen (j := 3) (by simp)
        have q4 := (HZ9.out).frozen (j := 4) (by simp)
        have q5 := (HZ9.out).frozen (j := 5) (by simp)
        obtain ⟨hr9, hm9⟩ := row_set6 HZ9.out (.int .i64 0) (.int .i64 0) (.int .i64 0) (.int .i64 0) (.string ⟨#[]⟩) (.slice none 0 0)
        have HR9 := Lib.hid hr9
        have HM9 := Lib.hid (Mod.ext (((Mod.of_ext (fun _ => False) HX9.out).then hm9 (fun i hi => .inr (by omega)))) (fun _ h => h.elim))
        clear hr9 hm9
        go_wp2_with (go_at_call 92; refine HER.out.mono ?_; rintro e w6 ⟨rfl, rfl⟩)
        have r0 := (HR9.out).cell (j := 0) rfl
        have r1 := (HR9.out).cell (j := 1) rfl
        have r2 := (HR9.out).cell (j := 2) rfl
        have r3 := (HR9.out).cell (j := 3) rfl
        have r4 := (HR9.out).cell (j := 4) rfl
        have r5 := (HR9.out).cell (j := 5) rfl
        refine bodyPost_ret (by simp [results, Try.results95, go_sem, r0, r1, r2, r3, r4, r5]; try rfl) rfl ?_
        exact ⟨HM9.out, by rw [HJ.out]; rfl⟩
      | some left =>
        rw [show curErr (some left) = .nilIface from rfl] at HER
        have HJ1 := Lib.hid (show joinF list = if ky.length < 1 ∨ 2048 < ky.length ∨ (f.kind = 2 ∧ left ≠ []) then none else some ⟨f.kind, f.number, f.segment, list.length, ky, left⟩ from HJG.out)
        have HS1 := Lib.hid (HSF.out ky left rfl)
        have HLF := Lib.hid (left_any HC5.out)
        obtain ⟨ll, hll⟩ : ∃ z, z = left.length := ⟨_, rfl⟩
        have HLL := Lib.hid hll
        rw [← hll] at HLF
        clear hll
        obtain ⟨b3, hb3⟩ : ∃ b, b = decide (ky.length < 1 ∨ 2048 < ky.length ∨ (f.kind = 2 ∧ left ≠ [])) := ⟨_, rfl⟩
        have HB3' := Lib.hid hb3
        clear hb3
        have e4 := HRE5.out.cell (j := 4) rfl
        have e0 := HRE5.out.cell (j := 0) rfl
        obtain ⟨ks, hks⟩ : ∃ z, z = st ky := ⟨_, rfl⟩
        have HKS := Lib.hid (show ks.size = ky.length by rw [hks]; rfl)
        have HKE := Lib.hid hks
        rw [← hks] at e4
        have hkz : ((ks.size : Nat) : Int) = (ky.length : Int) := by rw [HKS.out]
        clear hks
        go_cut [120] (fun v wx => v = .bool b3 ∧ wx = w5)
        case first =>
          by_cases g0 : ky.length < 1
          · have g0i : (ks.size : Int) < 1 := by have := HKS.out; omega
            have HV := Lib.hid (show b3 = true by rw [HB3'.out, decide_eq_true_eq]; exact .inl g0)
            clear g0
            go_wp2_with (first
              | (go_at_call 92; refine HER.out.mono ?_; rintro e w6 ⟨rfl, rfl⟩)
              | (go_at_call 93; refine HLF.out.mono ?_; rintro e w6 ⟨rfl, rfl⟩))
            go_meet
            exact ⟨by rw [HV.out] <;> first | rfl | (simp; omega), rfl⟩
          · have g0i : (1 : Int) ≤ (ks.size : Int) := by have := HKS.out; omega
            by_cases g1 : 2048 < ky.length
            · have g1i : (2048 : Int) < (ks.size : Int) := by have := HKS.out; omega
              have HV := Lib.hid (show b3 = true by rw [HB3'.out, decide_eq_true_eq]; exact .inr (.inl g1))
              clear g0 g1
              go_wp2_with (first
                | (go_at_call 92; refine HER.out.mono ?_; rintro e w6 ⟨rfl, rfl⟩)
                | (go_at_call 93; refine HLF.out.mono ?_; rintro e w6 ⟨rfl, rfl⟩))
              go_meet
              exact ⟨by rw [HV.out] <;> first | rfl | (simp; omega), rfl⟩
            · have g1i : (ks.size : Int) ≤ 2048 := by have := HKS.out; omega
              by_cases g2 : f.kind = 2
              · have g2i : ((f.kind : Int) == 2) = true := by rw [g2]; rfl
                by_cases g3 : left = []
                · have g3i : (ll : Int) ≤ 0 := by rw [HLL.out, g3]; simp
                  have HV := Lib.hid (show b3 = false by rw [HB3'.out, decide_eq_false_iff_not]; exact fun h => h.elim g0 (fun h => h.elim g1 (fun h => h.2 g3)))
                  clear g0 g1 g2 g3
                  go_wp2_with (first
                    | (go_at_call 92; refine HER.out.mono ?_; rintro e w6 ⟨rfl, rfl⟩)
                    | (go_at_call 93; refine HLF.out.mono ?_; rintro e w6 ⟨rfl, rfl⟩))
                  go_meet
                  exact ⟨by rw [HV.out] <;> first | rfl | (simp; omega), rfl⟩
                · have g3i : (0 : Int) < (ll : Int) := by rw [HLL.out]; have := List.length_pos_iff.2 g3; omega
                  have HV := Lib.hid (show b3 = true by rw [HB3'.out, decide_eq_true_eq]; exact .inr (.inr ⟨g2, g3⟩))
                  clear g0 g1 g2 g3
                  go_wp2_with (first
                    | (go_at_call 92; refine HER.out.mono ?_; rintro e w6 ⟨rfl, rfl⟩)
                    | (go_at_call 93; refine HLF.out.mono ?_; rintro e w6 ⟨rfl, rfl⟩))
                  go_meet
                  exact ⟨by rw [HV.out] <;> first | rfl | (simp; omega), rfl⟩
              · have g2i : ((f.kind : Int) == 2) = false := by rw [beq_eq_false_iff_ne]; omega
                have HV := Lib.hid (show b3 = false by rw [HB3'.out, decide_eq_false_iff_not]; exact fun h => h.elim g0 (fun h => h.elim g1 (fun h => g2 h.1)))
                clear g0 g1 g2
                go_wp2_with (first
                  | (go_at_call 92; refine HER.out.mono ?_; rintro e w6 ⟨rfl, rfl⟩)
                  | (go_at_call 93; refine HLF.out.mono ?_; rintro e w6 ⟨rfl, rfl⟩))
                go_meet
                exact ⟨by rw [HV.out] <;> first | rfl | (simp; omega), rfl⟩
        case rest =>
        obtain ⟨rfl, rfl⟩ := hcut
        cases b3 with
        | true =>
          have HJ := Lib.hid (show joinF list = none by rw [HJ1.out, if_pos (of_decide_eq_true HB3'.out.symm)])
          clear e0 e4
          have e0 := (HZ9.out).cell (j := 0) rfl
          have e1 := (HZ9.out).cell (j := 1) rfl
          have e2 := (HZ9.out).cell (j := 2) rfl
          have e3 := (HZ9.out).cell (j := 3) rfl
          have e4 := (HZ9.out).cell (j := 4) rfl
          have e5 := (HZ9.out).cell (j := 5) rfl
          have q0 := (HZ9.out).frozen (j := 0) (by simp)
          have q1 := (HZ9.out).frozen (j := 1) (by simp)
          have q2 := (HZ9.out).frozen (j := 2) (by simp)
          have q3 := (HZ9.out).frozen (j := 3) (by simp)
          have q4 := (HZ9.out).frozen (j := 4) (by simp)
          have q5 := (HZ9.out).frozen (j := 5) (by simp)
          obtain ⟨hr9, hm9⟩ := row_set6 HZ9.out (.int .i64 0) (.int .i64 0) (.int .i64 0) (.int .i64 0) (.string ⟨#[]⟩) (.slice none 0 0)
          have HR9 := Lib.hid hr9
          have HM9 := Lib.hid (Mod.ext (((Mod.of_ext (fun _ => False) HX9.out).then hm9 (fun i hi => .inr (by omega)))) (fun _ h => h.elim))
          clear hr9 hm9
          go_wp2_with fail
          have r0 := (HR9.out).cell (j := 0) rfl
          have r1 := (HR9.out).cell (j := 1) rfl
          have r2 := (HR9.out).cell (j := 2) rfl
          have r3 := (HR9.out).cell (j := 3) rfl
          have r4 := (HR9.out).cell (j := 4) rfl
          have r5 := (HR9.out).cell (j := 5) rfl
          refine bodyPost_ret (by simp [results, Try.results95, go_sem, r0, r1, r2, r3, r4, r5]; try rfl) rfl ?_
          exact ⟨HM9.out, by rw [HJ.out]; rfl⟩
        | false =>
          have HJ := Lib.hid (show joinF list = some ⟨f.kind, f.number, f.segment, list.length, ky, left⟩ by rw [HJ1.out, if_neg (of_decide_eq_false HB3'.out.symm)])
          have HAL1 := Lib.hid (show 1 ≤ al.length from HK1.out ky left rfl)
          obtain ⟨ga, oa, rfl⟩ : ∃ g1 o1, Aa = some ⟨g1, o1, none⟩ := by
            obtain ⟨A', c', e', -, h'⟩ := HB5.out.slice
            cases e'
            exact h' (fun e => by have := HAL1.out; rw [e] at this; simp at this)
          obtain ⟨K, hK⟩ : ∃ K, K = al.length - ll := ⟨_, rfl⟩
          have hKi : (al.length : Int) - (ll : Int) = (K : Int) := by have := HS1.out.2; have := HLL.out; omega
          have hKl : K ≤ al.length := by omega
          have hpc : al.length ≤ ca := HB5.out.len.2
          obtain ⟨A1, hA1⟩ : ∃ A1, (if ca = K then some ⟨ga, oa, none⟩ else some (⟨ga, oa + K, none⟩ : Addr)) = A1 := ⟨_, rfl⟩
          have HDP : Hid (BS wc (.slice A1 (al.length - K) (ca - K)) left) := Lib.hid (by
            have h1 := HB5.out.drop2 K hKl
            rw [hA1, hK, HLL.out, ← HS1.out.1, ← HLL.out, ← hK] at h1
            exact h1)
          have hal : al.length ≤ 1000000 := HALN.out
          have hwK : IntKind.i64.wrap (K : Int) = (K : Int) := IntWalk.i64_in _ (by omega)
          have HCN := Lib.hid (u8clone_any HDP.out (by have := HS1.out.2; omega))
          clear hK e0 e4
          go_upto_region 18 with (first
            | (go_at_call 43; refine HCN.out.mono ?_; rintro e w7 ⟨v7, rfl, hx7, ho7⟩; obtain ⟨A7, c7, rfl, -, -⟩ := ho7.bs.slice; have hr7 := HRE5.out.ext hx7; have e5 := hr7.cell (j := 5) rfl; have q5 := hr7.frozen (j := 5) (by simp))
            | (go_at_call 93; refine HLF.out.mono ?_; rintro e w6 ⟨rfl, rfl⟩))
          have HR7 := Lib.hid hr7
          have HX7 := Lib.hid hx7
          have HV7 := Lib.hid ho7.bs
          clear hr7 hx7 ho7 e5 q5
          obtain ⟨w8, hw8⟩ : ∃ z, z = w7.setCell ⟨t5, 5, none⟩ (.slice A7 left.length c7) := ⟨_, rfl⟩
          have HM78 : Hid (Mod (fun x => x = t5) w7 w8) := Lib.hid (by rw [hw8]; exact mod_set w7 t5 5 _)
          have HR8' : Hid (RowB w8 t5 90 [.int .i64 f.kind, .int .i64 f.number, .int .i64 f.segment, .int .i64 k, .string (st ky), .slice A7 left.length c7]) := Lib.hid (by rw [hw8]; exact HR7.out.set 5 _ (by simp))
          rw [← hw8]
          clear hw8
          have HZ8 := Lib.hid (HM78.out.rowB (HZ9.out.ext HX7.out) (fun e => HTC.out.2.2 e))
          have HX8 := Lib.hid (show Ext w w8 from ((Mod.of_ext (fun _ => False) (HX9.out.trans HX7.out)).then HM78.out (fun x hx => .inr (by have := HT5.out; omega))).ext (fun _ h => h.elim))
          have HV8 := Lib.hid (HV7.out.mod HM78.out (no8_row HR7.out (by decide)))
          have m0 := (HR8'.out).cell (j := 0) rfl
          have m1 := (HR8'.out).cell (j := 1) rfl
          have m2 := (HR8'.out).cell (j := 2) rfl
          have m3 := (HR8'.out).cell (j := 3) rfl
          have m4 := (HR8'.out).cell (j := 4) rfl
          have m5 := (HR8'.out).cell (j := 5) rfl
          have e0 := (HZ8.out).cell (j := 0) rfl
          have e1 := (HZ8.out).cell (j := 1) rfl
          have e2 := (HZ8.out).cell (j := 2) rfl
          have e3 := (HZ8.out).cell (j := 3) rfl
          have e4 := (HZ8.out).cell (j := 4) rfl
          have e5 := (HZ8.out).cell (j := 5) rfl
          have q0 := (HZ8.out).frozen (j := 0) (by simp)
          have q1 := (HZ8.out).frozen (j := 1) (by simp)
          have q2 := (HZ8.out).frozen (j := 2) (by simp)
          have q3 := (HZ8.out).frozen (j := 3) (by simp)
          have q4 := (HZ8.out).frozen (j := 4) (by simp)
          have q5 := (HZ8.out).frozen (j := 5) (by simp)
          obtain ⟨hr9, hm9⟩ := row_set6 HZ8.out (.int .i64 f.kind) (.int .i64 f.number) (.int .i64 f.segment) (.int .i64 k) (.string (st ky)) (.slice A7 left.length c7)
          have HR9 := Lib.hid hr9
          have HV9 := Lib.hid (HV8.out.mod hm9 (no8_row HZ8.out (by decide)))
          have HM9 := Lib.hid (Mod.ext (((Mod.of_ext (fun _ => False) HX8.out).then hm9 (fun i hi => .inr (by omega)))) (fun _ h => h.elim))
          clear hr9 hm9
          go_wp2_with fail
          have r0 := (HR9.out).cell (j := 0) rfl
          have r1 := (HR9.out).cell (j := 1) rfl
          have r2 := (HR9.out).cell (j := 2) rfl
          have r3 := (HR9.out).cell (j := 3) rfl
          have r4 := (HR9.out).cell (j := 4) rfl
          have r5 := (HR9.out).cell (j := 5) rfl
          refine bodyPost_ret (by simp [results, Try.results95, go_sem, r0, r1, r2, r3, r4, r5]; try rfl) rfl ?_
          refine ⟨HM9.out, ?_⟩
          rw [HJ.out]
          exact ⟨_, by rw [← HN.out], HV9.out⟩
end Go.Proofs.Ytepigkjgjlibcaa
namespace Go.Proofs.Ytepigkjgjlibcaa
open Go.RowKit Go.Deep Go.Proofs.Ytepigkjgjlibcaa.FL
set_option maxRecDepth 100000
theorem indexb_any {w : World} {g o n cap : Nat} {bl : List Bool} (hn : n = bl.length) (h64 : n ≤ 64) (hc : ∀ i b, bl[i]? = some b → w.cell? ⟨g, o + i, none⟩ = some (.bool b)) :
    Calls Try.prog 105 #[.slice (some ⟨g, o, none⟩) n cap, .bool false] w fun e w' => ∃ r : Int, e = .returned (.int .i64 r) ∧ (0 ≤ r ↔ bl.any (!·) = true) ∧ w = w' := by
  have HN := Lib.hid hn
  have HC := Lib.hid hc
  clear hn hc
  go_enter Try.func105, Try.ntmps105
  go_wp2_with fail
  go_loopw [8] (fun i wr => ∃ k : Nat, i = .int .i64 k ∧ k ≤ n ∧ w = wr ∧ Hid (∀ j b, j < k → bl[j]? = some b → b = true)) (fun i _ => n - (intOf i).toNat)
  case atStart => exact ⟨0, rfl, by omega, rfl, Lib.hid (fun j b hj => by omega)⟩
  case round =>
    obtain ⟨k, rfl, hk, rfl, hW⟩ := hrel
    by_cases hkn : k < n
    · have hki : (k : Int) < (n : Int) := by omega
      obtain ⟨b, hb⟩ : ∃ b, bl[k]? = some b := ⟨_, List.getElem?_eq_getElem (by rw [← HN.out]; exact hkn)⟩
      have HB := Lib.hid hb
      have c0 := HC.out k b hb
      clear hb
      cases b with
      | true =>
        go_wp2_with fail
        exact ⟨⟨k + 1, by go_num, by omega, (by first | rfl | trivial), Lib.hid (fun j b hj hb => by
          rcases Nat.lt_or_ge j k with h9 | h9
          · exact hW.out j b h9 hb
          · obtain rfl : j = k := by omega
            rw [HB.out] at hb
            cases hb
            rfl)⟩, by simp [intOf]; omega⟩
      | false =>
        go_wp2_with fail
        go_ret
        refine ⟨k, rfl, ⟨fun _ => ?_, fun _ => by omega⟩, rfl⟩
        rw [List.any_eq_true]
        exact ⟨false, List.mem_of_getElem? HB.out, rfl⟩
    · have hki : (n : Int) ≤ (k : Int) := by omega
      obtain rfl : k = n := by omega
      go_wp2_with fail
      go_ret
      refine ⟨-1, rfl, ⟨fun h => by omega, fun h => ?_⟩, rfl⟩
      rw [List.any_eq_true] at h
      obtain ⟨b, hb, h2⟩ := h
      obtain ⟨j, hj⟩ := List.getElem?_of_mem hb
      have := hW.out j b (by rw [HN.out]; exact (List.getElem?_eq_some_iff.1 hj).1) hj
      subst this
      cases h2
theorem containsb_any {w : World} {g o n cap : Nat} {bl : List Bool} (hn : n = bl.length) (h64 : n ≤ 64) (hc : ∀ i b, bl[i]? = some b → w.cell? ⟨g, o + i, none⟩ = some (.bool b)) :
    Calls Try.prog 94 #[.slice (some ⟨g, o, none⟩) n cap, .bool false] w fun e w' => e = .returned (.bool (bl.any (!·))) ∧ w = w' := by
  have HI := Lib.hid (indexb_any (cap := cap) hn h64 hc)
  clear hn hc
  go_enter Try.func94, Try.ntmps94
  go_wp2_with (go_at_call 105; refine HI.out.mono ?_; rintro e w1 ⟨r, rfl, hr, rfl⟩; have HR := Lib.hid hr; clear hr)
  go_ret
  refine ⟨?_, rfl⟩
  have h9 := HR.out
  cases hb : bl.any (!·) with
  | true => rw [show decide (0 ≤ r) = true from decide_eq_true (h9.2 hb)]; rfl
  | false => rw [show decide (0 ≤ r) = false from decide_eq_false (fun h => by rw [h9.1 h] at hb; cases hb)]; rfl
/-- the pages that have been read -/
structure PagesSt (w : World) (pg vb : Nat) (l : List (Option Pg)) : Prop where
  valid : ∀ (i : Nat) (x : Option Pg), l[i]? = some x → w.cell? ⟨vb, i, none⟩ = some (.bool x.isSome)
  page : ∀ (i : Nat) (p : Pg), l[i]? = some (some p) → PgCell w pg (i * 6) p ∧ p.data.length ≤ 512 ∧ 1 ≤ p.parts
theorem PagesSt.ext {w w' : World} {pg vb : Nat} {l : List (Option Pg)} (h : PagesSt w pg vb l) (hx : Ext w w') : PagesSt w' pg vb l :=
  ⟨fun i x hi => hx.cell (h.valid i x hi), fun i p hi => ⟨(h.page i p hi).1.ext hx, (h.page i p hi).2⟩⟩
theorem somes_get {l : List (Option Pg)} (h : l.any (·.isNone) = false) (i : Nat) : (l.filterMap id)[i]? = (l[i]?).join := by
  induction l generalizing i with
  | nil => simp
  | cons x r ih =>
    rw [List.any_cons, Bool.or_eq_false_iff] at h
    cases x with
    | none => simp at h
    | some p =>
      rw [List.filterMap_cons_some (by rfl)]
      cases i with
      | zero => rfl
      | succ i => simpa using ih h.2 i
theorem somes_len {l : List (Option Pg)} (h : l.any (·.isNone) = false) : (l.filterMap id).length = l.length := by
  induction l with
  | nil => rfl
  | cons x r ih =>
    rw [List.any_cons, Bool.or_eq_false_iff] at h
    cases x with
    | none => simp at h
    | some p => rw [List.filterMap_cons_some (by rfl), List.length_cons, List.length_cons, ih h.2]
set_option maxHeartbeats 4000000 in
theorem at_any {w : World} {pg vb np k : Nat} {l : List (Option Pg)} (h : PagesSt w pg vb l) (hn : np = l.length) (h32 : np ≤ 32) (hk : k < np) :
    Calls Try.prog 72 #[.slice (some ⟨pg, 0, none⟩) np np, .slice (some ⟨vb, 0, none⟩) np np, .int .i64 k] w fun e w' => Ext w w' ∧ JoinPost w' e (atF l k) := by
  have hki : (k : Int) < (np : Int) := by omega
  obtain ⟨x, hx⟩ : ∃ x, l[k]? = some x := ⟨_, List.getElem?_eq_getElem (by omega)⟩
  obtain ⟨wz, hwz⟩ : ∃ z, z = w.alloc (.cells #[.int .i64 0, .int .i64 0, .int .i64 0, .int .i64 0, .string ⟨#[]⟩, .slice none 0 0] 90) := ⟨_, rfl⟩
  have HXZ := Lib.hid (show Ext w wz by rw [hwz]; exact (Ext.refl w).alloc _)
  have HRZ : Hid (RowB wz w.heap.size 90 [.int .i64 0, .int .i64 0, .int .i64 0, .int .i64 0, .string ⟨#[]⟩, .slice none 0 0]) := Lib.hid (by rw [hwz]; exact row_laid w _ _)
  have hz := h.ext HXZ.out
  have HZ := Lib.hid hz
  have v0 := hz.valid k x hx
  have HN := Lib.hid hn
  have HX := Lib.hid hx
  have e0 := (HRZ.out).cell (j := 0) rfl
  have e1 := (HRZ.out).cell (j := 1) rfl
  have e2 := (HRZ.out).cell (j := 2) rfl
  have e3 := (HRZ.out).cell (j := 3) rfl
  have e4 := (HRZ.out).cell (j := 4) rfl
  have e5 := (HRZ.out).cell (j := 5) rfl
  have q0 := (HRZ.out).frozen (j := 0) (by simp)
  have q1 := (HRZ.out).frozen (j := 1) (by simp)
  have q2 := (HRZ.out).frozen (j := 2) (by simp)
  have q3 := (HRZ.out).frozen (j := 3) (by simp)
  have q4 := (HRZ.out).frozen (j := 4) (by simp)
  have q5 := (HRZ.out).frozen (j := 5) (by simp)
  obtain ⟨hr9, hm9⟩ := row_set6 HRZ.out (.int .i64 0) (.int .i64 0) (.int .i64 0) (.int .i64 0) (.string ⟨#[]⟩) (.slice none 0 0)
  have HR9 := Lib.hid hr9
  have HM9 := Lib.hid (Mod.ext (((Mod.of_ext (fun _ => False) HXZ.out).then hm9 (fun i hi => .inr (by omega)))) (fun _ h => h.elim))
  clear hr9 hm9 hx hz h hn
  cases x with
  | none =>
    have HA := Lib.hid (show atF l k = none by unfold atF; rw [HX.out])
    go_enter Try.func72, Try.ntmps72
    go_upto_region 1 with fail
    rw [← hwz]
    clear hwz
    go_wp2_with fail
    have r0 := (HR9.out).cell (j := 0) rfl
    have r1 := (HR9.out).cell (j := 1) rfl
    have r2 := (HR9.out).cell (j := 2) rfl
    have r3 := (HR9.out).cell (j := 3) rfl
    have r4 := (HR9.out).cell (j := 4) rfl
    have r5 := (HR9.out).cell (j := 5) rfl
    refine bodyPost_ret (by simp [results, Try.results72, go_sem, r0, r1, r2, r3, r4, r5]; try rfl) rfl ?_
    exact ⟨HM9.out, by rw [HA.out]; rfl⟩
  | some p =>
    obtain ⟨hpc, hpl, hp1⟩ := HZ.out.page k p HX.out
    have HPC := Lib.hid hpc
    have hp4 : wz.cell? ⟨pg, k * 6 + 4, none⟩ = some (.int .i64 p.parts) := by
      obtain ⟨A, c, -, -, -, -, -, h4, -⟩ := hpc
      exact h4
    have hks : ((np - k : Nat) : Int) = (np : Int) - (k : Int) := by omega
    clear hpc hpl
    by_cases hb : np - k < p.parts
    · have hbi : (np : Int) - (k : Int) < (p.parts : Int) := by omega
      have HA := Lib.hid (show atF l k = none by unfold atF; rw [HX.out]; simp only; rw [if_pos (.inl (by rw [← HN.out]; exact hb))])
      clear hb
      go_enter Try.func72, Try.ntmps72
      go_upto_region 1 with fail
      rw [← hwz]
      clear hwz
      go_wp2_with fail
      have r0 := (HR9.out).cell (j := 0) rfl
      have r1 := (HR9.out).cell (j := 1) rfl
      have r2 := (HR9.out).cell (j := 2) rfl
      have r3 := (HR9.out).cell (j := 3) rfl
      have r4 := (HR9.out).cell (j := 4) rfl
      have r5 := (HR9.out).cell (j := 5) rfl
      refine bodyPost_ret (by simp [results, Try.results72, go_sem, r0, r1, r2, r3, r4, r5]; try rfl) rfl ?_
      exact ⟨HM9.out, by rw [HA.out]; rfl⟩
    · have hbi : (p.parts : Int) ≤ (np : Int) - (k : Int) := by omega
      obtain ⟨m, hm⟩ : ∃ m, m = p.parts := ⟨_, rfl⟩
      have HMP := Lib.hid hm
      rw [← hm] at hbi hp4 hp1 hb
      have hnk : ¬ np = k := by omega
      have hle : k + m ≤ np := by omega
      have hwm : IntKind.i64.wrap ((k : Int) + (m : Int)) = ((k + m : Nat) : Int) := by rw [IntWalk.i64_in _ (by omega)]; omega
      have HCT := Lib.hid (containsb_any (w := wz) (g := vb) (o := k) (n := m) (cap := np - k) (bl := ((l.drop k).take m).map (·.isSome)) (by rw [List.length_map, List.length_take, List.length_drop]; have := HN.out; omega) (by omega) (fun i b hi => by
        rw [List.getElem?_map, Option.map_eq_some_iff] at hi
        obtain ⟨y, hy, rfl⟩ := hi
        rw [List.getElem?_take] at hy
        split at hy
        · rw [List.getElem?_drop] at hy
          exact HZ.out.valid (k + i) y hy
        · cases hy))
      have HANY := Lib.hid (show (((l.drop k).take m).map (·.isSome)).any (!·) = ((l.drop k).take m).any (·.isNone) by
        rw [List.any_map]
        congr 1
        funext y
        cases y <;> rfl)
      rw [HANY.out] at HCT
      clear hm hb
      cases hany : ((l.drop k).take m).any (·.isNone) with
      | true =>
        rw [hany] at HCT
        have HA := Lib.hid (show atF l k = none by unfold atF; rw [HX.out]; simp only; rw [if_pos (.inr (by rw [← HMP.out]; exact hany))])
        clear hany
        go_enter Try.func72, Try.ntmps72
        go_upto_region 1 with fail
        rw [← hwz]
        clear hwz
        go_wp2_with (go_at_call 94; refine HCT.out.mono ?_; rintro e w1 ⟨rfl, rfl⟩)
        have r0 := (HR9.out).cell (j := 0) rfl
        have r1 := (HR9.out).cell (j := 1) rfl
        have r2 := (HR9.out).cell (j := 2) rfl
        have r3 := (HR9.out).cell (j := 3) rfl
        have r4 := (HR9.out).cell (j := 4) rfl
        have r5 := (HR9.out).cell (j := 5) rfl
        refine bodyPost_ret (by simp [results, Try.results72, go_sem, r0, r1, r2, r3, r4, r5]; try rfl) rfl ?_
        exact ⟨HM9.out, by rw [HA.out]; rfl⟩
      | false =>
        rw [hany] at HCT
        have HA := Lib.hid (show atF l k = joinF (((l.drop k).take m).filterMap id) by unfold atF; rw [HX.out]; simp only; rw [if_neg (by rw [← HMP.out, hany, ← HN.out]; intro h; rcases h with h | h; omega; cases h), ← HMP.out])
        have HLM := Lib.hid (show ((l.drop k).take m).length = m by rw [List.length_take, List.length_drop]; have := HN.out; omega)
        have HJ := Lib.hid (join_any (w := wz) (g := pg) (o := k * 6) (n := m) (cap := np - k) (list := ((l.drop k).take m).filterMap id) (by rw [somes_len hany, HLM.out]) hp1 (by omega) (by omega) (fun q hq => by
          obtain ⟨y, hy, e⟩ := List.mem_filterMap.1 hq
          cases y with
          | none => cases e
          | some y =>
            cases e
            obtain ⟨j, hj⟩ := List.getElem?_of_mem hy
            rw [List.getElem?_take] at hj
            split at hj
            · rw [List.getElem?_drop] at hj
              exact (HZ.out.page _ q hj).2.1
            · cases hj) (fun i q hq => by
          rw [somes_get hany, List.getElem?_take] at hq
          split at hq
          · rw [List.getElem?_drop] at hq
            have h9 := HZ.out.page (k + i) q (by
              cases hy : l[k + i]? with
              | none => rw [hy] at hq; cases hq
              | some y => rw [hy] at hq; rw [show y = some q from hq])
            rw [show k * 6 + i * 6 = (k + i) * 6 by omega]
            exact h9.1
          · cases hq))
        clear hany
        cases hres : joinF (((l.drop k).take m).filterMap id) with
        | none =>
          rw [hres] at HJ HA
          clear hres e0 e1 e2 e3 e4 e5 q0 q1 q2 q3 q4 q5
          go_enter Try.func72, Try.ntmps72
          go_upto_region 1 with fail
          rw [← hwz]
          clear hwz
          go_wp2_with (first
            | (go_at_call 95; refine HJ.out.mono ?_; rintro e w2 ⟨hx2, rfl⟩; have hz2 := HRZ.out.ext hx2; have e0 := hz2.cell (j := 0) rfl; have q0 := hz2.frozen (j := 0) (by simp); have e1 := hz2.cell (j := 1) rfl; have q1 := hz2.frozen (j := 1) (by simp); have e2 := hz2.cell (j := 2) rfl; have q2 := hz2.frozen (j := 2) (by simp); have e3 := hz2.cell (j := 3) rfl; have q3 := hz2.frozen (j := 3) (by simp); have e4 := hz2.cell (j := 4) rfl; have q4 := hz2.frozen (j := 4) (by simp); have e5 := hz2.cell (j := 5) rfl; have q5 := hz2.frozen (j := 5) (by simp))
            | (go_at_call 94; refine HCT.out.mono ?_; rintro e w1 ⟨rfl, rfl⟩))
          obtain ⟨hr8, hm8⟩ := row_set6 hz2 (.int .i64 0) (.int .i64 0) (.int .i64 0) (.int .i64 0) (.string ⟨#[]⟩) (.slice none 0 0)
          have HR8 := Lib.hid hr8
          have HM8 := Lib.hid hm8
          have HX8 := Lib.hid (Mod.ext (((Mod.of_ext (fun _ => False) (HXZ.out.trans hx2)).then hm8 (fun i hi => .inr (by omega)))) (fun _ h => h.elim))
          have r0 := (HR8.out).cell (j := 0) rfl
          have r1 := (HR8.out).cell (j := 1) rfl
          have r2 := (HR8.out).cell (j := 2) rfl
          have r3 := (HR8.out).cell (j := 3) rfl
          have r4 := (HR8.out).cell (j := 4) rfl
          have r5 := (HR8.out).cell (j := 5) rfl
          refine bodyPost_ret (by simp [results, Try.results72, go_sem, r0, r1, r2, r3, r4, r5]; try rfl) rfl ?_
          exact ⟨HX8.out, by rw [HA.out]; rfl⟩
        | some x =>
          rw [hres] at HJ HA
          clear hres e0 e1 e2 e3 e4 e5 q0 q1 q2 q3 q4 q5
          go_enter Try.func72, Try.ntmps72
          go_upto_region 1 with fail
          rw [← hwz]
          clear hwz
          go_wp2_with (first
            | (go_at_call 95; refine HJ.out.mono ?_; rintro e w2 ⟨hx2, v, rfl, hv2⟩; obtain ⟨A2, c2, rfl, -, -⟩ := hv2.slice; have hz2 := HRZ.out.ext hx2; have e0 := hz2.cell (j := 0) rfl; have q0 := hz2.frozen (j := 0) (by simp); have e1 := hz2.cell (j := 1) rfl; have q1 := hz2.frozen (j := 1) (by simp); have e2 := hz2.cell (j := 2) rfl; have q2 := hz2.frozen (j := 2) (by simp); have e3 := hz2.cell (j := 3) rfl; have q3 := hz2.frozen (j := 3) (by simp); have e4 := hz2.cell (j := 4) rfl; have q4 := hz2.frozen (j := 4) (by simp); have e5 := hz2.cell (j := 5) rfl; have q5 := hz2.frozen (j := 5) (by simp))
            | (go_at_call 94; refine HCT.out.mono ?_; rintro e w1 ⟨rfl, rfl⟩))
          obtain ⟨hr8, hm8⟩ := row_set6 hz2 (.int .i64 x.kind) (.int .i64 x.number) (.int .i64 x.segment) (.int .i64 x.pages) (.string (st x.key)) (.slice A2 x.value.length c2)
          have HR8 := Lib.hid hr8
          have HM8 := Lib.hid hm8
          have HX8 := Lib.hid (Mod.ext (((Mod.of_ext (fun _ => False) (HXZ.out.trans hx2)).then hm8 (fun i hi => .inr (by omega)))) (fun _ h => h.elim))
          have r0 := (HR8.out).cell (j := 0) rfl
          have r1 := (HR8.out).cell (j := 1) rfl
          have r2 := (HR8.out).cell (j := 2) rfl
          have r3 := (HR8.out).cell (j := 3) rfl
          have r4 := (HR8.out).cell (j := 4) rfl
          have r5 := (HR8.out).cell (j := 5) rfl
          refine bodyPost_ret (by simp [results, Try.results72, go_sem, r0, r1, r2, r3, r4, r5]; try rfl) rfl ?_
          refine ⟨HX8.out, ?_⟩
          rw [HA.out]
          exact ⟨_, rfl, hv2.mod HM8.out (no8_row hz2 (by decide))⟩
end Go.Proofs.Ytepigkjgjlibcaa
