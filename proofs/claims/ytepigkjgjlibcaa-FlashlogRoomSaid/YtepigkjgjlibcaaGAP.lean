/- Chapter 23, plain: what load reads is within the bounds. Chapter 23: package flashlog: Open. Chapter 23: package flashlog: Keys. Chapter 23: package flashlog: nil logs; Open of no device. -/
import Derived.Test.YtepigkjgjlibcaaGAO
import Derived.Test.YtepigkjgjlibcaaSh23
import Derived.Sort.OwnSorted
namespace Go.Proofs.Ytepigkjgjlibcaa
open Go.RowKit Go.Deep Go.Proofs.Ytepigkjgjlibcaa.FL
theorem readF_kind {l : Bs} {p : Pg} (h : readF l = some p) : p.kind = 1 ∨ p.kind = 2 := by
  unfold readF at h
  split at h
  · cases h
  · rename_i r _
    split at h
    · cases h
    · rename_i hc
      split at h
      · cases h
      · simp only at h
        split at h
        · cases h
        · split at h
          · cases h
          · cases h
            simp only
            by_cases h1 : r.kind = 1
            · exact .inl h1
            · by_cases h2 : r.kind = 2
              · exact .inr h2
              · exact absurd (.inr (.inr ⟨h1, h2⟩)) hc
theorem readPage_none : readPage none = none := by
  unfold readPage
  have : ∃ c, decF (filled []) = .inr c := ⟨12, by unfold filled; rfl⟩
  obtain ⟨c, hc⟩ := this
  simp only
  exact readF_inr hc
theorem textF_eq (b : Bs) : textF (some b) = (match (uintF (some b)).2 with
    | none => ([], none)
    | some b2 => if b2.length < (uintF (some b)).1 then ([], none) else (b2.take (uintF (some b)).1, some (b2.drop (uintF (some b)).1))) := by
  rcases hu : uintF (some b) with ⟨n, c2⟩
  unfold textF
  simp only
  rw [hu]
  cases c2 <;> rfl
theorem textF_le {b k v : Bs} (h : textF (some b) = (k, some v)) : v.length ≤ b.length := by
  rw [textF_eq] at h
  cases hu : (uintF (some b)).2 with
  | none => rw [hu] at h; cases h
  | some b' =>
    rw [hu] at h
    simp only at h
    obtain ⟨b2, e, h1⟩ := uintF_le hu
    cases e
    split at h
    · cases h
    · cases h
      rw [List.length_drop]
      omega
/-- what is known of a page that was read -/
structure PgOk (p : Pg) : Prop where
  kind : p.kind = 1 ∨ p.kind = 2
  num : p.number ≤ far
  seg : p.segment ≤ far
theorem sum_le {α : Type} {l : List α} {f : α → List UInt8} {n : Nat} (h : ∀ x ∈ l, (f x).length ≤ n) : (l.flatMap f).length ≤ n * l.length := by
  induction l with
  | nil => simp
  | cons x r ih =>
    have h1 := h x (List.mem_cons_self ..)
    have h2 := ih (fun y hy => h y (List.mem_cons_of_mem _ hy))
    rw [List.flatMap_cons, List.length_append, List.length_cons, Nat.mul_succ]
    omega
theorem joinF_ok {list : List Pg} {e : Ent} (h : joinF list = some e) (hp : ∀ p ∈ list, PgOk p) (hl : list.length ≤ 32) : EntOk e := by
  have hpg := joinF_pages h
  unfold joinF at h
  cases list with
  | nil => cases h
  | cons f r =>
    simp only at h
    split at h
    · rename_i hall
      split at h
      · cases h
      · rename_i k v ht
        split at h
        · cases h
        · rename_i hc
          have hf := hp f (List.mem_cons_self ..)
          have h1 := textF_le ht
          have h2 : ((f :: r).flatMap (·.data)).length ≤ 480 * (f :: r).length := sum_le (fun p hp => by
            obtain ⟨i, hi⟩ := List.getElem?_of_mem hp
            have h3 := List.all_eq_true.1 hall (p, i) (by
              rw [List.mem_iff_getElem?]
              exact ⟨i, by rw [List.getElem?_zipIdx, hi]; simp⟩)
            unfold fitsF at h3
            simp only [Bool.and_eq_true, decide_eq_true_eq] at h3
            exact h3.2.2)
          cases h
          have hk : ¬ (k.length < 1 ∨ 2048 < k.length) := fun h => hc (h.elim .inl (fun h => .inr (.inl h)))
          exact ⟨hf.kind, hf.num, hf.seg, by simp only at hpg ⊢; omega, by simp only; omega, by simp only; omega⟩
    · cases h
theorem atF_ok {l : List (Option Pg)} {k : Nat} {e : Ent} (h : atF l k = some e) (hp : ∀ p, some p ∈ l → PgOk p) (hl : l.length ≤ 32) : EntOk e ∧ ∀ j, k ≤ j → j < k + e.pages → ∃ p, l[j]? = some (some p) := by
  have hpg := atF_pages h
  unfold atF at h
  split at h
  · rename_i p hpk
    split at h
    · cases h
    · rename_i hc
      have hany : ((l.drop k).take p.parts).any (·.isNone) = false := by cases hb : ((l.drop k).take p.parts).any (·.isNone) with | true => exact absurd (.inr hb) hc | false => rfl
      have hle : ¬ l.length - k < p.parts := fun h => hc (.inl h)
      have hj := joinF_pages h
      rw [somes_len hany, List.length_take, List.length_drop] at hj
      refine ⟨joinF_ok h (fun q hq => ?_) ?_, fun j h1 h2 => ?_⟩
      · obtain ⟨y, hy, e1⟩ := List.mem_filterMap.1 hq
        cases y with
        | none => cases e1
        | some y => cases e1; exact hp _ (List.mem_of_mem_drop (List.mem_of_mem_take hy))
      · rw [somes_len hany, List.length_take, List.length_drop]
        omega
      · have hjl : j < l.length := by omega
        cases hx : l[j]? with
        | none => rw [List.getElem?_eq_getElem hjl] at hx; cases hx
        | some x =>
          cases x with
          | some q => exact ⟨q, rfl⟩
          | none =>
            have : (none : Option Pg) ∈ (l.drop k).take p.parts := by
              rw [List.mem_iff_getElem?]
              exact ⟨j - k, by rw [List.getElem?_take, if_pos (by omega), List.getElem?_drop, show k + (j - k) = j by omega, hx]⟩
            rw [List.any_eq_false] at hany
            exact absurd rfl (hany none this)
  · cases h
theorem entriesF_ok {l : List (Option Pg)} (hp : ∀ p, some p ∈ l → PgOk p) (hl : l.length ≤ 32) {nx : Nat} (hv : ∀ (j : Nat) (p : Pg), l[j]? = some (some p) → j < nx) : ∀ f k, (∀ e ∈ entriesF l f k, EntOk e) ∧ pagesOf (entriesF l f k) ≤ nx - k := by
  intro f
  induction f with
  | zero => intro k; unfold entriesF; exact ⟨fun e h => (by cases h), Nat.zero_le _⟩
  | succ f ih =>
    intro k
    unfold entriesF
    split
    · exact ⟨fun e h => (by cases h), Nat.zero_le _⟩
    · cases ha : atF l k with
      | none =>
        have := ih (k + 1)
        exact ⟨this.1, by have := this.2; simp only; omega⟩
      | some e =>
        have h1 := ih (k + e.pages)
        have h2 := atF_ok ha hp hl
        have h3 := atF_pages ha
        refine ⟨fun x hx => ?_, ?_⟩
        · rcases List.mem_cons.1 hx with h4 | h4
          · rw [h4]; exact h2.1
          · exact h1.1 x h4
        · obtain ⟨p, hpj⟩ := h2.2 (k + e.pages - 1) (by omega) (by omega)
          have h4 := hv _ p hpj
          have h5 := h1.2
          unfold pagesOf at h5 ⊢
          simp only [List.map_cons, List.sum_cons]
          omega
theorem readPage_ok {b : Blk} (h : BlkWf b) {x : Option Bs} (hx : x ∈ b.pages) {p : Pg} (hp : readPage x = some p) : PgOk p := by
  have h1 := readF_bounds (page_len (fun y hy => h y (hy ▸ hx))) hp
  exact ⟨readF_kind hp, h1.2.2.2.1, h1.2.2.1⟩
/-- what scan reads of a block without holes -/
theorem scan_ok {np : Nat} {b : Blk} (h : BlkOk np b) (hn : np ≤ 32) : (∀ e ∈ (scanF b).entries, EntOk e) ∧ pagesOf (scanF b).entries ≤ nextF b := by
  rw [scanF_eq]
  have := entriesF_ok (l := b.pages.map readPage) (nx := nextF b) (fun p hp => by
    obtain ⟨x, hx, e⟩ := List.mem_map.1 hp
    exact readPage_ok h.wf hx e) (by rw [List.length_map, h.len]; exact hn) (fun j p hj => by
    rw [List.getElem?_map, Option.map_eq_some_iff] at hj
    obtain ⟨x, hx, e⟩ := hj
    by_cases hjn : j < nextF b
    · exact hjn
    · have hjl := (List.getElem?_eq_some_iff.1 hx).1
      rw [h.rest j (by omega) (by rw [← h.len]; exact hjl)] at hx
      cases hx
      rw [readPage_none] at e
      cases e) b.pages.length 0
  exact ⟨this.1, by have := this.2; simpa using this⟩
theorem loadF_inv {L : Log} (h : DevOk L.d) (h3 : 3 ≤ L.d.now.length) : LogInv (loadF L) := by
  have hb := loadTo_bd (L := L) (fun b hb => (h.now b hb).wf) L.d.now.length
  rw [← loadF_eq] at hb
  have e : (loadF L).blocks = L.d.now.map scanF := rfl
  have ed : (loadF L).d = L.d := rfl
  have eo : (loadF L).open_ = -1 := rfl
  refine ⟨⟨by rw [e, ed, List.length_map], by rw [e, List.length_map]; exact ⟨h3, h.nb.2⟩, fun i b p hbi hp => ?_, h.np, fun b hb' => ?_, fun b hb' => ?_, fun b hb' => ?_, by rw [eo, e, List.length_map]; omega, hb.1, hb.2⟩, h⟩
  · rw [e, List.getElem?_map] at hbi
    rw [ed] at hp
    rw [hp] at hbi
    cases hbi
    rfl
  · rw [e] at hb'
    obtain ⟨p, hp, rfl⟩ := List.mem_map.1 hb'
    have := nextF_le p
    rw [(h.now p hp).len] at this
    exact this
  · rw [e] at hb'
    obtain ⟨p, hp, rfl⟩ := List.mem_map.1 hb'
    exact (scan_ok (h.now p hp) h.np.2).2
  · rw [e] at hb'
    obtain ⟨p, hp, rfl⟩ := List.mem_map.1 hb'
    have := scan_bd (h.now p hp).wf
    exact ⟨this.2, this.1, (scan_ok (h.now p hp) h.np.2).1⟩
end Go.Proofs.Ytepigkjgjlibcaa
namespace Go.Proofs.Ytepigkjgjlibcaa
open Go.RowKit Go.Deep Go.Proofs.Ytepigkjgjlibcaa.FL
set_option maxRecDepth 100000
def OpenPost (w w' : World) (S : Nat → Prop) (d : Nat) (e : Ending) : Nat × Option Log × Dev → Prop
  | (c, none, D') => e = .returned (.tuple #[.pointer none, codeV c]) ∧ DevStep w w' S d D'
  | (_, some L, _) => ∃ l S', e = .returned (.tuple #[.pointer (some ⟨l, 0, none⟩), .nilIface]) ∧ LogOn w' S' l d L ∧ Mod S w w' ∧ ∀ x, S' x → S x ∨ w.heap.size ≤ x
def log0 (D : Dev) : Log := ⟨D, [], 0, 0, 0, 0, false⟩
theorem openF_small {D : Dev} (h : D.now.length < 3) : openF D = (1, none, D) := by unfold openF; rw [if_pos h]
theorem openF_free {D : Dev} (h : ¬ D.now.length < 3) (hf : freeF (loadF (log0 D)) ≠ []) : openF D = (0, some (loadF (log0 D)), D) := by
  unfold openF
  rw [if_neg h]
  exact if_pos hf
theorem openF_erase {D : Dev} (h : ¬ D.now.length < 3) (hf : freeF (loadF (log0 D)) = []) : openF D = (match eraseD D (spareF (loadF (log0 D))) with
    | (0, d1) => match syncD d1 with
      | (0, d2) => (0, some (loadF { loadF (log0 D) with d := d2 }), d2)
      | (c, d2) => (c, none, d2)
    | (c, d1) => (c, none, d1)) := by
  unfold openF
  rw [if_neg h]
  exact if_neg (fun h9 => h9 hf)
theorem spare_lt {L : Log} (h : 0 < L.blocks.length) : spareF L < L.blocks.length := by
  rw [spareF_eq]
  have := spTo_lt L L.blocks.length
  rcases hs : spTo L L.blocks.length with ⟨o, last⟩
  rw [hs] at this
  cases o with
  | none =>
    have h2 : last = 0 ∨ last < L.blocks.length := this.2
    show last < _
    omega
  | some y => exact this.1 y rfl
set_option maxHeartbeats 16000000 in
theorem open_any {w : World} {S : Nat → Prop} {d : Nat} {G : DevF} {D : Dev} (h : DevAtF w S d G D) (hd : DevOk D) (hpl : D.pending.length ≤ 800000) :
    Calls Try.prog 10 #[.pointer (some ⟨d, 0, none⟩)] w fun e' w' => OpenPost w w' S d e' (openF D) := by
  have H := Lib.hid h
  have HD := Lib.hid hd
  have HPL := Lib.hid hpl
  have HBL := Lib.hid (blocks_any h)
  obtain ⟨n, hn⟩ : ∃ n, n = D.now.length := ⟨_, rfl⟩
  rw [← hn] at HBL
  have HN := Lib.hid hn
  clear h hd hpl
  by_cases h3 : n < 3
  · have h3i : (n : Int) < 3 := by omega
    have HF := Lib.hid (openF_small (D := D) (by rw [← hn]; exact h3))
    clear hn h3
    go_enter Try.func10, Try.ntmps10
    go_wp2_with (go_at_call 32; refine HBL.out.mono ?_; rintro e w1 ⟨rfl, rfl⟩)
    go_ret2
    rw [HF.out]
    exact ⟨rfl, S, G, H.out, Mod.refl _ _, fun _ h => .inl h⟩
  · have h3i : ¬ (n : Int) < 3 := by omega
    have HN3 := Lib.hid (show ¬ D.now.length < 3 by rw [← hn]; exact h3)
    obtain ⟨w1, hw1⟩ : ∃ z, z = w.alloc (.cells #[.pointer (some ⟨d, 0, none⟩), .slice none 0 0, .int .i64 0, .int .i64 0, .int .i64 0, .int .i64 0, .bool false] 78) := ⟨_, rfl⟩
    obtain ⟨l, hl⟩ : ∃ l, l = w.heap.size := ⟨_, rfl⟩
    have HX1 := Lib.hid (show Ext w w1 by rw [hw1]; exact (Ext.refl w).alloc _)
    have HR1 : Hid (RowB w1 l 78 [.pointer (some ⟨d, 0, none⟩), .slice none 0 0, .int .i64 0, .int .i64 0, .int .i64 0, .int .i64 0, .bool false]) := Lib.hid (by rw [hw1, hl]; exact row_laid w _ _)
    have HL1 : Hid (LogAtF w1 (fun x => S x ∨ x = l) l ⟨d, .slice none 0 0, []⟩ S G (log0 D)) := Lib.hid ⟨HR1.out, H.out.ext HX1.out, LBsAt.nil _, ⟨.inr rfl, fun x hx => (by cases hx), fun u hu => (by cases hu), fun x hx => .inl hx⟩, fun x hx => by
      rcases hx with hx | hx
      · obtain ⟨C, T, fr, h1, h2⟩ := (H.out.ext HX1.out).ty x hx
        exact ⟨C, T, fr, h1, List.mem_append_left _ h2⟩
      · subst hx; exact row_typed HR1.out (by decide)⟩
    have HINV := Lib.hid (loadF_inv (L := log0 D) HD.out (by show 3 ≤ D.now.length; have := HN3.out; omega))
    have HLD := Lib.hid (load_any HL1.out)
    have HS1 := Lib.hid (show ∀ x, (S x ∨ x = l) → S x ∨ w.heap.size ≤ x from fun x hx => hx.imp id (fun e => by rw [e, hl]; exact Nat.le_refl _))
    clear hn h3
    go_enter Try.func10, Try.ntmps10
    go_upto_region 6 with (go_at_call 32; refine HBL.out.mono ?_; rintro e w0 ⟨rfl, rfl⟩)
    rw [← hw1, ← hl]
    clear hw1 hl
    go_upto_region 7 with (go_at_call 33; refine HLD.out.mono ?_; rintro e w2 ⟨rfl, hl2⟩; have HL2 := Lib.hid hl2; clear hl2)
    obtain ⟨F2, S2, hF2, h2, hm2, hs2⟩ := HL2.out
    have H2 := Lib.hid h2
    have HM2 := Lib.hid (And.intro hF2 (And.intro hm2 hs2))
    obtain ⟨g2, c2, hv2⟩ := h2.v (by have := HINV.out.wf.nb.1; omega)
    have HV2 := Lib.hid hv2
    have HFR := Lib.hid (free_any hv2 HINV.out.wf.nb.2)
    obtain ⟨nf, hnf⟩ : ∃ z, z = (freeF (loadF (log0 D))).length := ⟨_, rfl⟩
    have HNF := Lib.hid hnf
    have HMW := Lib.hid (show Mod S w w2 from (Mod.of_ext S HX1.out).then hm2 HS1.out)
    have HS2 := Lib.hid (show ∀ x, S2 x → S x ∨ w.heap.size ≤ x from fun x hx => (hs2 x hx).elim (HS1.out x) (fun h9 => .inr (Nat.le_trans HX1.out.size h9)))
    clear hF2 h2 hm2 hs2 hv2 hnf
    by_cases hf0 : nf = 0
    · have HFE := Lib.hid (openF_erase HN3.out (List.eq_nil_of_length_eq_zero (by rw [← HNF.out]; exact hf0)))
      have hfi : ¬ (0 : Int) < (nf : Int) := by omega
      clear hf0
      go_upto_region 9 with (go_at_call 34; refine HFR.out.mono ?_; rintro e w3 ⟨v3, rfl, hx3, hn3⟩; obtain ⟨A3, c3, rfl⟩ := hn3.slice; rw [← HNF.out]; have HX3 := Lib.hid hx3; clear hx3 hn3)
      have HSP := Lib.hid (spare_any (HV2.out.ext HX3.out) HINV.out.wf.nb.2 (by have := HINV.out.wf.nb.1; omega) (wf_ok HINV.out.wf))
      have hsl := spare_lt (L := loadF (log0 D)) (by have := HINV.out.wf.nb.1; omega)
      obtain ⟨sp, hsp⟩ : ∃ z, z = spareF (loadF (log0 D)) := ⟨_, rfl⟩
      rw [← hsp] at HSP HFE hsl
      have hlb : (loadF (log0 D)).blocks.length = D.now.length := by show (D.now.map scanF).length = _; rw [List.length_map]
      obtain ⟨pk, hpk⟩ : ∃ pk, D.now[sp]? = some pk := ⟨_, List.getElem?_eq_getElem (by omega)⟩
      rcases her : eraseD D sp with ⟨c4, d4⟩
      have hec := erase_cases HD.out hpk her
      have HER := Lib.hid (fun W (hX : Ext w2 W) => show Calls Try.prog 35 #[.pointer (some ⟨d, 0, none⟩), .int .i64 sp] W (fun e w' => e = .returned (codeV c4) ∧ DevStep W w' S d d4) from by
        have h9 := deverase_any (H2.out.ext hX).dev (i := sp) hpk (by show D.pending.length ≤ _; have := HPL.out; omega)
        rw [HM2.out.1, show (loadF (log0 D)).d = D from rfl, her] at h9
        exact h9)
      have hfe := HFE.out
      rw [her] at hfe
      have HEC := Lib.hid hec
      clear hsl hsp hpk her HFE hec hlb
      cases c4 with
      | succ c4 =>
        simp only at hfe
        have HFE := Lib.hid hfe
        obtain ⟨cn, hcn⟩ : ∃ z : Int, z = ((c4 + 1 : Nat) : Int) := ⟨_, rfl⟩
        have HEV := Lib.hid (show codeV (c4 + 1) = errV cn by rw [codeV_pos (Nat.succ_ne_zero c4), hcn])
        simp only [HEV.out] at HER
        clear hcn hfe
        go_wp2_with (first
          | (go_at_call 35; refine (HER.out _ HX4.out).mono ?_; rintro e w5 ⟨rfl, hd5⟩; have HD5 := Lib.hid hd5; clear hd5)
          | (go_at_call 36; refine HSP.out.mono ?_; rintro e w4 ⟨rfl, hx4⟩; have HX4 := Lib.hid (HX3.out.trans hx4); clear hx4))
        go_ret2
        rw [HFE.out]
        refine ⟨by rw [HEV.out]; rfl, ?_⟩
        obtain ⟨S5, G5, g1, g2, g3⟩ := HD5.out
        exact ⟨S5, G5, g1, (HMW.out.ext' HX4.out).then g2 (fun x hx => .inl hx), fun x hx => (g3 x hx).imp id (fun h9 => Nat.le_trans HMW.out.size (Nat.le_trans HX4.out.size h9))⟩
      | zero =>
        simp only at hfe
        have HFE := Lib.hid hfe
        clear hfe
        go_upto_region 12 with (first
          | (go_at_call 35; refine (HER.out _ HX4.out).mono ?_; rintro e w5 ⟨rfl, hd5⟩; rw [codeV_zero]; have HD5 := Lib.hid hd5; clear hd5)
          | (go_at_call 36; refine HSP.out.mono ?_; rintro e w4 ⟨rfl, hx4⟩; have HX4 := Lib.hid (HX3.out.trans hx4); clear hx4))
        obtain ⟨S6, SD6, G6, h6, hm6, hs6⟩ := (H2.out.ext HX4.out).devstep (D := d4) (by rw [HM2.out.1]; exact HD5.out)
        have H6 := Lib.hid h6
        have HM6 := Lib.hid (show Mod S w w5 from (HMW.out.ext' HX4.out).then hm6 HS2.out)
        have HS6 := Lib.hid (show ∀ x, S6 x → S x ∨ w.heap.size ≤ x from fun x hx => (hs6 x hx).elim (HS2.out x) (fun h9 => .inr (Nat.le_trans HMW.out.size (Nat.le_trans HX4.out.size h9))))
        have HSY := Lib.hid (devsync_any h6.dev)
        rcases hsy : syncD d4 with ⟨c5, d5⟩
        have hfe := HFE.out
        rw [hsy] at HSY hfe
        rw [HM2.out.1] at HSY
        simp only at HSY
        clear h6 hm6 hs6 hsy
        cases c5 with
        | succ c5 =>
          simp only at hfe
          have HFE := Lib.hid hfe
          obtain ⟨cn, hcn⟩ : ∃ z : Int, z = ((c5 + 1 : Nat) : Int) := ⟨_, rfl⟩
          have HEV := Lib.hid (show codeV (c5 + 1) = errV cn by rw [codeV_pos (Nat.succ_ne_zero c5), hcn])
          rw [HEV.out] at HSY
          clear hcn hfe
          go_wp2_with (go_at_call 37; refine HSY.out.mono ?_; rintro e w6 ⟨rfl, hd6⟩; have HD6 := Lib.hid hd6; clear hd6)
          go_ret2
          rw [HFE.out]
          refine ⟨by rw [HEV.out]; rfl, ?_⟩
          obtain ⟨S7, G7, g1, g2, g3⟩ := HD6.out
          have hsd : ∀ x, SD6 x → S x ∨ w.heap.size ≤ x := fun x hx => HS6.out x (H6.out.inS.2.2.2 x hx)
          exact ⟨S7, G7, g1, HM6.out.then g2 hsd, fun x hx => (g3 x hx).elim (hsd x) (fun h9 => .inr (Nat.le_trans HM6.out.size h9))⟩
        | zero =>
          simp only at hfe
          have HFE := Lib.hid hfe
          clear hfe
          go_upto_region 15 with (go_at_call 37; refine HSY.out.mono ?_; rintro e w6 ⟨rfl, hd6⟩; rw [codeV_zero]; have HD6 := Lib.hid hd6; clear hd6)
          obtain ⟨S7, SD7, G7, h7, hm7, hs7⟩ := H6.out.devstep (D := d5) (by rw [HM2.out.1]; exact HD6.out)
          have H7 := Lib.hid h7
          have HM7 := Lib.hid (show Mod S w w6 from HM6.out.then hm7 HS6.out)
          have HS7 := Lib.hid (show ∀ x, S7 x → S x ∨ w.heap.size ≤ x from fun x hx => (hs7 x hx).elim (HS6.out x) (fun h9 => .inr (Nat.le_trans HM6.out.size h9)))
          have HLD2 := Lib.hid (load_any h7)
          clear h7 hm7 hs7
          go_wp2_with (go_at_call 33; refine HLD2.out.mono ?_; rintro e w7 ⟨rfl, hl7⟩; have HL7 := Lib.hid hl7; clear hl7)
          go_ret2
          rw [HFE.out]
          obtain ⟨F8, S8, g1, g2, g3, g4⟩ := HL7.out
          exact ⟨l, S8, rfl, ⟨_, _, _, by rw [g1, HM2.out.1], g2⟩, HM7.out.then g3 HS7.out, fun x hx => (g4 x hx).elim (HS7.out x) (fun h9 => .inr (Nat.le_trans HM7.out.size h9))⟩
    · have HFE := Lib.hid (openF_free HN3.out (by intro h9; have := HNF.out; rw [h9] at this; exact hf0 this))
      have hfi : (0 : Int) < (nf : Int) := by omega
      clear hf0
      go_wp2_with (go_at_call 34; refine HFR.out.mono ?_; rintro e w3 ⟨v3, rfl, hx3, hn3⟩; obtain ⟨A3, c3, rfl⟩ := hn3.slice; rw [← HNF.out]; have HX3 := Lib.hid hx3; clear hx3 hn3)
      go_ret2
      rw [HFE.out]
      exact ⟨l, S2, rfl, ⟨_, _, _, HM2.out.1, H2.out.ext HX3.out⟩, HMW.out.ext' HX3.out, HS2.out⟩
end Go.Proofs.Ytepigkjgjlibcaa
namespace Go.Proofs.Ytepigkjgjlibcaa
open Go.RowKit Go.Deep Go.Proofs.Ytepigkjgjlibcaa.FL
set_option maxRecDepth 100000
/-- a slice of strings that a call has made -/
def KsAt (w : World) (B : Nat) (v : Value) (ks : List Bs) : Prop := w.ownsRow B 9 1 v ks.length (ks.map encStr)
theorem KsAt.nil (w : World) (B : Nat) : KsAt w B (.slice none 0 0) [] := World.ownsRow_nil _ _ _ _
theorem KsAt.ext {w w' : World} {B : Nat} {v : Value} {ks : List Bs} (h : KsAt w B v ks) (hx : Ext w w') : KsAt w' B v ks := own_mod h (Mod.of_ext (fun _ => False) hx) (fun _ _ h => h)
theorem KsAt.slice {w : World} {B : Nat} {v : Value} {ks : List Bs} (h : KsAt w B v ks) : ∃ A c, v = .slice A ks.length c := own_slice h
theorem str_info23 : (Try.prog.info? 9).map (fun i => (i.zero, i.size, i.bytes)) = some (some (.string ⟨#[]⟩), 1, 16) := by kernel_rfl
theorem wpList_append_key (w : World) {ops : Array Oper} {rest : List Oper} {o : Oper} {a : Act} {Q : Exit → Act → World → Prop} (hg : o.guard = none) (s x : Operand)
    (ho : o.op = .call { callee := .builtin .append, args := #[s, x], argTypes := #[46, 46] }) (B : Nat) {v : Value} {ks : List Bs} (k : Bs) (hown : KsAt w B v ks) (hs : a.eval s = v)
    (hx : a.eval x = .slice (some ⟨w.heap.size, 0, none⟩) 1 1) (hlen : ks.length ≤ 1000000) (hB : B ≤ w.heap.size)
    (h : ∀ v' w', KsAt w' B v' (ks ++ [k]) → Below B w w' → wpList Try.prog ops Q rest (a.put o.dst v') w') : wpList Try.prog ops Q (o :: rest) a (w.alloc (.cells #[.string (st k)] 9)) := by
  obtain ⟨i0, hi0, hz0, hz1, hz2⟩ := info_parts str_info23
  refine wpList_append_own _ hg s x 46 ho B 9 i0 (.string ⟨#[]⟩) 1 16 Try.underlying46 hi0 hz0 hz1 hz2 rfl (by decide) v ks.length _ hs (hown.alloc _) ⟨w.heap.size, 0, none⟩ 1 1 [.string (st k)] hx rfl ?_ ?_ ?_ ?_ ?_ ?_
  · intro j y hj
    match j, hj with
    | 0, hj => simp at hj; subst hj; simp [Addr.add]
  · intro y hy; simp at hy; subst hy; rfl
  · simp only [maxLen]; omega
  · omega
  · simp; omega
  · intro v' w1 hown' hgrow _
    refine h v' w1 ?_ ?_
    · unfold KsAt
      rw [List.length_append, List.map_append]
      exact hown'
    · exact Below.grown (Below.alloc (Below.refl _ _) hB _) hgrow (by simp; omega) (nums_base hown)
def keyOf (L : Log) (x : Nat × Nat × Ent) : Option Bs := match getF L x.2.2.key with
  | .inl _ => some x.2.2.key
  | .inr _ => none
def rawKeys (L : Log) : List Bs := (allEnts L).filterMap (keyOf L)
def keysF (L : Log) : List Bs := if L.broken then [] else Lib.compact ((rawKeys L).mergeSort fun x y => decide (x ≤ y))
/-- sorted and compacted -/
theorem sortk_any {w : World} {B g c : Nat} {ks : List Bs} (h : KsAt w B (.slice (some ⟨g, 0, none⟩) ks.length c) ks) (hl : ks.length ≤ 1000000) :
    Calls Try.prog 44 #[.slice (some ⟨g, 0, none⟩) ks.length c] w fun e w' => e = .returned (.tuple #[]) ∧ KsAt w' B (.slice (some ⟨g, 0, none⟩) ks.length c) (ks.mergeSort fun x y => decide (x ≤ y)) ∧ Mod (fun x => x = g) w w' := by
  rcases h.2 with ⟨e, -⟩ | ⟨g', cap, cur, e2, hb, hg, hn, hm, hz, ht⟩
  · cases e
  · cases e2
    rw [Nat.mul_one] at ht
    refine (Try.slices_Sort_string g 0 c ks w (holds_of_block hg ht) (Array.getElem?_eq_some_iff.1 hg).1 (by omega)).mono ?_
    rintro e w' ⟨rfl, n, os, rfl⟩
    refine ⟨rfl, ?_, (grown_mod (grownBy_sorted _)).mono (fun x _ hx => by cases hx; rfl)⟩
    have := ownsRow_sorted (n := n) (os := os) (ts := ks.mergeSort fun x y => decide (x ≤ y)) (by simp) hb hg hn hm hz
    unfold KsAt
    rw [show (ks.mergeSort fun x y => decide (x ≤ y)).length = ks.length by simp]
    exact this
theorem compactk_any {w : World} {B g c : Nat} {ks : List Bs} (h : KsAt w B (.slice (some ⟨g, 0, none⟩) ks.length c) ks) (hl : ks.length ≤ 1000000) :
    Calls Try.prog 45 #[.slice (some ⟨g, 0, none⟩) ks.length c] w fun e w' => e = .returned (.slice (some ⟨g, 0, none⟩) (Lib.compact ks).length c) ∧ KsAt w' B (.slice (some ⟨g, 0, none⟩) (Lib.compact ks).length c) (Lib.compact ks) ∧ Mod (fun x => x = g) w w' := by
  rcases h.2 with ⟨e, -⟩ | ⟨g', cap, cur, e2, hb, hg, hn, hm, hz, ht⟩
  · cases e
  · cases e2
    rw [Nat.mul_one] at ht
    refine (Try.slices_Compact_string g 0 c ks w (holds_of_block hg ht) (by omega) hn).mono ?_
    rintro e w' ⟨rfl, q, rfl⟩
    have hcl : (Lib.compact ks).length ≤ ks.length := by unfold Lib.compact Lib.compactUpTo; rw [List.length_map]; exact Nat.le_trans (List.length_filter_le _ _) (by rw [List.length_range]; exact Nat.le_refl _)
    have hgb := grownBy_sorted (w := w) (g := g) (n := q) (os := #[]) (Lib.compact ks ++ List.replicate (ks.length - (Lib.compact ks).length) []).toArray
    rw [Go.Sort.grow_empty] at hgb
    refine ⟨rfl, ?_, (grown_mod hgb).mono (fun x _ hx => by cases hx; rfl)⟩
    have h9 := ownsRow_sorted (n := q) (os := #[]) (ts := Lib.compact ks ++ List.replicate (ks.length - (Lib.compact ks).length) []) (by rw [List.length_append, List.length_replicate]; omega) hb hg hn hm hz
    rw [Go.Sort.grow_empty] at h9
    rcases h9.2 with ⟨e, -⟩ | ⟨g', cap, cur2, e2, hb2, hg2, hn2, hm2, hz2, ht2⟩
    · cases e
    · cases e2
      refine ⟨by simp, .inr ⟨g, c, cur2, rfl, hb2, hg2, by omega, hm2, hz2, ?_⟩⟩
      rw [Nat.mul_one] at ht2 ⊢
      have h8 : (cur2.toList.take ks.length).take (Lib.compact ks).length = cur2.toList.take (Lib.compact ks).length := by rw [List.take_take, Nat.min_eq_left hcl]
      rw [← h8, ht2, List.map_append, List.take_left' (by simp)]
theorem sortk_end {w : World} {B g c : Nat} {ks : List Bs} (h : KsAt w B (.slice (some ⟨g, 0, none⟩) ks.length c) ks) (hl : ks.length ≤ 1000000) : B ≤ g ∧
    Calls Try.prog 44 #[.slice (some ⟨g, 0, none⟩) ks.length c] w fun e w' => e = .returned (.tuple #[]) ∧ (Calls Try.prog 45 #[.slice (some ⟨g, 0, none⟩) ks.length c] w' fun e w2 => e = .returned (.slice (some ⟨g, 0, none⟩) (Lib.compact (ks.mergeSort fun x y => decide (x ≤ y))).length c) ∧ KsAt w2 B (.slice (some ⟨g, 0, none⟩) (Lib.compact (ks.mergeSort fun x y => decide (x ≤ y))).length c) (Lib.compact (ks.mergeSort fun x y => decide (x ≤ y))) ∧ Mod (fun x => x = g) w' w2) ∧ Mod (fun x => x = g) w w' := by
  refine ⟨?_, (sortk_any h hl).mono ?_⟩
  · rcases h.2 with ⟨e, -⟩ | ⟨g', cap, cur, e2, hb, -⟩
    · cases e
    · cases e2; exact hb
  · rintro e w' ⟨rfl, hk, hm⟩
    refine ⟨rfl, ?_, hm⟩
    have hlen : (ks.mergeSort fun x y => decide (x ≤ y)).length = ks.length := by simp
    have := compactk_any (c := c) (g := g) (B := B) (w := w') (ks := ks.mergeSort fun x y => decide (x ≤ y)) (by rw [hlen]; exact hk) (by rw [hlen]; exact hl)
    rw [hlen] at this
    exact this
theorem entsFrom_len (i k : Nat) (l : List Ent) : (entsFrom i k l).length = l.length := by
  induction l generalizing k with
  | nil => rfl
  | cons x r ih => unfold entsFrom; rw [List.length_cons, ih, List.length_cons]
theorem getF_cod {L : Log} {key : Bs} {c : Nat} (h : getF L key = .inr c) : c ≠ 0 := by
  unfold getF at h
  split at h
  · cases h; decide
  · split at h
    · cases h; decide
    · split at h
      · cases h
      · cases h; decide
set_option maxHeartbeats 16000000 in
theorem keys_any {w : World} {S SD : Nat → Prop} {l : Nat} {F : LogF} {G : DevF} {L : Log} (h : LogAtF w S l F SD G L) (hi : LogInv L) :
    Calls Try.prog 17 #[.pointer (some ⟨l, 0, none⟩)] w fun e' w' => ∃ v, e' = .returned v ∧ Ext w w' ∧ KsAt w' w.heap.size v (keysF L) := by
  have c6 := h.row.cell (j := 6) rfl
  have H := Lib.hid h
  cases hbr : L.broken with
  | true =>
    have HF := Lib.hid (show keysF L = [] by unfold keysF; rw [hbr]; rfl)
    rw [hbr] at c6
    clear h hbr hi
    go_enter Try.func17, Try.ntmps17
    go_wp2_with fail
    go_ret
    rw [HF.out]
    exact ⟨_, rfl, Ext.refl _, KsAt.nil _ _⟩
  | false =>
    have HF := Lib.hid (show keysF L = Lib.compact ((rawKeys L).mergeSort fun x y => decide (x ≤ y)) by unfold keysF; rw [hbr]; rfl)
    rw [hbr] at c6
    have hb0 : 0 < L.blocks.length := by have := hi.wf.nb.1; omega
    obtain ⟨g, c, hv⟩ := h.v hb0
    obtain ⟨n, hn⟩ : ∃ n, n = L.blocks.length := ⟨_, rfl⟩
    have HN := Lib.hid hn
    have HV := Lib.hid hv
    have HI := Lib.hid hi
    have hn64 : n ≤ 64 := by rw [hn]; exact hi.wf.nb.2
    have hok := wf_ok hi.wf
    have HEL := Lib.hid (fun (b : LB) (hb : b ∈ L.blocks) => (hok b hb).1)
    have HG := Lib.hid (fun W (hX : Ext w W) key => get_any (h.ext hX) hi.wf.nb.2 hb0 hok key)
    have c1 := hv.c1
    rw [← hn] at c1
    clear h hbr hi hb0 hv hn hok
    go_enter Try.func17, Try.ntmps17
    go_upto_region 4 with fail
    go_wp2_with fail
    go_loopw [3, 23] (fun v3 i' wr => ∃ (k : Nat) (ks : List Bs), i' = .int .i64 k ∧ k ≤ n ∧ Hid (Ext w wr) ∧ Hid (KsAt wr w.heap.size v3 ks) ∧ Hid (rawKeys L = ks ++ (blksFrom k (L.blocks.drop k)).filterMap (keyOf L)) ∧ Hid (ks.length ≤ 32 * k)) (fun _ i' _ => n - (intOf i').toNat)
    case atStart => exact ⟨0, [], rfl, by omega, Lib.hid (Ext.refl _), Lib.hid (KsAt.nil _ _), Lib.hid (by unfold rawKeys; rw [allEnts_eq]; rfl), Lib.hid (Nat.le_refl _)⟩
    case round =>
      obtain ⟨k, ks, rfl, hk, hX, hK, hE, hL⟩ := hrel
      clear c1 c6
      obtain ⟨A3, c3, rfl⟩ := hK.out.slice
      by_cases hkn : k < n
      · have hki : (k : Int) < (n : Int) := by omega
        obtain ⟨b, hb⟩ : ∃ b, L.blocks[k]? = some b := ⟨_, List.getElem?_eq_getElem (by rw [← HN.out]; exact hkn)⟩
        obtain ⟨A, ca, he0, b0, b1, b2, b3⟩ := HV.out.blk k b hb
        replace b0 := hX.out.cell b0
        replace b1 := hX.out.cell b1
        replace b2 := hX.out.cell b2
        replace b3 := hX.out.cell b3
        have HEN := Lib.hid he0
        have HB := Lib.hid hb
        obtain ⟨m, hm⟩ : ∃ m, m = b.entries.length := ⟨_, rfl⟩
        have hm32 : m ≤ 32 := by rw [hm]; exact HEL.out b (List.mem_of_getElem? hb)
        rw [← hm] at b3 HEN
        have HM := Lib.hid hm
        clear he0 hb hm
        generalize wr = wo at *
        go_upto_region 8 with fail
        obtain ⟨w2, hw2⟩ : ∃ z, z = wo.alloc (.cells #[.int .i64 b.next, .int .i64 b.segment, .int .i64 b.number, .slice A m ca] 85) := ⟨_, rfl⟩
        have HX2 := Lib.hid (show Ext wo w2 by rw [hw2]; exact (Ext.refl wo).alloc _)
        rw [← hw2]
        clear hw2 b0 b1 b2 b3
        have HE0 := Lib.hid (show rawKeys L = ks ++ (entsFrom k 0 (b.entries.drop 0)).filterMap (keyOf L) ++ (blksFrom (k + 1) (L.blocks.drop (k + 1))).filterMap (keyOf L) by
          rw [hE.out, blks_step HB.out, List.filterMap_append, List.drop_zero, List.append_assoc])
        go_loopw [3, 30] (fun v3 j wr => ∃ (q : Nat) (ks' : List Bs), j = .int .i64 q ∧ q ≤ m ∧ Hid (Ext w wr) ∧ Hid (KsAt wr w.heap.size v3 ks') ∧ Hid (rawKeys L = ks' ++ (entsFrom k q (b.entries.drop q)).filterMap (keyOf L) ++ (blksFrom (k + 1) (L.blocks.drop (k + 1))).filterMap (keyOf L)) ∧ Hid (ks'.length ≤ 32 * k + q)) (fun _ j _ => m - (intOf j).toNat)
        case atStart => exact ⟨0, ks, rfl, by omega, Lib.hid (hX.out.trans HX2.out), Lib.hid (hK.out.ext HX2.out), HE0, Lib.hid (by have := hL.out; omega)⟩
        case round =>
          clear HE0
          obtain ⟨q, kt, rfl, hq, hX3, hK3, hE3, hL3⟩ := hrel
          obtain ⟨A5, c5, rfl⟩ := hK3.out.slice
          by_cases hqm : q < m
          · have hqi : (q : Int) < (m : Int) := by omega
            obtain ⟨x, hx⟩ : ∃ x, b.entries[q]? = some x := ⟨_, List.getElem?_eq_getElem (by rw [← HM.out]; exact hqm)⟩
            have HQ := Lib.hid hx
            obtain ⟨ge, ce, hee⟩ := HEN.out.addr (by intro h9; have := HM.out; rw [h9] at this; simp at this; omega)
            rw [← HM.out] at hee
            cases hee
            obtain ⟨Ax, cx, -, x0, x1, x2, x3, x4, x5⟩ := (HEN.out.ext hX3.out).at_ hx
            clear hx
            go_upto_region 10 with fail
            obtain ⟨w3, hw3⟩ : ∃ z, z = wr.alloc (.cells #[.int .i64 x.kind, .int .i64 x.number, .int .i64 x.segment, .int .i64 x.pages, .string (st x.key), .slice Ax x.value.length cx] 90) := ⟨_, rfl⟩
            have HX3 := Lib.hid (show Ext wr w3 by rw [hw3]; exact (Ext.refl wr).alloc _)
            have HR3 : Hid (RowB w3 wr.heap.size 90 [.int .i64 x.kind, .int .i64 x.number, .int .i64 x.segment, .int .i64 x.pages, .string (st x.key), .slice Ax x.value.length cx]) := Lib.hid (by rw [hw3]; exact row_laid wr _ _)
            rw [← hw3]
            clear hw3 x0 x1 x2 x3 x4 x5
            have HXW := Lib.hid (hX3.out.trans HX3.out)
            have HS := Lib.hid (show rawKeys L = kt ++ ((keyOf L (k, q, x)).toList ++ (entsFrom k (q + 1) (b.entries.drop (q + 1))).filterMap (keyOf L)) ++ (blksFrom (k + 1) (L.blocks.drop (k + 1))).filterMap (keyOf L) by
              rw [hE3.out, ents_step HQ.out, List.filterMap_cons]
              cases keyOf L (k, q, x) <;> rfl)
            have HG1 := Lib.hid (HG.out w3 HXW.out x.key)
            have x4 := HR3.out.cell (j := 4) rfl
            cases hg : getF L x.key with
            | inr cd =>
              have hcd := getF_cod hg
              rw [hg] at HG1
              have HP := Lib.hid (show keyOf L (k, q, x) = none by unfold keyOf; simp only; rw [hg])
              have HG2 := Lib.hid (show Calls Try.prog 38 #[.pointer (some ⟨l, 0, none⟩), .string (st x.key)] w3 (fun e w' => e = .returned (.tuple #[.slice none 0 0, errV cd]) ∧ Ext w3 w') from HG1.out.mono (fun _ _ h => ⟨h.2, h.1⟩))
              clear hg HG1 hcd
              go_wp2_with (go_at_call 38; refine HG2.out.mono ?_; rintro e w4 ⟨rfl, hx4⟩; have HX4 := Lib.hid hx4; clear hx4)
              exact ⟨⟨q + 1, kt, by go_num, by omega, Lib.hid (hX3.out.trans (HX3.out.trans HX4.out)), Lib.hid (hK3.out.ext (HX3.out.trans HX4.out)), Lib.hid (by rw [HS.out, HP.out]; rfl), Lib.hid (by have := hL3.out; omega)⟩, by simp [intOf]; omega⟩
            | inl v =>
              rw [hg] at HG1
              have HP := Lib.hid (show keyOf L (k, q, x) = some x.key by unfold keyOf; simp only; rw [hg])
              have HG2 := Lib.hid (show Calls Try.prog 38 #[.pointer (some ⟨l, 0, none⟩), .string (st x.key)] w3 (fun e w' => ∃ u, e = .returned (.tuple #[u, .nilIface]) ∧ Ext w3 w') from HG1.out.mono (fun _ _ ⟨h1, u, h2, h3⟩ => ⟨u, h2, h1⟩))
              clear hg HG1
              have HKL := Lib.hid (show kt.length ≤ 1000000 by have := hL3.out; omega)
              go_wp2_with (first
                | (at_builtin; refine wpList_append_key w4 rfl _ _ rfl w.heap.size x.key HK4.out rfl rfl HKL.out HSZ.out ?_; intro v6 w6 hn6 hx6; obtain ⟨A6, c6', rfl⟩ := hn6.slice; have HN6 := Lib.hid hn6; have HX6 := Lib.hid hx6; clear hn6 hx6)
                | (go_at_call 38; refine HG2.out.mono ?_; rintro e w4 ⟨u4, rfl, hx4⟩; have HX4 := Lib.hid hx4; have HK4 := Lib.hid (hK3.out.ext (HX3.out.trans hx4)); have HSZ := Lib.hid (show w.heap.size ≤ w4.heap.size from (HXW.out.trans hx4).size); have x4' := (HR3.out.ext hx4).cell (j := 4) rfl; clear hx4))
              have hxx : Ext w w6 := Below.trans (HXW.out.trans HX4.out) HX6.out
              have hk9 : KsAt w6 w.heap.size (.slice A6 (kt.length + 1) c6') (kt ++ [x.key]) := by have := HN6.out; rwa [List.length_append, List.length_singleton] at this
              refine ⟨⟨q + 1, kt ++ [x.key], by go_num, by omega, Lib.hid hxx, Lib.hid hk9, Lib.hid (by rw [HS.out, HP.out]; simp [List.append_assoc]), Lib.hid (by have := hL3.out; rw [List.length_append, List.length_singleton]; omega)⟩, by simp [intOf]; omega⟩
          · have hqi : (m : Int) ≤ (q : Int) := by omega
            obtain rfl : m = q := by omega
            go_wp2_with fail
            exact ⟨⟨k + 1, kt, by go_num, by omega, hX3, hK3, Lib.hid (by rw [hE3.out, drop_end (by rw [← HM.out]; exact Nat.le_refl _)]; simp [entsFrom]), Lib.hid (by have := hL3.out; omega)⟩, by simp [intOf]; omega⟩
      · have hki : (n : Int) ≤ (k : Int) := by omega
        obtain rfl : n = k := by omega
        have ksb := Lib.hid (show ks.length ≤ 32 * 64 by have := hL.out; omega)
        have HRK := Lib.hid (show rawKeys L = ks by rw [hE.out, drop_end (by rw [← HN.out]; exact Nat.le_refl _)]; simp [blksFrom])
        clear hE hL
        cases ks with
        | nil =>
          have HE9 := Lib.hid (show keysF L = [] by rw [HF.out, HRK.out, List.mergeSort_nil]; rfl)
          have HS := Lib.hid (Try.slices_Sort_string_none A3 c3 wr)
          have HC := Lib.hid (Try.slices_Compact_string_empty A3 c3 wr)
          go_wp2_with (first
            | (go_at_call 44; refine HS.out.mono ?_; rintro e w5 ⟨rfl, rfl⟩)
            | (go_at_call 45; refine HC.out.mono ?_; rintro e w6 ⟨rfl, rfl⟩))
          go_ret
          rw [HE9.out]
          exact ⟨_, rfl, hX.out, hK.out⟩
        | cons k0 kr =>
          have HKL := Lib.hid (show (k0 :: kr).length ≤ 1000000 by have := ksb.out; omega)
          obtain ⟨ks, hks⟩ : ∃ ks, ks = k0 :: kr := ⟨_, rfl⟩
          obtain ⟨g9, c9, he9⟩ := own_addr hK.out (by rw [List.length_cons]; omega)
          cases he9
          have hp : 0 < ks.length := by rw [hks, List.length_cons]; omega
          rw [← hks] at hK HRK HKL
          rw [← hks]
          clear hks
          obtain ⟨hge, hSE⟩ := sortk_end hK.out HKL.out
          have HSE := Lib.hid hSE
          have HXX := Lib.hid (fun W (h : Mod (fun x => x = g9) wr W) => (Mod.then (Mod.of_ext (fun _ => False) hX.out) h (fun i hi => .inr (by omega))).ext (fun _ h => h.elim))
          clear hSE hge
          have HE9 := Lib.hid (show keysF L = Lib.compact (ks.mergeSort fun x y => decide (x ≤ y)) by rw [HF.out, HRK.out])
          go_wp2_with (first
            | (go_at_call 44; refine HSE.out.mono ?_; rintro e w5 ⟨rfl, hc5, hm5⟩; have HC := Lib.hid hc5; have HM5 := Lib.hid hm5; clear hc5 hm5)
            | (go_at_call 45; refine HC.out.mono ?_; rintro e w6 ⟨rfl, hk6, hm6⟩; have HK6 := Lib.hid hk6; have HM6 := Lib.hid hm6; clear hk6 hm6))
          go_ret
          refine ⟨_, rfl, HXX.out _ (HM5.out.trans HM6.out), ?_⟩
          rw [HE9.out]
          exact HK6.out
end Go.Proofs.Ytepigkjgjlibcaa
namespace Go.Proofs.Ytepigkjgjlibcaa
open Go.RowKit Go.Deep Go.Proofs.Ytepigkjgjlibcaa.FL
set_option maxRecDepth 100000
theorem put_nil (k v : Value) (w : World) : Calls Try.prog 16 #[.pointer none, k, v] w fun e w' => e = .returned (errV 3) ∧ w = w' := by
  go_enter Try.func16, Try.ntmps16
  go_wp2_with fail
  go_ret
  exact ⟨rfl, rfl⟩
theorem gett_nil (k : Value) (w : World) : Calls Try.prog 18 #[.pointer none, k] w fun e w' => e = .returned (.tuple #[.slice none 0 0, errV 3]) ∧ w = w' := by
  go_enter Try.func18, Try.ntmps18
  go_wp2_with fail
  go_ret2
  exact ⟨rfl, rfl⟩
theorem delete_nil (k : Value) (w : World) : Calls Try.prog 12 #[.pointer none, k] w fun e w' => e = .returned (errV 3) ∧ w = w' := by
  go_enter Try.func12, Try.ntmps12
  go_wp2_with fail
  go_ret
  exact ⟨rfl, rfl⟩
theorem sync_nil (w : World) : Calls Try.prog 22 #[.pointer none] w fun e w' => e = .returned (errV 3) ∧ w = w' := by
  go_enter Try.func22, Try.ntmps22
  go_wp2_with fail
  go_ret
  exact ⟨rfl, rfl⟩
theorem keys_nil (w : World) : Calls Try.prog 17 #[.pointer none] w fun e w' => e = .returned (.slice none 0 0) ∧ w = w' := by
  go_enter Try.func17, Try.ntmps17
  go_wp2_with fail
  go_ret
  exact ⟨rfl, rfl⟩
theorem freeb_nil (w : World) : Calls Try.prog 15 #[.pointer none] w fun e w' => e = .returned (.int .i64 0) ∧ w = w' := by
  go_enter Try.func15, Try.ntmps15
  go_wp2_with fail
  go_ret
  exact ⟨rfl, rfl⟩
theorem cleaned_nil (w : World) : Calls Try.prog 23 #[.pointer none] w fun e w' => e = .returned (.int .i64 0) ∧ w = w' := by
  go_enter Try.func23, Try.ntmps23
  go_wp2_with fail
  go_ret
  exact ⟨rfl, rfl⟩
theorem broken_nil (w : World) : Calls Try.prog 24 #[.pointer none] w fun e w' => e = .returned (.bool false) ∧ w = w' := by
  go_enter Try.func24, Try.ntmps24
  go_wp2_with fail
  go_ret
  exact ⟨rfl, rfl⟩
theorem open_nil (w : World) : Calls Try.prog 10 #[.pointer none] w fun e w' => e = .returned (.tuple #[.pointer none, errV 3]) ∧ w = w' := by
  go_enter Try.func10, Try.ntmps10
  go_wp2_with fail
  go_ret2
  exact ⟨rfl, rfl⟩
end Go.Proofs.Ytepigkjgjlibcaa
