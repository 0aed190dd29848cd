/- Chapter 23, plain: the cells of a block that hold entries, whole and torn; what scan reads of them. -/
import Derived.Test.YtepigkjgjlibcaaPtA
namespace Go.Proofs.Ytepigkjgjlibcaa
open Go.RowKit Go.Deep Go.Proofs.Ytepigkjgjlibcaa.FL
def maskP (ps : List Pg) (m : List Bool) : List (Option Pg) := List.zipWith (fun p b => if b then some p else none) ps m
theorem maskP_len {ps : List Pg} {m : List Bool} (h : m.length ≤ ps.length) : (maskP ps m).length = m.length := by unfold maskP; rw [List.length_zipWith]; omega
theorem maskP_get {ps : List Pg} {m : List Bool} {i : Nat} {p : Pg} {b : Bool} (h : ps[i]? = some p) (hb : m[i]? = some b) : (maskP ps m)[i]? = some (if b then some p else none) := by
  unfold maskP
  rw [List.getElem?_zipWith, h, hb]
theorem maskP_append (a b : List Pg) (m : List Bool) : maskP (a ++ b) m = maskP a (m.take a.length) ++ maskP b (m.drop a.length) := by
  unfold maskP
  induction a generalizing m with
  | nil => simp
  | cons x r ih =>
    cases m with
    | nil => simp
    | cons y m => simp only [List.cons_append, List.zipWith_cons_cons, List.length_cons, List.take_succ_cons, List.drop_succ_cons, ih]
theorem maskP_all : ∀ (ps : List Pg) (m : List Bool), m.length = ps.length → (∀ b ∈ m, b = true) → maskP ps m = ps.map some := by
  intro ps
  induction ps with
  | nil => intro m hm _; obtain rfl : m = [] := List.eq_nil_of_length_eq_zero hm; rfl
  | cons p r ih =>
    intro m hm ha
    cases m with
    | nil => simp at hm
    | cons b m =>
      have hb := ha b (List.mem_cons_self ..)
      subst hb
      have := ih m (by simpa using hm) (fun b hb => ha b (List.mem_cons_of_mem _ hb))
      unfold maskP at this ⊢
      rw [List.zipWith_cons_cons, this]
      rfl
/-- cells of a block that hold the entries of one segment -/
inductive Body (s : Nat) : List (Option Pg) → List Ent → Prop
  | nil : Body s [] []
  | blank {c es} : Body s c es → Body s (none :: c) es
  | whole {c es} (e : Ent) : EW e → Body s c es → Body s ((pgsOf s e).map some ++ c) (stamp s e :: es)
  | torn {c es} (e : Ent) (m : List Bool) : EW e → m.length ≤ (pgsOf s e).length → (false ∈ m ∨ m.length < (pgsOf s e).length) → Body s c es → Body s (maskP (pgsOf s e) m ++ c) es
theorem pgsOf_pos {s : Nat} {e : Ent} (h : EW e) : 1 ≤ (pgsOf s e).length ∧ (pgsOf s e).length ≤ 39 := by rw [pgsOf_len]; exact h.arg.parts
theorem Body.append {s : Nat} {c d : List (Option Pg)} {es fs : List Ent} (h : Body s c es) (k : Body s d fs) : Body s (c ++ d) (es ++ fs) := by
  induction h with
  | nil => exact k
  | blank _ ih => exact .blank ih
  | whole e he _ ih => rw [List.append_assoc, List.cons_append]; exact .whole e he ih
  | torn e m he h1 h2 _ ih => rw [List.append_assoc]; exact .torn e m he h1 h2 ih
theorem Body.one {s : Nat} {e : Ent} (he : EW e) : Body s ((pgsOf s e).map some) [stamp s e] := by have := Body.whole (s := s) e he .nil; rwa [List.append_nil] at this
theorem Body.blanks {s : Nat} : ∀ c : List (Option Pg), (∀ x ∈ c, x = none) → Body s c []
  | [], _ => .nil
  | x :: r, h => by
    have hx := h x (List.mem_cons_self ..)
    subst hx
    exact .blank (Body.blanks r (fun y hy => h y (List.mem_cons_of_mem _ hy)))
theorem Body.first {s : Nat} {c : List (Option Pg)} {es : List Ent} (h : Body s c es) : c[0]? = none ∨ c[0]? = some none ∨ ∃ p, c[0]? = some (some p) ∧ p.part = 0 := by
  induction h with
  | nil => exact .inl rfl
  | blank _ _ => exact .inr (.inl rfl)
  | whole e he _ _ =>
    have hp := pgsOf_pos (s := s) he
    right; right
    obtain ⟨p, hg⟩ : ∃ p, (pgsOf s e)[0]? = some p := ⟨_, List.getElem?_eq_getElem (by omega)⟩
    obtain ⟨x, -, rfl⟩ := pgsOf_get hg
    exact ⟨_, by rw [List.getElem?_append_left (by rw [List.length_map]; omega), List.getElem?_map, hg]; rfl, rfl⟩
  | torn e m he h1 h2 _ ih =>
    have hp := pgsOf_pos (s := s) he
    cases m with
    | nil => have e0 : maskP (pgsOf s e) [] = [] := by unfold maskP; simp
             rw [e0]; exact ih
    | cons b m =>
      obtain ⟨p, hg⟩ : ∃ p, (pgsOf s e)[0]? = some p := ⟨_, List.getElem?_eq_getElem (by omega)⟩
      obtain ⟨x, -, rfl⟩ := pgsOf_get hg
      have := maskP_get (m := b :: m) hg rfl
      rw [List.getElem?_append_left (by rw [maskP_len h1]; simp), this]
      cases b with
      | true => exact .inr (.inr ⟨_, rfl, rfl⟩)
      | false => exact .inr (.inl rfl)
/-! one place -/
theorem somes_map {l : List (Option Pg)} (h : l.any (·.isNone) = false) : l = (l.filterMap id).map some := by
  induction l with
  | nil => rfl
  | cons x r ih =>
    rw [List.any_cons, Bool.or_eq_false_iff] at h
    cases x with
    | none => simp at h
    | some p => have e : (some p :: r).filterMap id = p :: r.filterMap id := rfl
                rw [e, List.map_cons, ← ih h.2]
theorem at_cell {l : List (Option Pg)} {k : Nat} (h : l[k]? = some none) : atF l k = none := by unfold atF; rw [h]
theorem at_bad {l : List (Option Pg)} {k t : Nat} {p : Pg} (h : l[k]? = some (some p)) (ht : t < p.parts) (hb : l[k + t]? = none ∨ l[k + t]? = some none ∨ ∃ q, l[k + t]? = some (some q) ∧ q.part ≠ t) : atF l k = none := by
  unfold atF
  rw [h]
  simp only
  split
  · rfl
  · rename_i hc
    have hany : ((l.drop k).take p.parts).any (·.isNone) = false := by cases hb : ((l.drop k).take p.parts).any (·.isNone) with | true => exact absurd (.inr hb) hc | false => rfl
    have hle : ¬ l.length - k < p.parts := fun h => hc (.inl h)
    have hs := somes_map hany
    have hw : ∀ i, i < p.parts → ((l.drop k).take p.parts)[i]? = l[k + i]? := fun i hi => by rw [List.getElem?_take, if_pos hi, List.getElem?_drop]
    have hg : ∀ i q, i < p.parts → l[k + i]? = some (some q) → (((l.drop k).take p.parts).filterMap id)[i]? = some q := fun i q hi hq => by
      have h1 := hw i hi
      rw [hs, hq, List.getElem?_map, Option.map_eq_some_iff] at h1
      obtain ⟨a, h2, h3⟩ := h1
      cases h3
      exact h2
    rcases hb with hb | hb | ⟨q, hq, hne⟩
    · rw [List.getElem?_eq_none_iff] at hb; omega
    · have h1 := hw t ht
      rw [hb] at h1
      rw [List.any_eq_false] at hany
      exact absurd rfl (hany none (List.mem_of_getElem? h1))
    · exact joinF_bad (hg 0 p (by omega) h) (hg t q ht hq) (fits_five (fun h => hne h.2.2.2.2))
theorem at_whole {l pre c : List (Option Pg)} {s : Nat} {e : Ent} (he : EW e) (hl : l = pre ++ ((pgsOf s e).map some ++ c)) : atF l pre.length = some (stamp s e) := by
  have hp := pgsOf_pos (s := s) he
  obtain ⟨p, hg⟩ : ∃ p, (pgsOf s e)[0]? = some p := ⟨_, List.getElem?_eq_getElem (by omega)⟩
  obtain ⟨x, -, e1⟩ := pgsOf_get hg
  have h0 : l[pre.length]? = some (some p) := by
    rw [hl, List.getElem?_append_right (Nat.le_refl _), Nat.sub_self, List.getElem?_append_left (by rw [List.length_map]; omega), List.getElem?_map, hg]
    rfl
  have hparts : p.parts = ((pgsOf s e).map some).length := by rw [e1, List.length_map, pgsOf_len]
  have hw : (l.drop pre.length).take p.parts = (pgsOf s e).map some := by rw [hl, List.drop_left, hparts, List.take_left]
  unfold atF
  rw [h0]
  simp only
  rw [hw, if_neg, List.filterMap_map]
  · rw [show (id ∘ some : Pg → Option Pg) = some from rfl, List.filterMap_some]
    exact join_pgs he
  · rintro (h | h)
    · rw [hl, List.length_append, List.length_append, hparts] at h
      omega
    · rw [List.any_eq_true] at h
      obtain ⟨y, hy, h2⟩ := h
      obtain ⟨z, -, rfl⟩ := List.mem_map.1 hy
      cases h2
/-- what scan finds -/
theorem ents_blank : ∀ (r : Nat) (pre : List (Option Pg)), entriesF (pre ++ List.replicate r none) (pre ++ List.replicate r none).length pre.length = [] := by
  intro r
  induction r with
  | zero => intro pre; exact entriesF_end (by simp) _
  | succ r ih =>
    intro pre
    have h := ih (pre ++ [none])
    rw [List.append_assoc, List.singleton_append, ← List.replicate_succ, show (pre ++ [(none : Option Pg)]).length = pre.length + 1 by simp] at h
    rw [entriesF_none (by simp) (at_cell (by rw [List.getElem?_append_right (Nat.le_refl _), Nat.sub_self]; rfl))]
    exact h
theorem Body.entries {s : Nat} {c : List (Option Pg)} {es : List Ent} (h : Body s c es) : ∀ (r : Nat) (pre l : List (Option Pg)), l = pre ++ (c ++ List.replicate r none) → entriesF l l.length pre.length = es := by
  induction h with
  | nil => intro r pre l hl; subst hl; exact ents_blank r pre
  | blank _ ih =>
    intro r pre l hl
    have h := ih r (pre ++ [none]) l (by rw [hl]; simp)
    rw [List.length_append] at h
    rw [entriesF_none (by rw [hl]; simp) (at_cell (by rw [hl, List.getElem?_append_right (Nat.le_refl _), Nat.sub_self]; rfl))]
    exact h
  | @whole c es e he _ ih =>
    intro r pre l hl
    have hp := pgsOf_pos (s := s) he
    have h1 := at_whole he (hl.trans (by rw [List.append_assoc]))
    have h := ih r (pre ++ (pgsOf s e).map some) l (by rw [hl]; simp only [List.append_assoc])
    rw [entriesF_some (by rw [hl]; simp only [List.length_append, List.length_map]; omega) h1]
    rw [List.length_append, List.length_map, pgsOf_len] at h
    rw [show pre.length + (stamp s e).pages = pre.length + (partsF e.key e.value).length from rfl, h]
  | @torn c es e m he h1 h2 hc ih =>
    intro r pre l hl
    have hp := pgsOf_pos (s := s) he
    have h := ih r (pre ++ maskP (pgsOf s e) m) l (by rw [hl]; simp only [List.append_assoc])
    rw [List.length_append, maskP_len h1] at h
    have hcell : ∀ j (hj : j < m.length), ∃ p, (pgsOf s e)[j]? = some p ∧ p.part = j ∧ p.parts = (pgsOf s e).length ∧ l[pre.length + j]? = some (if m[j] then some p else none) := fun j hj => by
      obtain ⟨p, hg⟩ : ∃ p, (pgsOf s e)[j]? = some p := ⟨_, List.getElem?_eq_getElem (by omega)⟩
      obtain ⟨x, -, rfl⟩ := pgsOf_get hg
      refine ⟨_, hg, rfl, by rw [pgsOf_len], ?_⟩
      rw [hl, List.getElem?_append_right (by omega), List.append_assoc, List.getElem?_append_left (by rw [maskP_len h1]; omega), Nat.add_sub_cancel_left]
      exact maskP_get hg (List.getElem?_eq_getElem hj)
    have hbad : ∀ j, j < m.length → atF l (pre.length + j) = none := fun j hj => by
      obtain ⟨p, hg, hpt, hps, hlj⟩ := hcell j hj
      cases hm : m[j] with
      | false => rw [hm] at hlj; exact at_cell hlj
      | true =>
        rw [hm] at hlj
        by_cases hj0 : j = 0
        · subst hj0
          rcases h2 with h3 | h3
          · obtain ⟨t, ht, hmt⟩ := List.getElem_of_mem h3
            obtain ⟨p2, -, -, -, hlt⟩ := hcell t ht
            rw [hmt] at hlt
            refine at_bad hlj (t := t) (by omega) (.inr (.inl ?_))
            rw [Nat.add_zero]
            exact hlt
          · refine at_bad hlj (t := m.length) (by omega) ?_
            have e1 : l[pre.length + 0 + m.length]? = (c ++ List.replicate r none)[0]? := by
              rw [hl, List.getElem?_append_right (by omega), List.append_assoc, List.getElem?_append_right (by rw [maskP_len h1]; omega), maskP_len h1]
              congr 1
              omega
            rw [e1]
            rcases hc.first with h4 | h4 | ⟨q, h4, h5⟩
            · have : c = [] := List.eq_nil_of_length_eq_zero (by rw [List.getElem?_eq_none_iff] at h4; omega)
              subst this
              rw [List.nil_append, List.getElem?_replicate]
              split
              · exact .inr (.inl rfl)
              · exact .inl rfl
            · right; left
              rw [List.getElem?_append_left (List.getElem?_eq_some_iff.1 h4).1]
              exact h4
            · right; right
              refine ⟨q, ?_, by omega⟩
              rw [List.getElem?_append_left (List.getElem?_eq_some_iff.1 h4).1]
              exact h4
        · refine at_bad hlj (t := 0) (by omega) (.inr (.inr ⟨p, hlj, by omega⟩))
    have hlen : pre.length + m.length ≤ l.length := by rw [hl]; simp only [List.length_append, maskP_len h1]; omega
    have go : ∀ d j, m.length - j = d → j ≤ m.length → entriesF l l.length (pre.length + j) = entriesF l l.length (pre.length + m.length) := by
      intro d
      induction d with
      | zero => intro j hd hj; obtain rfl : j = m.length := by omega
                rfl
      | succ d ihd =>
        intro j hd hj
        rw [entriesF_none (by omega) (hbad j (by omega)), Nat.add_assoc]
        exact ihd (j + 1) (by omega) (by omega)
    have h0 := go m.length 0 (by omega) (by omega)
    rw [Nat.add_zero] at h0
    rw [h0, h]
/-! what the cells say -/
theorem Body.cell {s : Nat} {c : List (Option Pg)} {es : List Ent} (h : Body s c es) : ∀ p, some p ∈ c → p.segment = s ∧ p.number ≤ far := by
  induction h with
  | nil => intro p hp; cases hp
  | blank _ ih => intro p hp; rcases List.mem_cons.1 hp with h | h
                  · cases h
                  · exact ih p h
  | whole e he _ ih =>
    intro p hp
    rcases List.mem_append.1 hp with h | h
    · obtain ⟨q, hq, h2⟩ := List.mem_map.1 h
      cases h2
      obtain ⟨i, hi⟩ := List.getElem?_of_mem hq
      obtain ⟨x, -, rfl⟩ := pgsOf_get hi
      exact ⟨rfl, he.arg.num⟩
    · exact ih p h
  | torn e m he h1 h2 _ ih =>
    intro p hp
    rcases List.mem_append.1 hp with h | h
    · obtain ⟨i, hi⟩ := List.getElem?_of_mem h
      unfold maskP at hi
      rw [List.getElem?_zipWith] at hi
      cases hq : (pgsOf s e)[i]? with
      | none => rw [hq] at hi; simp at hi
      | some q =>
        rw [hq] at hi
        cases hb : m[i]? with
        | none => rw [hb] at hi; simp at hi
        | some b =>
          rw [hb] at hi
          obtain ⟨x, -, rfl⟩ := pgsOf_get hq
          cases b with
          | false => simp at hi
          | true => simp at hi; subst hi; exact ⟨rfl, he.arg.num⟩
    · exact ih p h
theorem Body.ent {s : Nat} {c : List (Option Pg)} {es : List Ent} (h : Body s c es) : ∀ e ∈ es, EW e ∧ stamp s e = e ∧ ∃ p, some p ∈ c ∧ p.number = e.number := by
  induction h with
  | nil => intro e he; cases he
  | blank _ ih => intro e he; obtain ⟨h1, h2, p, h3, h4⟩ := ih e he; exact ⟨h1, h2, p, List.mem_cons_of_mem _ h3, h4⟩
  | whole e he _ ih =>
    intro x hx
    rcases List.mem_cons.1 hx with h | h
    · subst h
      have hp := pgsOf_pos (s := s) he
      obtain ⟨p, hg⟩ : ∃ p, (pgsOf s e)[0]? = some p := ⟨_, List.getElem?_eq_getElem (by omega)⟩
      have hm := List.mem_of_getElem? hg
      obtain ⟨y, -, rfl⟩ := pgsOf_get hg
      exact ⟨⟨⟨he.arg.kind, he.arg.num, he.arg.key, he.arg.val⟩, he.del⟩, rfl, _, List.mem_append_left _ (List.mem_map_of_mem hm), rfl⟩
    · obtain ⟨h1, h2, p, h3, h4⟩ := ih x h
      exact ⟨h1, h2, p, List.mem_append_right _ h3, h4⟩
  | torn e m he h1 h2 _ ih => intro x hx; obtain ⟨h1, h2, p, h3, h4⟩ := ih x hx; exact ⟨h1, h2, p, List.mem_append_right _ h3, h4⟩
theorem maxL_ge {l : List Nat} {x : Nat} (h : x ∈ l) : x ≤ maxL l := by
  have go : ∀ (l : List Nat) (a : Nat), a ≤ l.foldl max a ∧ ∀ x ∈ l, x ≤ l.foldl max a := by
    intro l
    induction l with
    | nil => intro a; exact ⟨Nat.le_refl _, fun x hx => (by cases hx)⟩
    | cons y r ih =>
      intro a
      have := ih (max a y)
      refine ⟨Nat.le_trans (Nat.le_max_left a y) this.1, fun x hx => ?_⟩
      rcases List.mem_cons.1 hx with h | h
      · subst h; exact Nat.le_trans (Nat.le_max_right a x) this.1
      · exact this.2 x h
  exact (go l 0).2 x h
theorem maxL_le {l : List Nat} {n : Nat} (h : ∀ x ∈ l, x ≤ n) : maxL l ≤ n := by
  have go : ∀ (l : List Nat) (a : Nat), a ≤ n → (∀ x ∈ l, x ≤ n) → l.foldl max a ≤ n := by
    intro l
    induction l with
    | nil => intro a ha _; exact ha
    | cons y r ih => intro a ha h; exact ih _ (Nat.max_le.2 ⟨ha, h y (List.mem_cons_self ..)⟩) (fun x hx => h x (List.mem_cons_of_mem _ hx))
  exact go l 0 (Nat.zero_le _) h
/-- a block that holds the entries of one segment -/
structure BlkAt (np : Nat) (b : Blk) (s : Nat) (es : List Ent) : Prop where
  ok : BlkOk np b
  cells : ∃ c r, b.pages.map readPage = c ++ List.replicate r none ∧ Body s c es
theorem BlkAt.entries {np : Nat} {b : Blk} {s : Nat} {es : List Ent} (h : BlkAt np b s es) : (scanF b).entries = es := by
  obtain ⟨c, r, hc, hb⟩ := h.cells
  rw [scanF_eq]
  have := hb.entries r [] (b.pages.map readPage) hc
  rw [List.length_map] at this
  exact this
theorem BlkAt.cell {np : Nat} {b : Blk} {s : Nat} {es : List Ent} (h : BlkAt np b s es) {p : Pg} (hp : some p ∈ b.pages.map readPage) : p.segment = s ∧ p.number ≤ far := by
  obtain ⟨c, r, hc, hb⟩ := h.cells
  rw [hc] at hp
  rcases List.mem_append.1 hp with h1 | h1
  · exact hb.cell p h1
  · have := List.eq_of_mem_replicate h1
    cases this
theorem BlkAt.ent {np : Nat} {b : Blk} {s : Nat} {es : List Ent} (h : BlkAt np b s es) : ∀ e ∈ es, EW e ∧ stamp s e = e ∧ ∃ p, some p ∈ b.pages.map readPage ∧ p.number = e.number := by
  obtain ⟨c, r, hc, hb⟩ := h.cells
  intro e he
  obtain ⟨h1, h2, p, h3, h4⟩ := hb.ent e he
  exact ⟨h1, h2, p, by rw [hc]; exact List.mem_append_left _ h3, h4⟩
theorem scan_segP (b : Blk) : (scanF b).segment = maxL ((b.pages.map readPage).map segP) ∧ (scanF b).number = maxL ((b.pages.map readPage).map numP) := ⟨rfl, rfl⟩
/-- no page that can be read -/
theorem BlkAt.none_ {np : Nat} {b : Blk} (hok : BlkOk np b) (h : ∀ x ∈ b.pages.map readPage, x = none) (s : Nat) : BlkAt np b s [] :=
  ⟨hok, b.pages.map readPage, 0, by simp, Body.blanks _ h⟩
theorem BlkAt.seg {np : Nat} {b : Blk} {s : Nat} {es : List Ent} (h : BlkAt np b s es) : ((scanF b).segment = s ∧ ∃ p, some p ∈ b.pages.map readPage) ∨ ((scanF b).segment = 0 ∧ es = [] ∧ ∀ x ∈ b.pages.map readPage, x = none) := by
  by_cases hv : ∃ p, some p ∈ b.pages.map readPage
  · left
    refine ⟨?_, hv⟩
    obtain ⟨p, hp⟩ := hv
    rw [(scan_segP b).1]
    refine Nat.le_antisymm (maxL_le (fun x hx => ?_)) ?_
    · obtain ⟨y, hy, rfl⟩ := List.mem_map.1 hx
      cases y with
      | none => exact Nat.zero_le _
      | some q => exact Nat.le_of_eq (h.cell hy).1
    · rw [← (h.cell hp).1]
      exact maxL_ge (List.mem_map.2 ⟨_, hp, rfl⟩)
  · right
    have hn : ∀ x ∈ b.pages.map readPage, x = none := fun x hx => by
      cases x with
      | none => rfl
      | some p => exact absurd ⟨p, hx⟩ hv
    refine ⟨?_, ?_, hn⟩
    · rw [(scan_segP b).1]
      refine Nat.le_antisymm (maxL_le (fun x hx => ?_)) (Nat.zero_le _)
      obtain ⟨y, hy, rfl⟩ := List.mem_map.1 hx
      rw [hn y hy]
      exact Nat.le_refl _
    · cases es with
      | nil => rfl
      | cons e r =>
        obtain ⟨-, -, p, hp, -⟩ := h.ent e (List.mem_cons_self ..)
        exact absurd ⟨p, hp⟩ hv
theorem BlkAt.num {np : Nat} {b : Blk} {s : Nat} {es : List Ent} (h : BlkAt np b s es) : ∀ e ∈ es, e.number ≤ (scanF b).number := by
  intro e he
  obtain ⟨-, -, p, hp, h2⟩ := h.ent e he
  rw [(scan_segP b).2, ← h2]
  exact maxL_ge (List.mem_map.2 ⟨_, hp, rfl⟩)
theorem BlkOk.cells_none {np : Nat} {b : Blk} (h : BlkOk np b) {j : Nat} (hj : nextF b ≤ j) {x : Option Pg} (hx : (b.pages.map readPage)[j]? = some x) : x = none := by
  rw [List.getElem?_map, Option.map_eq_some_iff] at hx
  obtain ⟨y, hy, rfl⟩ := hx
  rw [h.rest j hj (by rw [← h.len]; exact (List.getElem?_eq_some_iff.1 hy).1)] at hy
  cases hy
  exact readPage_none
theorem BlkAt.free {np : Nat} {b : Blk} {s : Nat} {es : List Ent} (h : BlkAt np b s es) (h0 : nextF b = 0) : es = [] ∧ (scanF b).segment = 0 ∧ ∀ x ∈ b.pages.map readPage, x = none := by
  have hn : ∀ x ∈ b.pages.map readPage, x = none := fun x hx => by
    obtain ⟨j, hj⟩ := List.getElem?_of_mem hx
    exact h.ok.cells_none (by omega) hj
  rcases h.seg with ⟨-, p, hp⟩ | ⟨h1, h2, -⟩
  · have := hn _ hp; cases this
  · exact ⟨h2, h1, hn⟩
/-! what a crash leaves of entries -/
theorem Body.masked {s : Nat} : ∀ (es : List Ent), (∀ e ∈ es, EW e) → ∀ m : List Bool, m.length = (es.flatMap (pgsOf s)).length → ∃ fs : List Ent, fs.Sublist es ∧ Body s (maskP (es.flatMap (pgsOf s)) m) (fs.map (stamp s)) := by
  intro es
  induction es with
  | nil => intro _ m hm; exact ⟨[], List.Sublist.refl _, by rw [List.flatMap_nil]; unfold maskP; rw [List.zipWith_nil_left]; exact .nil⟩
  | cons e r ih =>
    intro he m hm
    rw [List.flatMap_cons, List.length_append] at hm
    have he0 := he e (List.mem_cons_self ..)
    obtain ⟨fs, h1, h2⟩ := ih (fun x hx => he x (List.mem_cons_of_mem _ hx)) (m.drop (pgsOf s e).length) (by rw [List.length_drop]; omega)
    rw [List.flatMap_cons, maskP_append]
    have hl : (m.take (pgsOf s e).length).length = (pgsOf s e).length := by rw [List.length_take]; omega
    by_cases hf : false ∈ m.take (pgsOf s e).length
    · exact ⟨fs, h1.cons e, .torn e _ he0 (by omega) (.inl hf) h2⟩
    · refine ⟨e :: fs, h1.cons_cons e, ?_⟩
      rw [maskP_all _ _ hl (fun b hb => by cases b with | true => rfl | false => exact absurd hb hf), List.map_cons]
      exact .whole e he0 h2
theorem Body.part {s : Nat} {e : Ent} (he : EW e) {t : Nat} (ht : t < (pgsOf s e).length) (m : List Bool) (hm : m.length ≤ t) : Body s (maskP ((pgsOf s e).take t) m) [] := by
  have h : maskP ((pgsOf s e).take t) m = maskP (pgsOf s e) m := by
    conv => rhs; rw [← List.take_append_drop t (pgsOf s e), maskP_append, List.length_take, Nat.min_eq_left (by omega), List.take_of_length_le hm, List.drop_eq_nil_of_le hm]
    unfold maskP
    simp
  rw [h]
  have := Body.torn (s := s) e m he (by omega) (.inr (by omega)) .nil
  rwa [List.append_nil] at this
end Go.Proofs.Ytepigkjgjlibcaa
