/- Chapter 23, plain: the entries of a log in the order in which they were written; newest, live, elsewhere, spare read off that list. -/
import Derived.Test.YtepigkjgjlibcaaPtB
namespace Go.Proofs.Ytepigkjgjlibcaa
open Go.RowKit Go.Deep Go.Proofs.Ytepigkjgjlibcaa.FL
instance : DecidableEq Ent := fun a b => if h : a.kind = b.kind ∧ a.number = b.number ∧ a.segment = b.segment ∧ a.pages = b.pages ∧ a.key = b.key ∧ a.value = b.value then isTrue (by
  obtain ⟨a1, a2, a3, a4, a5, a6⟩ := a
  obtain ⟨b1, b2, b3, b4, b5, b6⟩ := b
  simp only at h
  obtain ⟨rfl, rfl, rfl, rfl, rfl, rfl⟩ := h
  rfl) else isFalse (fun e => h (by rw [e]; exact ⟨rfl, rfl, rfl, rfl, rfl, rfl⟩))
def Rel (x y : Ent) : Prop := x.segment ≤ y.segment ∧ (x.key = y.key → x.number ≤ y.number ∧ (x.number = y.number → x.segment < y.segment ∧ x.kind = y.kind ∧ x.value = y.value))
def lastK (T : List Ent) (k : Bs) : Option Ent := (T.filter fun x => decide (x.key = k)).getLast?
def valOf (e : Ent) : Option Bs := if e.kind = 1 then some e.value else none
def valK (T : List Ent) (k : Bs) : Option Bs := match lastK T k with
  | some e => valOf e
  | none => none
structure Rep (T : List Ent) (bs : List LB) : Prop where
  ents : ∀ (j : Nat) (b : LB), bs[j]? = some b → b.entries = T.filter (fun x => decide (x.segment = b.segment))
  cover : ∀ x ∈ T, ∃ (j : Nat) (b : LB), bs[j]? = some b ∧ b.segment = x.segment
  pos : ∀ x ∈ T, 1 ≤ x.segment
  inj : ∀ (i j : Nat) (b c : LB), bs[i]? = some b → bs[j]? = some c → b.segment = c.segment → b.segment ≠ 0 → i = j
theorem last_rel {α : Type} {R : α → α → Prop} {l : List α} (h : l.Pairwise R) {z : α} (hz : l.getLast? = some z) : ∀ y ∈ l, y = z ∨ R y z := by
  obtain ⟨ys, rfl⟩ := List.getLast?_eq_some_iff.1 hz
  intro y hy
  rcases List.mem_append.1 hy with h1 | h1
  · exact .inr ((List.pairwise_append.1 h).2.2 y h1 z (List.mem_singleton.2 rfl))
  · exact .inl (List.mem_singleton.1 h1)
theorem lastK_mem {T : List Ent} {k : Bs} {e : Ent} (h : lastK T k = some e) : e ∈ T ∧ e.key = k := by
  have h1 := List.mem_of_getLast? h
  rw [List.mem_filter] at h1
  exact ⟨h1.1, of_decide_eq_true h1.2⟩
theorem lastK_none {T : List Ent} {k : Bs} : lastK T k = none ↔ ∀ x ∈ T, x.key ≠ k := by
  unfold lastK
  rw [List.getLast?_eq_none_iff, List.filter_eq_nil_iff]
  simp
theorem lastK_some {T : List Ent} {k : Bs} {x : Ent} (h : x ∈ T) (hk : x.key = k) : ∃ e, lastK T k = some e := by
  cases hl : lastK T k with
  | none => exact absurd hk (lastK_none.1 hl x h)
  | some e => exact ⟨e, rfl⟩
theorem lastK_rel {T : List Ent} (hp : T.Pairwise Rel) {k : Bs} {e : Ent} (h : lastK T k = some e) : ∀ y ∈ T, y.key = k → y = e ∨ Rel y e := fun y hy hk =>
  last_rel (hp.sublist List.filter_sublist) h y (List.mem_filter.2 ⟨hy, decide_eq_true hk⟩)
theorem lastK_snoc (T : List Ent) (e : Ent) (k : Bs) : lastK (T ++ [e]) k = if e.key = k then some e else lastK T k := by
  unfold lastK
  rw [List.filter_append]
  by_cases h : e.key = k
  · have e1 : [e].filter (fun x => decide (x.key = k)) = [e] := by simp [h]
    rw [if_pos h, e1, List.getLast?_append]
    rfl
  · have e1 : [e].filter (fun x => decide (x.key = k)) = [] := by simp [h]
    rw [if_neg h, e1, List.append_nil]
theorem lastK_append (T P : List Ent) (k : Bs) : lastK (T ++ P) k = (match lastK P k with | some e => some e | none => lastK T k) := by
  unfold lastK
  rw [List.filter_append, List.getLast?_append]
  cases (P.filter fun x => decide (x.key = k)).getLast? <;> simp
/-- the last entry of a key stays the last, as long as it stays -/
theorem lastK_filter {T : List Ent} {p : Ent → Bool} {k : Bs} {e : Ent} (h : lastK T k = some e) (hp : p e = true) : lastK (T.filter p) k = some e := by
  unfold lastK at h ⊢
  obtain ⟨ys, hys⟩ := List.getLast?_eq_some_iff.1 h
  rw [List.filter_filter, List.filter_congr (q := fun x => p x && decide (x.key = k)) (fun x _ => by rw [Bool.and_comm]), ← List.filter_filter, hys, List.filter_append, List.filter_cons_of_pos hp, List.filter_nil, List.getLast?_append]
  rfl
theorem valK_some {T : List Ent} {k : Bs} {e : Ent} (h : lastK T k = some e) : valK T k = valOf e := by unfold valK; rw [h]
theorem valK_none {T : List Ent} {k : Bs} (h : lastK T k = none) : valK T k = none := by unfold valK; rw [h]
section
variable {L : Log} {T : List Ent} (h : Rep T L.blocks)
include h
theorem eat_mem {y : Nat × Nat × Ent} (hy : EAt L y) : y.2.2 ∈ T ∧ segOf L y.1 = y.2.2.segment := by
  obtain ⟨b, hb, he⟩ := hy
  have h1 := List.mem_of_getElem? he
  rw [h.ents _ b hb, List.mem_filter] at h1
  exact ⟨h1.1, by rw [segOf_at hb]; exact (of_decide_eq_true h1.2).symm⟩
theorem mem_eat {x : Ent} (hx : x ∈ T) : ∃ i j, EAt L (i, j, x) := by
  obtain ⟨j, b, hb, hs⟩ := h.cover x hx
  have h1 : x ∈ b.entries := by rw [h.ents j b hb]; exact List.mem_filter.2 ⟨hx, decide_eq_true hs.symm⟩
  obtain ⟨k, hk⟩ := List.getElem?_of_mem h1
  exact ⟨j, k, b, hb, hk⟩
theorem eat_seg {i j : Nat} {e : Ent} (hy : EAt L (i, j, e)) {b : LB} (hb : L.blocks[i]? = some b) : b.segment = e.segment := by
  have := (eat_mem h hy).2
  rwa [segOf_at hb] at this
theorem eat_block {i j i2 j2 : Nat} {e f : Ent} (hy : EAt L (i, j, e)) (hz : EAt L (i2, j2, f)) : i = i2 ↔ e.segment = f.segment := by
  have h1 := eat_mem h hy
  have h2 := eat_mem h hz
  obtain ⟨b, hb, -⟩ := hy
  obtain ⟨c, hc, -⟩ := hz
  rw [segOf_at hb] at h1
  rw [segOf_at hc] at h2
  have hp := h.pos e h1.1
  simp only at h1 h2 hb hc
  constructor
  · rintro rfl
    rw [hb] at hc
    cases hc
    omega
  · intro he
    exact h.inj i i2 b c hb hc (by omega) (by omega)
theorem eat_uniq (hp : T.Pairwise Rel) {i j i2 j2 : Nat} {e : Ent} (hy : EAt L (i, j, e)) (hz : EAt L (i2, j2, e)) : i = i2 ∧ j = j2 := by
  have hi := (eat_block h hy hz).2 rfl
  refine ⟨hi, ?_⟩
  obtain ⟨b, hb, he⟩ := hy
  obtain ⟨c, hc, hf⟩ := hz
  simp only at hb hc he hf
  subst hi
  rw [hb] at hc
  cases hc
  have hq : b.entries.Pairwise Rel := by rw [h.ents i b hb]; exact hp.sublist List.filter_sublist
  have key : ∀ {m n : Nat}, m < n → b.entries[m]? = some e → b.entries[n]? = some e → False := fun {m n} hmn h1 h2 => by
    rw [List.pairwise_iff_getElem] at hq
    obtain ⟨a1, b1⟩ := List.getElem?_eq_some_iff.1 h1
    obtain ⟨a2, b2⟩ := List.getElem?_eq_some_iff.1 h2
    have := hq m n a1 a2 hmn
    rw [b1, b2] at this
    have := ((this.2 rfl).2 rfl).1
    omega
  rcases Nat.lt_trichotomy j j2 with h1 | h1 | h1
  · exact (key h1 he hf).elim
  · exact h1
  · exact (key h1 hf he).elim
omit h in
theorem nfold_le (key : Bs) : ∀ (l : List (Nat × Nat × Ent)) (acc : Option (Nat × Nat × Ent)) (y : Nat × Nat × Ent), l.foldl (nstep L key) acc = some y →
    (∀ x ∈ l, x.2.2.key = key → x.2.2.number < y.2.2.number ∨ x.2.2.number = y.2.2.number ∧ segOf L x.1 ≤ segOf L y.1) ∧ (∀ a, acc = some a → a.2.2.number < y.2.2.number ∨ a.2.2.number = y.2.2.number ∧ segOf L a.1 ≤ segOf L y.1) := by
  intro l
  induction l with
  | nil => intro acc y hy; rw [List.foldl_nil] at hy; subst hy; exact ⟨fun x hx => (by cases hx), fun a ha => by cases ha; exact .inr ⟨rfl, Nat.le_refl _⟩⟩
  | cons x r ih =>
    intro acc y hy
    rw [List.foldl_cons] at hy
    obtain ⟨h1, h2⟩ := ih _ y hy
    by_cases hk : x.2.2.key = key
    · cases acc with
      | none =>
        have e : nstep L key none x = some x := by unfold nstep; rw [if_pos hk]
        have h3 := h2 x e
        exact ⟨fun z hz hzk => by rcases List.mem_cons.1 hz with h4 | h4
                                  · subst h4; exact h3
                                  · exact h1 z h4 hzk, fun a ha => (by cases ha)⟩
      | some a =>
        cases hn : newer L x a with
        | true =>
          have e : nstep L key (some a) x = some x := by unfold nstep; rw [if_pos hk]; simp only; rw [if_pos hn]
          have h3 := h2 x e
          have h5 : a.2.2.number < x.2.2.number ∨ x.2.2.number = a.2.2.number ∧ segOf L a.1 < segOf L x.1 := of_decide_eq_true hn
          exact ⟨fun z hz hzk => by rcases List.mem_cons.1 hz with h4 | h4
                                    · subst h4; exact h3
                                    · exact h1 z h4 hzk, fun b hb => by cases hb; omega⟩
        | false =>
          have e : nstep L key (some a) x = some a := by unfold nstep; rw [if_pos hk]; simp only; rw [if_neg (by rw [hn]; simp)]
          have h3 := h2 a e
          have h5 : ¬ (a.2.2.number < x.2.2.number ∨ x.2.2.number = a.2.2.number ∧ segOf L a.1 < segOf L x.1) := of_decide_eq_false hn
          exact ⟨fun z hz hzk => by rcases List.mem_cons.1 hz with h4 | h4
                                    · subst h4; omega
                                    · exact h1 z h4 hzk, fun b hb => by cases hb; exact h3⟩
    · have e : nstep L key acc x = acc := by unfold nstep; rw [if_neg hk]
      rw [e] at h2
      exact ⟨fun z hz hzk => by rcases List.mem_cons.1 hz with h4 | h4
                                · subst h4; exact absurd hzk hk
                                · exact h1 z h4 hzk, h2⟩
/-- the newest entry is the last -/
theorem newest_last (hp : T.Pairwise Rel) (k : Bs) : match newestF L k with
    | some y => EAt L y ∧ lastK T k = some y.2.2
    | none => lastK T k = none := by
  cases hn : newestF L k with
  | none =>
    simp only
    rw [newestF_eq, nfold_none] at hn
    rw [lastK_none]
    intro x hx hk
    obtain ⟨i, j, he⟩ := mem_eat h hx
    have := allEnts_mem he
    rw [allEnts_eq] at this
    exact hn.2 _ this hk
  | some y =>
    simp only
    have hy := newest_at hn
    have hm := eat_mem h hy.1
    refine ⟨hy.1, ?_⟩
    obtain ⟨z, hz⟩ := lastK_some hm.1 hy.2
    rw [hz]
    have hzm := lastK_mem hz
    rcases lastK_rel hp hz _ hm.1 hy.2 with h1 | h1
    · rw [h1]
    · exfalso
      obtain ⟨i, j, he⟩ := mem_eat h hzm.1
      have ha := allEnts_mem he
      rw [allEnts_eq] at ha
      rw [newestF_eq] at hn
      have h2 := (nfold_le k _ none y hn).1 _ ha hzm.2
      have h3 := h1.2 (by rw [hy.2, hzm.2])
      have h4 := (eat_mem h he).2
      simp only at h2 h4
      rw [h4, hm.2] at h2
      rcases h2 with h2 | h2
      · omega
      · have := (h3.2 h2.1.symm).1
        omega
theorem get_val (hp : T.Pairwise Rel) (hb : L.broken = false) (k : Bs) : getF L k = (match valK T k with | some v => .inl v | none => .inr 3) := by
  have hn := newest_last h hp k
  unfold getF
  rw [hb, if_neg (by simp)]
  cases hy : newestF L k with
  | none => rw [hy] at hn; simp only at hn ⊢; rw [valK_none hn]
  | some y =>
    rw [hy] at hn
    simp only at hn ⊢
    rw [valK_some hn.2]
    unfold valOf
    by_cases h1 : y.2.2.kind = 1
    · rw [if_pos h1, if_pos h1]
    · rw [if_neg h1, if_neg h1]
omit h in
def liveT (T : List Ent) (e : Ent) : Bool := decide (lastK T e.key = some e) && (decide (e.kind = 1) || T.any fun x => decide (x.segment ≠ e.segment ∧ x.key = e.key ∧ x.kind = 1))
omit h in
def exactT (T : List Ent) (e : Ent) : Bool := T.any fun x => decide (x.segment ≠ e.segment ∧ x.key = e.key ∧ x.kind = e.kind ∧ x.number = e.number)
theorem else_any {i j : Nat} {e : Ent} (he : EAt L (i, j, e)) (kind number : Nat) (key : Bs) (ex : Bool) : elsewhereF L i kind number key ex = true ↔ ∃ x ∈ T, x.segment ≠ e.segment ∧ x.key = key ∧ x.kind = kind ∧ (ex = true → x.number = number) := by
  unfold elsewhereF
  rw [List.any_eq_true]
  constructor
  · rintro ⟨x, hx, hq⟩
    have hx := mem_allEnts hx
    simp only [Bool.and_eq_true, decide_eq_true_eq, Bool.or_eq_true, Bool.not_eq_true'] at hq
    refine ⟨x.2.2, (eat_mem h hx).1, fun hs => hq.1.1 ((eat_block h hx he).2 hs), hq.1.2.1, hq.1.2.2, fun hex => ?_⟩
    rcases hq.2 with h1 | h1
    · rw [hex] at h1; cases h1
    · exact h1
  · rintro ⟨x, hx, h1, h2, h3, h4⟩
    obtain ⟨a, b, hab⟩ := mem_eat h hx
    refine ⟨(a, b, x), allEnts_mem hab, ?_⟩
    simp only [Bool.and_eq_true, decide_eq_true_eq, Bool.or_eq_true, Bool.not_eq_true']
    refine ⟨⟨fun hai => h1 ((eat_block h hab he).1 hai), h2, h3⟩, ?_⟩
    cases ex with
    | false => exact .inl rfl
    | true => exact .inr (h4 rfl)
theorem live_eq (hp : T.Pairwise Rel) {i j : Nat} {e : Ent} (he : EAt L (i, j, e)) : liveF L i j e = liveT T e := by
  have hn := newest_last h hp e.key
  have hel : elsewhereF L i 1 e.number e.key false = T.any fun x => decide (x.segment ≠ e.segment ∧ x.key = e.key ∧ x.kind = 1) := by
    rw [Bool.eq_iff_iff, else_any h he, List.any_eq_true]
    constructor
    · rintro ⟨x, hx, h1, h2, h3, -⟩; exact ⟨x, hx, decide_eq_true ⟨h1, h2, h3⟩⟩
    · rintro ⟨x, hx, h1⟩; obtain ⟨h1, h2, h3⟩ := of_decide_eq_true h1; exact ⟨x, hx, h1, h2, h3, fun h => (by cases h)⟩
  unfold liveF liveT
  rw [hel]
  cases hy : newestF L e.key with
  | none =>
    rw [hy] at hn
    exact absurd rfl (lastK_none.1 hn e (eat_mem h he).1)
  | some y =>
    rw [hy] at hn
    simp only at hn ⊢
    rw [hn.2]
    congr 1
    rw [Bool.eq_iff_iff, decide_eq_true_eq, decide_eq_true_eq, Option.some.injEq]
    constructor
    · rintro ⟨rfl, rfl⟩
      obtain ⟨b, hb, hf⟩ := hn.1
      obtain ⟨c, hc, hg⟩ := he
      simp only at hb hc
      rw [hb] at hc
      cases hc
      simp only at hg
      rw [hf] at hg
      cases hg
      rfl
    · intro e1
      have := hn.1
      rcases y with ⟨a, b, f⟩
      simp only at e1
      subst e1
      exact eat_uniq h hp this he
theorem exact_eq {i j : Nat} {e : Ent} (he : EAt L (i, j, e)) : elsewhereF L i e.kind e.number e.key true = exactT T e := by
  unfold exactT
  rw [Bool.eq_iff_iff, else_any h he, List.any_eq_true]
  constructor
  · rintro ⟨x, hx, h1, h2, h3, h4⟩; exact ⟨x, hx, decide_eq_true ⟨h1, h2, h3, h4 rfl⟩⟩
  · rintro ⟨x, hx, h1⟩; obtain ⟨h1, h2, h3, h4⟩ := of_decide_eq_true h1; exact ⟨x, hx, h1, h2, h3, fun _ => h4⟩
omit h in
theorem zip_filter {l : List Ent} {f : Ent × Nat → Bool} {g : Ent → Bool} (hfg : ∀ k e, l[k]? = some e → f (e, k) = g e) : (l.zipIdx.filter f).map (·.1) = l.filter g := by
  have go : ∀ (l : List Ent) (n : Nat), (∀ k e, l[k]? = some e → f (e, n + k) = g e) → ((l.zipIdx n).filter f).map (·.1) = l.filter g := by
    intro l
    induction l with
    | nil => intro n _; rfl
    | cons x r ih =>
      intro n hn
      have h0 := hn 0 x rfl
      have h1 := ih (n + 1) (fun k e hk => by have := hn (k + 1) e hk; rw [show n + (k + 1) = n + 1 + k by omega] at this; exact this)
      rw [Nat.add_zero] at h0
      rw [List.zipIdx_cons]
      cases hg : g x with
      | true => rw [List.filter_cons_of_pos (by rw [h0, hg]), List.filter_cons_of_pos hg, List.map_cons, h1]
      | false => rw [List.filter_cons_of_neg (by rw [h0, hg]; simp), List.filter_cons_of_neg (by rw [hg]; simp), h1]
  exact go l 0 (fun k e hk => by rw [Nat.zero_add]; exact hfg k e hk)
theorem lives_eq (hp : T.Pairwise Rel) {i : Nat} {b : LB} (hb : L.blocks[i]? = some b) (key : Bs) : livesF L i key = (T.filter fun x => decide (x.segment = b.segment)).filter fun e => decide (e.key ≠ key) && liveT T e := by
  unfold livesF
  rw [hb]
  simp only
  rw [← h.ents i b hb]
  exact zip_filter (fun k e hk => by simp only; rw [live_eq h hp ⟨b, hb, hk⟩])
theorem spare_eq (hp : T.Pairwise Rel) {i : Nat} {b : LB} (hb : L.blocks[i]? = some b) : spareCount L i b = pagesOf ((T.filter fun x => decide (x.segment = b.segment)).filter fun e => liveT T e && !exactT T e) := by
  unfold spareCount
  rw [← h.ents i b hb]
  congr 1
  exact zip_filter (fun k e hk => by simp only; rw [live_eq h hp ⟨b, hb, hk⟩, exact_eq h ⟨b, hb, hk⟩])
end
theorem pagesOf_zero {l : List Ent} (hl : ∀ e ∈ l, 1 ≤ e.pages) : pagesOf l = 0 ↔ l = [] := by
  cases l with
  | nil => exact ⟨fun _ => rfl, fun _ => rfl⟩
  | cons e r =>
    have := hl e (List.mem_cons_self ..)
    unfold pagesOf
    simp only [List.map_cons, List.sum_cons]
    constructor
    · intro h; omega
    · intro h; cases h
/-- a block that holds nothing of which there is no second -/
def NoCount (T : List Ent) (s : Nat) : Prop := ∀ e ∈ T, e.segment = s → liveT T e = true → exactT T e = true
/-- a block that holds no value -/
def Dead (T : List Ent) (s : Nat) : Prop := ∀ k e, lastK T k = some e → e.segment = s → e.kind ≠ 1 ∧ ∀ x ∈ T, x.key = k → x.kind = 1 → x.segment = s
def without (T : List Ent) (s : Nat) : List Ent := T.filter fun x => decide (x.segment ≠ s)
theorem mem_without {T : List Ent} {s : Nat} {x : Ent} : x ∈ without T s ↔ x ∈ T ∧ x.segment ≠ s := by unfold without; rw [List.mem_filter, decide_eq_true_eq]
theorem Dead.count {T : List Ent} {s : Nat} (h : Dead T s) : NoCount T s := by
  intro e he hs hl
  unfold liveT at hl
  simp only [Bool.and_eq_true, decide_eq_true_eq, Bool.or_eq_true] at hl
  obtain ⟨h1, h2⟩ := h e.key e hl.1 hs
  rcases hl.2 with h3 | h3
  · exact absurd h3 h1
  · rw [List.any_eq_true] at h3
    obtain ⟨x, hx, h4⟩ := h3
    obtain ⟨h4, h5, h6⟩ := of_decide_eq_true h4
    exact absurd ((h2 x hx h5 h6).trans hs.symm) h4
theorem Dead.grow {T : List Ent} {s : Nat} (h : Dead T s) {P : List Ent} (hP : ∀ x ∈ P, x.segment ≠ s) : Dead (T ++ P) s := by
  intro k e he hs
  rw [lastK_append] at he
  cases hl : lastK P k with
  | some f => rw [hl] at he; cases he; exact absurd hs (hP e (lastK_mem hl).1)
  | none =>
    rw [hl] at he
    obtain ⟨h1, h2⟩ := h k e he hs
    refine ⟨h1, fun x hx hk h3 => ?_⟩
    rcases List.mem_append.1 hx with h4 | h4
    · exact h2 x h4 hk h3
    · exact absurd hk (lastK_none.1 hl x h4)
theorem NoCount.val {T : List Ent} (hp : T.Pairwise Rel) {s : Nat} (h : NoCount T s) (k : Bs) : valK (without T s) k = valK T k := by
  cases hl : lastK T k with
  | none =>
    rw [valK_none hl, valK_none]
    rw [lastK_none] at hl ⊢
    exact fun x hx => hl x (mem_without.1 hx).1
  | some e =>
    have hm := lastK_mem hl
    rw [valK_some hl]
    by_cases hs : e.segment = s
    · cases hr : lastK (without T s) k with
      | none =>
        rw [valK_none hr]
        rw [lastK_none] at hr
        unfold valOf
        by_cases h1 : e.kind = 1
        · have hlv : liveT T e = true := by unfold liveT; rw [hm.2, hl, h1]; simp
          have hx := h e hm.1 hs hlv
          unfold exactT at hx
          rw [List.any_eq_true] at hx
          obtain ⟨x, hx, h2⟩ := hx
          obtain ⟨h2, h3, -⟩ := of_decide_eq_true h2
          exact absurd (h3.trans hm.2) (hr x (mem_without.2 ⟨hx, by rw [← hs]; exact h2⟩))
        · rw [if_neg h1]
      | some y =>
        rw [valK_some hr]
        have hy := lastK_mem hr
        have hy1 := mem_without.1 hy.1
        have hye : Rel y e := by
          rcases lastK_rel hp hl y hy1.1 hy.2 with h1 | h1
          · subst h1; exact absurd hs hy1.2
          · exact h1
        have hye2 := hye.2 (by rw [hy.2, hm.2])
        by_cases hlv : liveT T e = true
        · have hx := h e hm.1 hs hlv
          unfold exactT at hx
          rw [List.any_eq_true] at hx
          obtain ⟨x, hx, h2⟩ := hx
          obtain ⟨h2, h3, h4, h5⟩ := of_decide_eq_true h2
          have hxw : x ∈ without T s := mem_without.2 ⟨hx, by rw [← hs]; exact h2⟩
          have hxy : x.number ≤ y.number := by
            rcases lastK_rel (hp.sublist List.filter_sublist) hr x hxw (h3.trans hm.2) with h6 | h6
            · rw [h6]; exact Nat.le_refl _
            · exact (h6.2 (by rw [h3, hm.2, hy.2])).1
          have := hye2.2 (by omega)
          unfold valOf
          rw [this.2.1, this.2.2]
        · have hk : e.kind ≠ 1 ∧ ∀ x ∈ T, x.key = k → x.kind = 1 → x.segment = s := by
            unfold liveT at hlv
            simp only [Bool.and_eq_true, decide_eq_true_eq, Bool.or_eq_true, not_and, not_or] at hlv
            obtain ⟨h1, h2⟩ := hlv (by rw [hm.2, hl])
            refine ⟨h1, fun x hx hxk hx1 => ?_⟩
            rcases Nat.decEq x.segment s with h3 | h3
            · exact absurd (List.any_eq_true.2 ⟨x, hx, decide_eq_true ⟨by rw [hs]; exact h3, by rw [hxk, hm.2], hx1⟩⟩) h2
            · exact h3
          have hyk : y.kind ≠ 1 := fun h1 => hy1.2 (hk.2 y hy1.1 hy.2 h1)
          unfold valOf
          rw [if_neg hk.1, if_neg hyk]
    · have h9 : lastK (without T s) k = some e := lastK_filter (p := fun x => decide (x.segment ≠ s)) hl (decide_eq_true hs)
      rw [valK_some h9]
theorem Dead.val {T : List Ent} (hp : T.Pairwise Rel) {s : Nat} (h : Dead T s) (k : Bs) : valK (without T s) k = valK T k := h.count.val hp k
/-- the block that Open erases -/
theorem spare_spec (L : Log) : (∃ b, L.blocks[spareF L]? = some b ∧ spareCount L (spareF L) b = 0) ∨
    ((∀ (j : Nat) (b : LB), L.blocks[j]? = some b → spareCount L j b ≠ 0) ∧ ∀ j, j < L.blocks.length → segOf L j ≤ segOf L (spareF L)) := by
  have go : ∀ k, k ≤ L.blocks.length → (∀ y, (spTo L k).1 = some y → ∃ b, L.blocks[y]? = some b ∧ spareCount L y b = 0) ∧ ((spTo L k).1 = none → ∀ (j : Nat) (b : LB), j < k → L.blocks[j]? = some b → spareCount L j b ≠ 0) ∧ ∀ j, j < k → segOf L j ≤ segOf L (spTo L k).2 := by
    intro k
    induction k with
    | zero => intro _; exact ⟨fun y hy => (by unfold spTo at hy; simp at hy), fun _ j b hj => absurd hj (by omega), fun j hj => absurd hj (by omega)⟩
    | succ k ih =>
      intro hk
      obtain ⟨h1, h2, h3⟩ := ih (by omega)
      have hb : L.blocks[k]? = some (L.blocks[k]'(by omega)) := List.getElem?_eq_getElem (by omega)
      generalize L.blocks[k]'(by omega) = b at hb
      rw [spTo_succ hb, spareStep_eq]
      have hs := segOf_at hb
      refine ⟨fun y hy => ?_, fun hn j c hj hc => ?_, fun j hj => ?_⟩
      · simp only at hy
        unfold spBest at hy
        cases hbest : (spTo L k).1 with
        | none =>
          rw [hbest] at hy
          simp only at hy
          split at hy
          · cases hy; exact ⟨b, hb, by assumption⟩
          · cases hy
        | some z =>
          rw [hbest] at hy
          simp only at hy
          split at hy
          · rename_i hc; cases hy; exact ⟨b, hb, hc.1⟩
          · cases hy; exact h1 y hbest
      · simp only at hn
        unfold spBest at hn
        cases hbest : (spTo L k).1 with
        | none =>
          rw [hbest] at hn
          simp only at hn
          split at hn
          · cases hn
          · rename_i hcnt
            by_cases hjk : j = k
            · subst hjk; rw [hb] at hc; cases hc; exact hcnt
            · exact h2 hbest j c (by omega) hc
        | some z =>
          rw [hbest] at hn
          simp only at hn
          split at hn <;> cases hn
      · simp only
        unfold spLast
        by_cases hjk : j = k
        · subst hjk; split <;> omega
        · have := h3 j (by omega); split <;> omega
  obtain ⟨h1, h2, h3⟩ := go _ (Nat.le_refl _)
  rw [spareF_eq]
  unfold spRes
  cases hb : spTo L L.blocks.length with
  | mk best last =>
    rw [hb] at h1 h2 h3
    cases best with
    | some y => exact .inl (h1 y rfl)
    | none => exact .inr ⟨fun j b hj => h2 rfl j b (List.getElem?_eq_some_iff.1 hj).1 hj, h3⟩
end Go.Proofs.Ytepigkjgjlibcaa
