/- Chapter 23, plain: a block with what is pending on it: what it holds now, and what a crash may leave of it. -/
import Derived.Test.YtepigkjgjlibcaaPtC
namespace Go.Proofs.Ytepigkjgjlibcaa
open Go.RowKit Go.Deep Go.Proofs.Ytepigkjgjlibcaa.FL
/-- what a crash may leave of a block: some operations done, until an erase that is not -/
inductive Outc : Blk → List FL.Oper → Blk → Prop
  | done (b : Blk) : Outc b [] b
  | skip {b : Blk} {o : FL.Oper} {r : List FL.Oper} {x : Bs} {y : Blk} : o.data = some x → Outc b r y → Outc b (o :: r) y
  | put {b : Blk} {o : FL.Oper} {r : List FL.Oper} {x : Bs} {y : Blk} (m : Nat) : o.data = some x → 1 ≤ m → m ≤ 512 → Outc (setPage b o.page (some (filled (x.take m)))) r y → Outc b (o :: r) y
  | erase {b : Blk} {o : FL.Oper} {r : List FL.Oper} {y : Blk} : o.data = none → Outc (eraseB b) r y → Outc b (o :: r) y
  | stop {b : Blk} {o : FL.Oper} {r : List FL.Oper} : o.data = none → Outc b (o :: r) b
theorem setB_get {l : List Blk} {i j : Nat} {f : Blk → Blk} {b : Blk} (hb : l[j]? = some b) : (setB l i f)[j]? = some (if i = j then f b else b) := by
  unfold setB
  by_cases h : i = j
  · subst h
    rw [hb, if_pos rfl]
    exact List.getElem?_set_self (List.getElem?_eq_some_iff.1 hb).1
  · rw [if_neg h]
    split
    · exact hb
    · rw [List.getElem?_set_ne h]; exact hb
theorem setB_len (l : List Blk) (i : Nat) (f : Blk → Blk) : (setB l i f).length = l.length := by unfold setB; split <;> simp
def onB (j : Nat) (ops : List FL.Oper) : List FL.Oper := ops.filter fun o => decide (o.block = j)
theorem crash_block : ∀ (ops : List FL.Oper) (ks : List Int) (bl : List Blk) (sp : List Bool) (j : Nat) (b : Blk), bl[j]? = some b → sp.length = bl.length →
    ∃ y, (crashOps ops ks (bl, sp)).1[j]? = some y ∧ (if sp.getD j false = true then y = b else Outc b (onB j ops) y) := by
  intro ops
  induction ops with
  | nil =>
    intro ks bl sp j b hb hl
    refine ⟨b, hb, ?_⟩
    split
    · rfl
    · exact .done b
  | cons o r ih =>
    intro ks bl sp j b hb hl
    have hj := (List.getElem?_eq_some_iff.1 hb).1
    have hcons : onB j (o :: r) = if o.block = j then o :: onB j r else onB j r := by
      unfold onB
      rw [List.filter_cons]
      by_cases h : o.block = j <;> simp [h]
    rw [show crashOps (o :: r) ks (bl, sp) = crashOps r ks.tail (crashOp (bl, sp) o (ks.headD 0)) from rfl, hcons]
    unfold crashOp
    simp only
    by_cases hs : sp.getD o.block false = true
    · rw [if_pos hs]
      obtain ⟨y, h1, h2⟩ := ih ks.tail bl sp j b hb hl
      refine ⟨y, h1, ?_⟩
      by_cases hoj : o.block = j
      · rw [hoj] at hs; rw [if_pos hs] at h2 ⊢; exact h2
      · rw [if_neg hoj]; exact h2
    · rw [if_neg hs]
      cases hd : o.data with
      | none =>
        simp only
        by_cases hk : 0 < ks.headD 0
        · rw [if_pos hk]
          obtain ⟨y, h1, h2⟩ := ih ks.tail (setB bl o.block eraseB) sp j _ (setB_get hb) (by rw [setB_len]; exact hl)
          refine ⟨y, h1, ?_⟩
          by_cases hoj : o.block = j
          · rw [hoj] at hs
            rw [if_pos hoj] at h2 ⊢
            rw [if_neg hs] at h2 ⊢
            exact .erase hd h2
          · rw [if_neg hoj] at h2 ⊢
            exact h2
        · rw [if_neg hk]
          obtain ⟨y, h1, h2⟩ := ih ks.tail bl (sp.set o.block true) j b hb (by rw [List.length_set]; exact hl)
          refine ⟨y, h1, ?_⟩
          by_cases hoj : o.block = j
          · rw [hoj] at hs h2
            rw [if_neg hs, if_pos hoj]
            have e : (sp.set j true).getD j false = true := by rw [List.getD_eq_getElem?_getD, List.getElem?_set_self (by omega)]; rfl
            rw [if_pos e] at h2
            rw [h2]
            exact .stop hd
          · rw [if_neg hoj]
            have e : (sp.set o.block true).getD j false = sp.getD j false := by rw [List.getD_eq_getElem?_getD, List.getElem?_set_ne hoj, ← List.getD_eq_getElem?_getD]
            rw [e] at h2
            exact h2
      | some x =>
        simp only
        by_cases hk : 0 < ks.headD 0
        · rw [if_pos hk]
          obtain ⟨y, h1, h2⟩ := ih ks.tail (setB bl o.block fun b => setPage b o.page (some (filled (x.take (min (ks.headD 0) 512).toNat)))) sp j _ (setB_get hb) (by rw [setB_len]; exact hl)
          refine ⟨y, h1, ?_⟩
          by_cases hoj : o.block = j
          · rw [hoj] at hs
            rw [if_pos hoj] at h2 ⊢
            rw [if_neg hs] at h2 ⊢
            exact .put _ hd (by omega) (by omega) h2
          · rw [if_neg hoj] at h2 ⊢
            exact h2
        · rw [if_neg hk]
          obtain ⟨y, h1, h2⟩ := ih ks.tail bl sp j b hb hl
          refine ⟨y, h1, ?_⟩
          by_cases hoj : o.block = j
          · rw [hoj] at hs
            rw [if_pos hoj]
            rw [if_neg hs] at h2 ⊢
            exact .skip hd h2
          · rw [if_neg hoj]; exact h2
/-! blank pages below others -/
def fillB (b : Blk) : Blk := { b with pages := fillBelow b.pages }
theorem fill_get (l : List (Option Bs)) (i : Nat) : (fillBelow l)[i]? = match l[i]? with
    | none => none
    | some (some x) => some (some x)
    | some none => if (l.drop i).any (·.isSome) then some (some (filled [])) else some none := by
  unfold fillBelow
  rw [List.getElem?_map, List.getElem?_zipIdx]
  cases h : l[i]? with
  | none => rfl
  | some x =>
    cases x with
    | some x => rfl
    | none => simp only [Option.map_some, Nat.zero_add]; split <;> rfl
theorem fill_len (l : List (Option Bs)) : (fillBelow l).length = l.length := by unfold fillBelow; rw [List.length_map, List.length_zipIdx]
theorem fill_cells (b : Blk) : (fillB b).pages.map readPage = b.pages.map readPage := by
  refine List.ext_getElem? (fun i => ?_)
  rw [List.getElem?_map, List.getElem?_map]
  unfold fillB
  simp only
  rw [fill_get]
  cases h : b.pages[i]? with
  | none => rfl
  | some x =>
    cases x with
    | some x => rfl
    | none => simp only; split <;> rfl
theorem fill_ok {np : Nat} {b : Blk} (hl : b.pages.length = np) (hw : BlkWf b) : BlkOk np (fillB b) := by
  have hlen : (fillB b).pages.length = np := by unfold fillB; simp only; rw [fill_len, hl]
  refine ⟨hlen, fun x hx => ?_, fun j hj hjn => ?_⟩
  · obtain ⟨i, hi⟩ := List.getElem?_of_mem hx
    unfold fillB at hi
    simp only at hi
    rw [fill_get] at hi
    cases h : b.pages[i]? with
    | none => rw [h] at hi; cases hi
    | some y =>
      rw [h] at hi
      cases y with
      | some y => cases hi; exact hw _ (List.mem_of_getElem? h)
      | none =>
        simp only at hi
        split at hi
        · cases hi; exact filled_len (by simp)
        · cases hi
  · have hn : nextF (fillB b) < (fillB b).pages.length := by omega
    have h1 : (fillB b).pages[nextF (fillB b)]? = some none := by
      have h3 := List.findIdx_getElem (p := fun p => Option.isNone p) (xs := (fillB b).pages) (w := hn)
      rw [List.getElem?_eq_getElem hn]
      have h4 : Option.isNone ((fillB b).pages[nextF (fillB b)]'hn) = true := h3
      cases hp : (fillB b).pages[nextF (fillB b)]'hn with
      | none => rfl
      | some x => rw [hp] at h4; cases h4
    have h2 : (b.pages.drop (nextF (fillB b))).any (·.isSome) = false := by
      have e : (fillB b).pages[nextF (fillB b)]? = (fillBelow b.pages)[nextF (fillB b)]? := rfl
      rw [e, fill_get] at h1
      cases h : b.pages[nextF (fillB b)]? with
      | none => rw [h] at h1; cases h1
      | some y =>
        rw [h] at h1
        cases y with
        | some y => cases h1
        | none =>
          simp only at h1
          cases hc : (b.pages.drop (nextF (fillB b))).any (·.isSome) with
          | true => rw [hc] at h1; simp at h1
          | false => rfl
    have h3 : b.pages[j]? = some none := by
      have hjl : j < b.pages.length := by omega
      rw [List.any_eq_false] at h2
      have h4 := h2 (b.pages[j]'hjl) (by rw [List.mem_iff_getElem?]; exact ⟨j - nextF (fillB b), by rw [List.getElem?_drop, show nextF (fillB b) + (j - nextF (fillB b)) = j by omega, List.getElem?_eq_getElem hjl]⟩)
      rw [List.getElem?_eq_getElem hjl]
      cases hp : b.pages[j]'hjl with
      | none => rfl
      | some x => rw [hp] at h4; simp at h4
    show (fillBelow b.pages)[j]? = some none
    rw [fill_get, h3]
    simp only
    rw [if_neg]
    intro h5
    rw [List.any_eq_true] at h5
    obtain ⟨x, hx, h6⟩ := h5
    rw [List.any_eq_false] at h2
    refine h2 x ?_ h6
    obtain ⟨i, hi⟩ := List.getElem?_of_mem hx
    rw [List.getElem?_drop] at hi
    rw [List.mem_iff_getElem?]
    exact ⟨j + i - nextF (fillB b), by rw [List.getElem?_drop, show nextF (fillB b) + (j + i - nextF (fillB b)) = j + i by omega]; exact hi⟩
/-! programmed pages, kept or not -/
def progsFrom (j p0 : Nat) : Nat → List Bs → List FL.Oper
  | _, [] => []
  | i, q :: r => ⟨j, p0 + i, some q⟩ :: progsFrom j p0 (i + 1) r
theorem progsFrom_cons (j p0 i : Nat) (q : Bs) (r : List Bs) : progsFrom j p0 i (q :: r) = ⟨j, p0 + i, some q⟩ :: progsFrom j p0 (i + 1) r := rfl
def progs (j p0 : Nat) (qs : List Bs) : List FL.Oper := progsFrom j p0 0 qs
theorem progsFrom_append (j p0 : Nat) : ∀ (a b : List Bs) (i : Nat), progsFrom j p0 i (a ++ b) = progsFrom j p0 i a ++ progsFrom j p0 (i + a.length) b := by
  intro a
  induction a with
  | nil => intro b i; rfl
  | cons x r ih => intro b i; rw [List.cons_append, List.length_cons, progsFrom_cons, progsFrom_cons, ih, List.cons_append, show i + (r.length + 1) = i + 1 + r.length by omega]
theorem progsFrom_shift (j p0 : Nat) : ∀ (a : List Bs) (i k : Nat), progsFrom j p0 (k + i) a = progsFrom j (p0 + k) i a := by
  intro a
  induction a with
  | nil => intro i k; rfl
  | cons x r ih => intro i k; rw [progsFrom_cons, progsFrom_cons, show k + i + 1 = k + (i + 1) by omega, ih, show p0 + (k + i) = p0 + k + i by omega]
theorem progs_append (j p0 : Nat) (a b : List Bs) : progs j p0 (a ++ b) = progs j p0 a ++ progs j (p0 + a.length) b := by
  unfold progs
  rw [progsFrom_append, show 0 + a.length = a.length + 0 by omega, progsFrom_shift]
theorem progs_block {j p0 : Nat} {qs : List Bs} {o : FL.Oper} (h : o ∈ progs j p0 qs) : o.block = j := by
  have go : ∀ (qs : List Bs) (i : Nat), o ∈ progsFrom j p0 i qs → o.block = j := by
    intro qs
    induction qs with
    | nil => intro i h; cases h
    | cons q r ih => intro i h; unfold progsFrom at h; rcases List.mem_cons.1 h with h | h
                     · rw [h]
                     · exact ih _ h
  exact go qs 0 h
theorem outc_progs {j p0 : Nat} : ∀ (qs : List Bs) (i : Nat) (b y : Blk), (∀ q ∈ qs, q.length = 512) → BlkWf b → Outc b (progsFrom j p0 i qs) y →
    y.pages.length = b.pages.length ∧ BlkWf y ∧ (∀ k : Nat, k < p0 + i ∨ p0 + i + qs.length ≤ k → y.pages[k]? = b.pages[k]?) ∧
      (∀ (t : Nat) (q : Bs), qs[t]? = some q → y.pages[p0 + i + t]? = b.pages[p0 + i + t]? ∨ y.pages[p0 + i + t]? = some (some q) ∨ ∃ m, m < 512 ∧ y.pages[p0 + i + t]? = some (some (filled (q.take m)))) := by
  intro qs
  induction qs with
  | nil =>
    intro i b y hq hw h
    unfold progsFrom at h
    cases h
    exact ⟨rfl, hw, fun _ _ => rfl, fun t q ht => by simp at ht⟩
  | cons q r ih =>
    intro i b y hq hw h
    unfold progsFrom at h
    have hq0 := hq q (List.mem_cons_self ..)
    have hqr := fun x hx => hq x (List.mem_cons_of_mem _ hx)
    cases h with
    | skip hd h1 =>
      obtain ⟨g1, g2, g3, g4⟩ := ih (i + 1) b y hqr hw h1
      refine ⟨g1, g2, fun k hk => g3 k (by rw [List.length_cons] at hk; omega), fun t x ht => ?_⟩
      cases t with
      | zero => left; exact g3 _ (by omega)
      | succ t =>
        have := g4 t x ht
        rw [show p0 + (i + 1) + t = p0 + i + (t + 1) by omega] at this
        exact this
    | @put _ _ _ x _ m hd hm1 hm2 h1 =>
      cases hd
      have hfl : (filled (q.take m)).length = 512 := by unfold filled; rw [List.length_append, List.length_replicate, List.length_take]; omega
      obtain ⟨g1, g2, g3, g4⟩ := ih (i + 1) _ y hqr (fun z hz => by
        unfold setPage at hz
        rcases List.mem_or_eq_of_mem_set hz with h2 | h2
        · exact hw z h2
        · cases h2; exact hfl) h1
      have hset : ∀ k : Nat, (setPage b (p0 + i) (some (filled (q.take m)))).pages[k]? = (b.pages.set (p0 + i) (some (filled (q.take m))))[k]? := fun k => rfl
      refine ⟨by rw [g1]; unfold setPage; simp, g2, fun k hk => ?_, fun t x ht => ?_⟩
      · rw [List.length_cons] at hk
        rw [g3 k (by omega), hset, List.getElem?_set_ne (by omega)]
      · cases t with
        | zero =>
          cases ht
          rw [Nat.add_zero, g3 _ (by omega), hset]
          by_cases hp : p0 + i < b.pages.length
          · rw [List.getElem?_set_self hp]
            right
            by_cases hm : m < 512
            · exact .inr ⟨m, hm, rfl⟩
            · left
              rw [List.take_of_length_le (by omega), filled_full hq0]
          · left
            rw [List.getElem?_eq_none_iff.2 (by rw [List.length_set]; omega), List.getElem?_eq_none_iff.2 (by omega)]
        | succ t =>
          have := g4 t x ht
          rw [show p0 + (i + 1) + t = p0 + i + (t + 1) by omega, hset, List.getElem?_set_ne (by omega)] at this
          exact this
    | erase hd _ => cases hd
    | stop hd => cases hd
theorem mask_of : ∀ (Q : List Pg) (X : List (Option Pg)), X.length = Q.length → (∀ (t : Nat) (p : Pg), Q[t]? = some p → X[t]? = some none ∨ X[t]? = some (some p)) → ∃ m : List Bool, m.length = Q.length ∧ X = maskP Q m := by
  intro Q
  induction Q with
  | nil => intro X hl _; exact ⟨[], rfl, by rw [List.eq_nil_of_length_eq_zero hl]; rfl⟩
  | cons p r ih =>
    intro X hl h
    cases X with
    | nil => simp at hl
    | cons x X =>
      obtain ⟨m, h1, h2⟩ := ih X (by simpa using hl) (fun t q hq => h (t + 1) q hq)
      have h0 := h 0 p rfl
      simp only [List.getElem?_cons_zero, Option.some.injEq] at h0
      rcases h0 with h0 | h0
      · exact ⟨false :: m, by simp [h1], by subst h0; rw [h2]; rfl⟩
      · exact ⟨true :: m, by simp [h1], by subst h0; rw [h2]; rfl⟩
/-! a block and what is pending on it -/
structure BlkSt (np j : Nat) (bd bn : Blk) (ops : List FL.Oper) (s : Nat) (old : Option (Nat × List Ent)) (e0 ep : List Ent) (pt : List Pg) (al : Bool) : Prop where
  ex : ∃ (b0 : Blk) (c0 : List (Option Pg)) (r0 : Nat) (qs : List Bs),
    (match old with | none => b0 = bd | some o => b0 = eraseB bd ∧ e0 = [] ∧ BlkAt np bd o.1 o.2) ∧
    ops = (match old with | none => [] | some _ => [⟨j, 0, none⟩]) ++ progs j (nextF b0) qs ∧
    b0.pages.map readPage = c0 ++ List.replicate r0 none ∧ Body s c0 e0 ∧ (al = true ∨ qs ≠ [] → c0.length = nextF b0) ∧
    nextF b0 + qs.length ≤ np ∧ (∀ q ∈ qs, q.length = 512) ∧ qs.map (fun q => readPage (some q)) = (ep.flatMap (pgsOf s) ++ pt).map some ∧
    bn.pages = b0.pages.take (nextF b0) ++ (qs.map some ++ List.replicate (np - nextF b0 - qs.length) none)
  okd : BlkOk np bd
  ew : ∀ e ∈ ep, EW e ∧ stamp s e = e
  part : pt = [] ∨ ∃ e t, EW e ∧ t < (pgsOf s e).length ∧ pt = (pgsOf s e).take t
theorem eraseB_at (np : Nat) {b : Blk} (h : BlkOk np b) (s : Nat) : BlkAt np (eraseB b) s [] ∧ nextF (eraseB b) = 0 := by
  obtain ⟨h1, h2⟩ := erase_ok h
  exact ⟨BlkAt.none_ h1 (fun x hx => by obtain ⟨i, hi⟩ := List.getElem?_of_mem hx; exact h1.cells_none (by omega) hi) s, h2⟩
theorem map_stamp {s : Nat} : ∀ {l : List Ent}, (∀ e ∈ l, stamp s e = e) → l.map (stamp s) = l
  | [], _ => rfl
  | e :: r, h => by rw [List.map_cons, h e (List.mem_cons_self ..), map_stamp (fun x hx => h x (List.mem_cons_of_mem _ hx))]
section
variable {np j : Nat} {bd bn : Blk} {ops : List FL.Oper} {s : Nat} {old : Option (Nat × List Ent)} {e0 ep : List Ent} {pt : List Pg} {al : Bool}
/-- the base of the block as it is since the last erase -/
theorem BlkSt.base (h : BlkSt np j bd bn ops s old e0 ep pt al) : ∃ b0 c0 r0 qs, BlkOk np b0 ∧
    (match old with | none => b0 = bd | some o => b0 = eraseB bd ∧ e0 = [] ∧ BlkAt np bd o.1 o.2) ∧
    ops = (match old with | none => [] | some _ => [⟨j, 0, none⟩]) ++ progs j (nextF b0) qs ∧
    b0.pages.map readPage = c0 ++ List.replicate r0 none ∧ Body s c0 e0 ∧ (al = true ∨ qs ≠ [] → c0.length = nextF b0) ∧
    nextF b0 + qs.length ≤ np ∧ (∀ q ∈ qs, q.length = 512) ∧ qs.map (fun q => readPage (some q)) = (ep.flatMap (pgsOf s) ++ pt).map some ∧
    bn.pages = b0.pages.take (nextF b0) ++ (qs.map some ++ List.replicate (np - nextF b0 - qs.length) none) := by
  obtain ⟨b0, c0, r0, qs, h1, h2⟩ := h.ex
  refine ⟨b0, c0, r0, qs, ?_, h1, h2⟩
  cases old with
  | none => rw [h1]; exact h.okd
  | some o => rw [h1.1]; exact (erase_ok h.okd).1
/-- cells of the pending pages, all or some of them -/
theorem BlkSt.masked (h : BlkSt np j bd bn ops s old e0 ep pt al) (m : List Bool) (hm : m.length = (ep.flatMap (pgsOf s) ++ pt).length) : ∃ fs : List Ent, fs.Sublist ep ∧ Body s (maskP (ep.flatMap (pgsOf s) ++ pt) m) fs := by
  rw [maskP_append]
  rw [List.length_append] at hm
  obtain ⟨fs, h1, h2⟩ := Body.masked (s := s) ep (fun e he => (h.ew e he).1) (m.take (ep.flatMap (pgsOf s)).length) (by rw [List.length_take]; omega)
  rw [map_stamp (fun e he => (h.ew e (h1.subset he)).2)] at h2
  refine ⟨fs, h1, ?_⟩
  have h3 : Body s (maskP pt (m.drop (ep.flatMap (pgsOf s)).length)) [] := by
    rcases h.part with hp | ⟨e, t, he, ht, hp⟩
    · rw [hp]; unfold maskP; rw [List.zipWith_nil_left]; exact .nil
    · have hl : pt.length = t := by rw [hp, List.length_take]; omega
      have := Body.part (s := s) he ht (m.drop (ep.flatMap (pgsOf s)).length) (by rw [List.length_drop]; omega)
      rw [hp]
      exact this
  have := h2.append h3
  rwa [List.append_nil] at this
theorem cell_len (n : Nat) : (List.replicate n (none : Option Pg)).length = n := List.length_replicate
/-- what the block holds now -/
theorem BlkSt.now (h : BlkSt np j bd bn ops s old e0 ep pt al) : BlkAt np bn s (e0 ++ ep) ∧
    (pt = [] → (al = true ∨ ops.length > (if old.isSome then 1 else 0)) → ∃ c r, bn.pages.map readPage = c ++ List.replicate r none ∧ Body s c (e0 ++ ep) ∧ c.length = nextF bn) := by
  obtain ⟨b0, c0, r0, qs, hok, h1, h2, h3, h4, h5, h6, h7, h8, h9⟩ := h.base
  have hql : qs.length = (ep.flatMap (pgsOf s) ++ pt).length := by have := congrArg List.length h8; rwa [List.length_map, List.length_map] at this
  have hbl := hok.len
  have hnb := nextF_le b0
  have hlen : bn.pages.length = np := by rw [h9]; simp only [List.length_append, List.length_take, List.length_map, List.length_replicate]; omega
  have hget : ∀ k : Nat, bn.pages[k]? = if k < nextF b0 then b0.pages[k]? else if k < nextF b0 + qs.length then (qs[k - nextF b0]?).map some else if k < np then some none else none := fun k => by
    rw [h9]
    by_cases k1 : k < nextF b0
    · rw [if_pos k1, List.getElem?_append_left (by rw [List.length_take]; omega), List.getElem?_take, if_pos k1]
    · rw [if_neg k1, List.getElem?_append_right (by rw [List.length_take]; omega), List.length_take, Nat.min_eq_left (by omega)]
      by_cases k2 : k < nextF b0 + qs.length
      · rw [if_pos k2, List.getElem?_append_left (by rw [List.length_map]; omega), List.getElem?_map]
      · rw [if_neg k2, List.getElem?_append_right (by rw [List.length_map]; omega), List.length_map, List.getElem?_replicate]
        by_cases k3 : k < np
        · rw [if_pos k3, if_pos (by omega)]
        · rw [if_neg k3, if_neg (by omega)]
  have hnext : nextF bn = nextF b0 + qs.length := by
    refine next_eq (by rw [hlen]; exact h6) (fun k hk => ?_) (fun hk => ?_)
    · rw [hget]
      by_cases k1 : k < nextF b0
      · rw [if_pos k1]; exact next_some k1
      · rw [if_neg k1, if_pos hk]
        exact ⟨qs[k - nextF b0]'(by omega), by rw [List.getElem?_eq_getElem (by omega)]; rfl⟩
    · rw [hget, if_neg (by omega), if_neg (by omega), if_pos (by omega)]
  have hbok : BlkOk np bn := by
    refine ⟨hlen, fun x hx => ?_, fun k hk hkn => ?_⟩
    · obtain ⟨k, hk⟩ := List.getElem?_of_mem hx
      rw [hget] at hk
      split at hk
      · exact hok.wf x (List.mem_of_getElem? hk)
      · split at hk
        · rw [Option.map_eq_some_iff] at hk
          obtain ⟨q, hq, e⟩ := hk
          cases e
          exact h7 _ (List.mem_of_getElem? hq)
        · split at hk <;> cases hk
    · rw [hget, if_neg (by omega), if_neg (by omega), if_pos hkn]
  by_cases hq : qs = []
  · subst hq
    have hp2 : bn.pages = b0.pages := by
      refine List.ext_getElem? (fun k => ?_)
      rw [hget]
      simp only [List.length_nil, Nat.add_zero]
      by_cases k1 : k < nextF b0
      · rw [if_pos k1]
      · rw [if_neg k1, if_neg k1]
        by_cases k3 : k < np
        · rw [if_pos k3, hok.rest k (by omega) k3]
        · rw [if_neg k3, List.getElem?_eq_none_iff.2 (by omega)]
    have hep : ep = [] := by
      cases ep with
      | nil => rfl
      | cons e r =>
        have hp := pgsOf_pos (s := s) (h.ew e (List.mem_cons_self ..)).1
        rw [List.flatMap_cons, List.length_append, List.length_append] at hql
        simp only [List.length_nil] at hql
        omega
    rw [hep, List.append_nil]
    have hb : ∃ c r, bn.pages.map readPage = c ++ List.replicate r none ∧ Body s c e0 := ⟨c0, r0, by rw [hp2]; exact h3, h4⟩
    refine ⟨⟨hbok, hb⟩, fun _ ha => ⟨c0, r0, by rw [hp2]; exact h3, h4, ?_⟩⟩
    rcases ha with ha | ha
    · rw [h5 (.inl ha), hnext]; simp
    · exfalso
      rw [h2] at ha
      cases old <;> simp [progs, progsFrom] at ha
  · have hc0 := h5 (.inr hq)
    have hr0 : r0 = np - nextF b0 := by
      have := congrArg List.length h3
      rw [List.length_map, List.length_append, List.length_replicate, hbl, hc0] at this
      omega
    have hcells : bn.pages.map readPage = (c0 ++ (ep.flatMap (pgsOf s) ++ pt).map some) ++ List.replicate (np - nextF b0 - qs.length) none := by
      rw [← h8, h9, List.map_append, List.map_append, List.map_map, List.map_take, h3, List.append_assoc, List.take_left' hc0, List.map_replicate, readPage_none]
      rfl
    obtain ⟨fs, g1, g2⟩ : ∃ fs : List Ent, fs = ep ∧ Body s ((ep.flatMap (pgsOf s) ++ pt).map some) fs := by
      have hb1 : ∀ l : List Ent, (∀ e ∈ l, EW e ∧ stamp s e = e) → Body s ((l.flatMap (pgsOf s)).map some) l := by
        intro l
        induction l with
        | nil => intro _; exact .nil
        | cons e r ih =>
          intro hl
          have he := hl e (List.mem_cons_self ..)
          rw [List.flatMap_cons, List.map_append]
          have := Body.whole (s := s) e he.1 (ih (fun x hx => hl x (List.mem_cons_of_mem _ hx)))
          rwa [he.2] at this
      have hb2 : Body s (pt.map some) [] := by
        rcases h.part with hp | ⟨e, t, he, ht, hp⟩
        · rw [hp]; exact .nil
        · have := Body.part (s := s) he ht (List.replicate t true) (by simp)
          rw [maskP_all _ _ (by rw [List.length_replicate, List.length_take]; omega) (fun b hb => List.eq_of_mem_replicate hb)] at this
          rw [hp]
          exact this
      have := (hb1 ep h.ew).append hb2
      rw [List.append_nil, ← List.map_append] at this
      exact ⟨ep, rfl, this⟩
    subst g1
    refine ⟨⟨hbok, _, _, hcells, h4.append g2⟩, fun _ _ => ⟨_, _, hcells, h4.append g2, ?_⟩⟩
    rw [List.length_append, List.length_map, ← hql, hc0, hnext]
theorem BlkSt.next (h : BlkSt np j bd bn ops s old e0 ep pt al) : BlkOk np bn := h.now.1.ok
/-- what a crash may leave -/
theorem BlkSt.crash (h : BlkSt np j bd bn ops s old e0 ep pt al) {y : Blk} (hy : Outc bd ops y) : (∃ o, old = some o ∧ y = bd ∧ BlkAt np (fillB y) o.1 o.2) ∨ ∃ fs : List Ent, fs.Sublist ep ∧ BlkAt np (fillB y) s (e0 ++ fs) ∧ (old = none → ops = [] → y = bd) ∧ (old.isSome = true → ops.length = 1 → nextF (fillB y) = 0) := by
  obtain ⟨b0, c0, r0, qs, hok, h1, h2, h3, h4, h5, h6, h7, h8, h9⟩ := h.base
  have hql : qs.length = (ep.flatMap (pgsOf s) ++ pt).length := by have := congrArg List.length h8; rwa [List.length_map, List.length_map] at this
  have hbl := hok.len
  have hnb := nextF_le b0
  have key : ∀ {y : Blk}, Outc b0 (progs j (nextF b0) qs) y → ∃ fs : List Ent, fs.Sublist ep ∧ BlkAt np (fillB y) s (e0 ++ fs) ∧ (qs = [] → y = b0) := fun {y} hy => by
    obtain ⟨g1, g2, g3, g4⟩ := outc_progs qs 0 b0 y h7 hok.wf hy
    simp only [Nat.add_zero] at g3 g4
    have hfo : BlkOk np (fillB y) := fill_ok (by rw [g1, hbl]) g2
    by_cases hq : qs = []
    · subst hq
      have : y = b0 := by
        unfold progs progsFrom at hy
        cases hy
        rfl
      subst this
      exact ⟨[], List.nil_sublist _, ⟨hfo, c0, r0, by rw [fill_cells]; exact h3, by rw [List.append_nil]; exact h4⟩, fun _ => rfl⟩
    · have hc0 := h5 (.inr hq)
      have hr0 : r0 = np - nextF b0 := by
        have := congrArg List.length h3
        rw [List.length_map, List.length_append, List.length_replicate, hbl, hc0] at this
        omega
      have hrest : ∀ k : Nat, nextF b0 ≤ k → k < np → b0.pages[k]? = some none := fun k k1 k2 => hok.rest k k1 k2
      obtain ⟨m, hm1, hm2⟩ := mask_of (ep.flatMap (pgsOf s) ++ pt) (((y.pages.map readPage).drop (nextF b0)).take qs.length) (by rw [List.length_take, List.length_drop, List.length_map, g1, hbl]; omega) (fun t p hp => by
        have ht : t < qs.length := by rw [hql]; exact (List.getElem?_eq_some_iff.1 hp).1
        rw [List.getElem?_take, if_pos ht, List.getElem?_drop, List.getElem?_map]
        have hq1 : qs[t]? = some (qs[t]'ht) := List.getElem?_eq_getElem ht
        have hqp : readPage (some (qs[t]'ht)) = some p := by
          have := congrArg (fun l => l[t]?) h8
          simp only [List.getElem?_map, hq1, hp, Option.map_some, Option.some.injEq] at this
          exact this
        rcases g4 t _ hq1 with h10 | h10 | ⟨k, hk, h10⟩
        · left
          rw [h10, hrest _ (by omega) (by omega)]
          simp [readPage_none]
        · right
          rw [h10]
          simp [hqp]
        · left
          rw [h10]
          simp only [Option.map_some, Option.some.injEq]
          exact read_torn hk)
      have hcells : y.pages.map readPage = (c0 ++ maskP (ep.flatMap (pgsOf s) ++ pt) m) ++ List.replicate (np - nextF b0 - qs.length) none := by
        rw [← hm2]
        refine List.ext_getElem? (fun k => ?_)
        have hlm : (((y.pages.map readPage).drop (nextF b0)).take qs.length).length = qs.length := by rw [List.length_take, List.length_drop, List.length_map, g1, hbl]; omega
        by_cases k1 : k < nextF b0
        · rw [List.append_assoc, List.getElem?_append_left (by omega), List.getElem?_map, g3 k (.inl k1), ← List.getElem?_map, h3, List.getElem?_append_left (by omega)]
        · by_cases k2 : k < nextF b0 + qs.length
          · rw [List.append_assoc, List.getElem?_append_right (by omega), List.getElem?_append_left (by omega), List.getElem?_take, if_pos (by omega), List.getElem?_drop, hc0, show nextF b0 + (k - nextF b0) = k by omega]
          · rw [List.getElem?_append_right (by rw [List.length_append, hlm]; omega), List.getElem?_replicate, List.length_append, hlm, List.getElem?_map, g3 k (.inr (by omega))]
            by_cases k3 : k < np
            · rw [if_pos (by omega), hrest k (by omega) k3]; simp [readPage_none]
            · rw [if_neg (by omega), List.getElem?_eq_none_iff.2 (by omega)]; rfl
      obtain ⟨fs, f1, f2⟩ := h.masked m hm1
      exact ⟨fs, f1, ⟨hfo, _, _, by rw [fill_cells]; exact hcells, h4.append f2⟩, fun h => absurd h hq⟩
  cases old with
  | none =>
    simp only at h1 h2
    subst h1
    rw [List.nil_append] at h2
    rw [h2] at hy
    obtain ⟨fs, f1, f2, f3⟩ := key hy
    refine .inr ⟨fs, f1, f2, fun _ ho => f3 ?_, fun h => (by cases h)⟩
    rw [h2] at ho
    cases qs with
    | nil => rfl
    | cons q r => unfold progs progsFrom at ho; cases ho
  | some o =>
    simp only at h1 h2
    obtain ⟨hb0, he0, hbo⟩ := h1
    rw [h2] at hy
    cases hy with
    | skip hd _ => cases hd
    | put m hd _ _ _ => cases hd
    | stop hd => exact .inl ⟨o, rfl, rfl, ⟨fill_ok h.okd.len h.okd.wf, by obtain ⟨c, r, hc, hb⟩ := hbo.cells; exact ⟨c, r, by rw [fill_cells]; exact hc, hb⟩⟩⟩
    | erase hd hy =>
      rw [← hb0] at hy
      obtain ⟨fs, f1, f2, f3⟩ := key hy
      refine .inr ⟨fs, f1, f2, fun h => (by cases h), fun _ ho => ?_⟩
      have hq : qs = [] := by
        rw [h2, List.length_append] at ho
        cases qs with
        | nil => rfl
        | cons q r => simp [progs, progsFrom] at ho
      rw [f3 hq, hb0]
      have hz := (erase_ok h.okd).2
      refine next_eq (Nat.zero_le _) (fun k hk => absurd hk (by omega)) (fun hk => ?_)
      show (fillBelow (eraseB bd).pages)[0]? = some none
      have hall : ∀ x ∈ (eraseB bd).pages, x = none := fun x hx => by unfold eraseB at hx; exact List.eq_of_mem_replicate hx
      have hk2 : 0 < (eraseB bd).pages.length := by unfold fillB at hk; simp only at hk; rw [fill_len] at hk; exact hk
      rw [fill_get, List.getElem?_eq_getElem hk2, hall _ (List.getElem_mem hk2)]
      simp only
      rw [if_neg]
      intro h5
      rw [List.any_eq_true] at h5
      obtain ⟨x, hx, h6⟩ := h5
      rw [hall x (List.mem_of_mem_drop hx)] at h6
      cases h6
end
end Go.Proofs.Ytepigkjgjlibcaa
