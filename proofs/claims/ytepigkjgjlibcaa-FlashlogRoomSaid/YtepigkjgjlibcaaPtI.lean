/- Chapter 23, plain: writing an entry, with and without cleaning a block; with and without power. -/
import Derived.Test.YtepigkjgjlibcaaPtH
namespace Go.Proofs.Ytepigkjgjlibcaa
open Go.RowKit Go.Deep Go.Proofs.Ytepigkjgjlibcaa.FL
def On (D : Dev) : Prop := D.off = false ∧ D.planned = false
theorem programD_code {D : Dev} {o p : Nat} {b : Blk} (hb : D.now[o]? = some b) (hn : nextF b = p) (hp : p < D.npages) {x : Bs} (hx : x.length ≤ 512) : ((programD D o p x).1 = 0 ∨ (programD D o p x).1 = 11) ∧ (On D → (programD D o p x).1 = 0 ∧ On (programD D o p x).2) := by
  cases hpw : (powerF D).1 with
  | false =>
    rw [programD_down hb hp hx hn hpw]
    exact ⟨.inr rfl, fun ho => by rw [power_on ho.1 ho.2] at hpw; cases hpw⟩
  | true =>
    rw [programD_ok hb hp hx hn hpw]
    exact ⟨.inl rfl, fun ho => ⟨rfl, by simp only; rw [power_on ho.1 ho.2]; exact ho⟩⟩
theorem progPages_code {e : Ent} {seg o n : Nat} : ∀ (ps : List Bs) (i next : Nat) (D : Dev) (b : Blk), DevOk D → D.now[o]? = some b → nextF b = next → next + ps.length ≤ D.npages → (∀ j x, ps[j]? = some x → (pageF e seg (i + j) n x).length = 512) →
    ∀ {c : Nat} {D' : Dev} {nx : Nat}, progPages e seg o n ps i next D = (c, D', nx) → (c = 0 ∨ c = 11) ∧ (On D → c = 0 ∧ On D') := by
  intro ps
  induction ps with
  | nil =>
    intro i next D b hD hb hn hr hl c D' nx hp
    unfold progPages at hp
    cases hp
    exact ⟨.inl rfl, fun h => ⟨rfl, h⟩⟩
  | cons x r ih =>
    intro i next D b hD hb hn hroom hl c D' nx hr
    rw [progPages_cons] at hr
    have hx0 := hl 0 x rfl
    rw [Nat.add_zero] at hx0
    rw [List.length_cons] at hroom
    have hcode := programD_code hb hn (by omega) (x := pageF e seg i n x) (by omega)
    rcases hp : programD D o next (pageF e seg i n x) with ⟨cd, D1⟩
    rw [hp] at hr hcode
    obtain ⟨h1, h2, h3, h4⟩ := program_cases hD hb (by omega) hp
    have hbo := hD.now b (List.mem_of_getElem? hb)
    have hob := (List.getElem?_eq_some_iff.1 hb).1
    cases cd with
    | succ cd =>
      cases hr
      refine ⟨hcode.1, fun ho => ?_⟩
      have := (hcode.2 ho).1
      cases this
    | zero =>
      simp only at hr
      rcases h4 with ⟨hc, -⟩ | ⟨-, h5, h6, h7, h8⟩
      · exact absurd rfl hc
      rw [filled_full hx0] at h7
      have hput := hbo.put (x := pageF e seg i n x) (by rw [hn]; exact h6) hx0
      rw [hn] at hput
      have g := ih (i + 1) (next + 1) D1 _ h1 (by rw [h7]; exact List.getElem?_set_self hob) hput.2 (by rw [h2]; omega) (fun j y hy => by have := hl (j + 1) y hy; rw [show i + (j + 1) = i + 1 + j by omega] at this; exact this) hr
      exact ⟨g.1, fun ho => g.2 (hcode.2 ho).2⟩
theorem programF_code {L : Log} (h : LogInv L) {o : Nat} {b : LB} (ho : L.open_ = (o : Int)) (hb : L.blocks[o]? = some b) {e : Ent} (he : EArg e) (hroom : b.next + (partsF e.key e.value).length ≤ L.d.npages) :
    ((programF L e).1 = 0 ∨ (programF L e).1 = 11) ∧ (On L.d → (programF L e).1 = 0 ∧ On (programF L e).2.d) ∧ ∃ b', (programF L e).2.blocks[o]? = some b' ∧ b'.segment = b.segment ∧ ((programF L e).1 = 0 → b'.next = b.next + (partsF e.key e.value).length) := by
  obtain ⟨p, hp, hn⟩ := h.blk hb
  have hbm := List.mem_of_getElem? hb
  have hob := (List.getElem?_eq_some_iff.1 hb).1
  have hseg := (h.wf.ok b hbm).1
  have hparts := he.parts
  have hlens : ∀ j x, (partsF e.key e.value)[j]? = some x → (pageF e b.segment (0 + j) (partsF e.key e.value).length x).length = 512 := fun j x hx => by
    have h1 := partsF_le x (List.mem_of_getElem? hx)
    have h2 := (List.getElem?_eq_some_iff.1 hx).1
    exact pageF_len (by
      have := page_enc (kind := e.kind) (number := e.number) (seg := b.segment) (i := 0 + j) (n := (partsF e.key e.value).length) (x := x) he.num hseg (by omega) (by omega) h1.1
      omega)
  rcases hr : progPages e b.segment o (partsF e.key e.value).length (partsF e.key e.value) 0 b.next L.d with ⟨c, D', nx⟩
  have hcd := progPages_code _ 0 b.next L.d p h.dev hp hn.symm hroom hlens hr
  obtain ⟨g1, g2, g3, -, g5, g6, g7, -⟩ := progPages_cases _ 0 b.next L.d p h.dev hp hn.symm hlens hr
  have hpf := programF_at ho hb e
  rw [hr] at hpf
  cases c with
  | zero =>
    rw [hpf]
    exact ⟨hcd.1, hcd.2, _, List.getElem?_set_self hob, rfl, fun _ => g7 rfl⟩
  | succ c =>
    rw [hpf]
    exact ⟨hcd.1, fun ho => absurd (hcd.2 ho).1 (Nat.succ_ne_zero c), _, List.getElem?_set_self hob, rfl, fun h => absurd h (Nat.succ_ne_zero c)⟩
/-- no page is newer than the log knows -/
def Cap (L : Log) : Prop := ∀ b ∈ L.d.now, ∀ p, some p ∈ b.pages.map readPage → p.number < L.number ∧ p.segment < L.segment
theorem programF_cap {L : Log} (h : LogInv L) {o : Nat} {b : LB} (ho : L.open_ = (o : Int)) (hb : L.blocks[o]? = some b) {e : Ent} (he : EArg e) (hen : e.number < L.number) (hbs : b.segment < L.segment) (hc : Cap L) : Cap (programF L e).2 := by
  obtain ⟨p, hp, hn⟩ := h.blk hb
  have hbm := List.mem_of_getElem? hb
  have hseg := (h.wf.ok b hbm).1
  have hparts := he.parts
  have hlens : ∀ j x, (partsF e.key e.value)[j]? = some x → (pageF e b.segment (0 + j) (partsF e.key e.value).length x).length = 512 := fun j x hx => by
    have h1 := partsF_le x (List.mem_of_getElem? hx)
    have h2 := (List.getElem?_eq_some_iff.1 hx).1
    exact pageF_len (by
      have := page_enc (kind := e.kind) (number := e.number) (seg := b.segment) (i := 0 + j) (n := (partsF e.key e.value).length) (x := x) he.num hseg (by omega) (by omega) h1.1
      omega)
  rcases hr : progPages e b.segment o (partsF e.key e.value).length (partsF e.key e.value) 0 b.next L.d with ⟨c, D', nx⟩
  obtain ⟨g1, g2, g3, -, g5, g6, g7, p', g8, g9, g10, -, g12, g13, g14⟩ := progPages_cases _ 0 b.next L.d p h.dev hp hn.symm hlens hr
  have hout := programF_out h ho hb he
  have hd : (programF L e).2.d = D' := by
    have hpf := programF_at ho hb e
    rw [hr] at hpf
    cases c with
    | zero => simp only at hpf; rw [hpf]
    | succ c => simp only at hpf; rw [hpf]
  intro bl hbl q hq
  rw [hout.number, hout.segment]
  rw [hd, g8] at hbl
  rcases mem_set_or hbl with h1 | h1
  · exact hc bl h1 q hq
  · subst h1
    obtain ⟨k, hk⟩ := List.getElem?_of_mem hq
    by_cases k1 : k < b.next
    · rw [List.getElem?_map, g12 k k1, ← List.getElem?_map] at hk
      exact hc p (List.mem_of_getElem? hp) q (List.mem_of_getElem? hk)
    · by_cases k2 : k < nx
      · obtain ⟨x, hx⟩ : ∃ x, (partsF e.key e.value)[k - b.next]? = some x := ⟨_, List.getElem?_eq_getElem (by omega)⟩
        have h2 := g13 (k - b.next) x hx (by omega)
        rw [show b.next + (k - b.next) = k by omega, Nat.zero_add] at h2
        rw [List.getElem?_map, h2, Option.map_some, Option.some.injEq] at hk
        have h3 := (List.getElem?_eq_some_iff.1 hx).1
        have h4 := read_page (e := e) (seg := b.segment) (i := k - b.next) (n := (partsF e.key e.value).length) (x := x) he hseg h3 (by omega) (partsF_le x (List.mem_of_getElem? hx)).1
        have h5 : readPage (some (pageF e b.segment (k - b.next) (partsF e.key e.value).length x)) = some ⟨e.kind, e.number, b.segment, k - b.next, (partsF e.key e.value).length, x⟩ := h4
        rw [h5] at hk
        cases hk
        exact ⟨hen, hbs⟩
      · have := g9.cells_none (by omega) hk
        cases this
structure CapTo (L L' : Log) : Prop where
  cap : Cap L → Cap L'
  num : L'.number ≤ L.number + 1
  seg : L'.segment ≤ L.segment + 1
/-- entries that may be written one behind the other -/
def Chain (s n : Nat) : List Ent → List Ent → Prop
  | _, [] => True
  | T, e :: r => Behind T s n e ∧ Chain s n (T ++ [stamp s e]) r
def partsSum (l : List Ent) : Nat := (l.map fun e => (partsF e.key e.value).length).sum
structure AllOut (L L' : Log) (o : Nat) (s : Nat) : Prop where
  opn : L'.open_ = (o : Int)
  number : L'.number = L.number
  segment : L'.segment = L.segment
  cleaned : L'.cleaned = L.cleaned
  np : L'.d.npages = L.d.npages
  len : L'.blocks.length = L.blocks.length
  other : ∀ i, i ≠ o → L'.blocks[i]? = L.blocks[i]?
  blk : ∃ b', L'.blocks[o]? = some b' ∧ b'.segment = s
theorem Core.all {TD : List Ent} {er : Option (Nat × Nat)} {o s : Nat} : ∀ (es : List Ent) {L : Log} {P : List Ent} {b : LB}, Core L TD P er [] → L.open_ = (o : Int) → L.blocks[o]? = some b → b.segment = s → b.next + partsSum es ≤ L.d.npages → Chain s L.number (TD ++ P) es →
    ∀ {c : Nat} {L' : Log}, progAll es L = (c, L') → AllOut L L' o s ∧
      ((c = 0 ∧ Core L' TD (P ++ es.map (stamp s)) er [] ∧ L'.broken = L.broken ∧ (On L.d → On L'.d) ∧ (∃ b', L'.blocks[o]? = some b' ∧ b'.next = b.next + partsSum es) ∧ (Cap L → Cap L')) ∨
       (c = 11 ∧ L'.broken = true ∧ ¬ On L.d ∧ ∃ (pt : List Pg) (es' : List Ent), es'.Sublist es ∧ Core L' TD (P ++ es'.map (stamp s)) er pt)) := by
  intro es
  induction es with
  | nil =>
    intro L P b h ho hb hs hroom hch c L' hr
    cases hr
    refine ⟨⟨ho, rfl, rfl, rfl, rfl, rfl, fun _ _ => rfl, b, hb, hs⟩, .inl ⟨rfl, ?_, rfl, id, ⟨b, hb, rfl⟩, id⟩⟩
    rw [List.map_nil, List.append_nil]
    exact h
  | cons e r ih =>
    intro L P b h ho hb hs hroom hch c L' hr
    subst hs
    have hroom2 : b.next + (partsF e.key e.value).length + partsSum r ≤ L.d.npages := by unfold partsSum at hroom ⊢; rw [List.map_cons, List.sum_cons] at hroom; omega
    have hbe : Behind (TD ++ P) b.segment L.number e := hch.1
    have hcore := h.program ho hb hbe
    have hcode := programF_code h.inv ho hb hbe.ew.arg (by omega)
    have hout := programF_out h.inv ho hb hbe.ew.arg
    have hcap := programF_cap h.inv ho hb hbe.ew.arg hbe.num (h.bseg b (List.mem_of_getElem? hb))
    rw [progAll_cons] at hr
    rcases hp : programF L e with ⟨c1, L1⟩
    rw [hp] at hr hcore hcode hout hcap
    obtain ⟨hc1, hc2, b1, hb1, hbs1, hbn1⟩ := hcode
    cases c1 with
    | succ c1 =>
      cases hr
      obtain ⟨pt, hpt⟩ := hcore.2 (Nat.succ_ne_zero c1)
      refine ⟨⟨by rw [hout.open_]; exact ho, hout.number, hout.segment, hout.cleaned, hout.npages, hout.len, fun i hi => (hout.other i hi).1, b1, hb1, hbs1⟩, .inr ⟨?_, hout.bad (Nat.succ_ne_zero c1), fun hon => ?_, pt, [], List.nil_sublist _, by rw [List.map_nil, List.append_nil]; exact hpt⟩⟩
      · rcases hc1 with h1 | h1
        · cases h1
        · exact h1
      · have := (hc2 hon).1; cases this
    | zero =>
      simp only at hr
      have h1 := hcore.1 rfl
      have hbn := hbn1 rfl
      have hg := ih h1 (by rw [hout.open_]; exact ho) hb1 hbs1 (by rw [hbn, hout.npages]; exact hroom2) (by
        have := hch.2
        rw [hout.number, ← List.append_assoc]
        exact this) hr
      obtain ⟨g1, g2⟩ := hg
      refine ⟨⟨g1.opn, g1.number.trans hout.number, g1.segment.trans hout.segment, g1.cleaned.trans hout.cleaned, g1.np.trans hout.npages, g1.len.trans hout.len, fun i hi => (g1.other i hi).trans (hout.other i hi).1, g1.blk⟩, ?_⟩
      rcases g2 with ⟨k1, k2, k3, k4, ⟨b', k5, k6⟩, k7⟩ | ⟨k1, k2, k3, pt, es', k4, k5⟩
      · refine .inl ⟨k1, ?_, k3.trans (hout.ok rfl), fun hon => k4 (hc2 hon).2, ⟨b', k5, ?_⟩, fun hcp => k7 (hcap hcp)⟩
        · rw [List.map_cons, show P ++ stamp b.segment e :: r.map (stamp b.segment) = P ++ [stamp b.segment e] ++ r.map (stamp b.segment) by simp]
          exact k2
        · rw [k6, hbn]; unfold partsSum; rw [List.map_cons, List.sum_cons]; omega
      · refine .inr ⟨k1, k2, fun hon => k3 (hc2 hon).2, pt, e :: es', k4.cons_cons e, ?_⟩
        rw [List.map_cons, show P ++ stamp b.segment e :: es'.map (stamp b.segment) = P ++ [stamp b.segment e] ++ es'.map (stamp b.segment) by simp]
        exact k5
/-- a live entry is the last of its key, also beside what is being erased -/
theorem live_last {L : Log} {TD P : List Ent} {er : Option (Nat × Nat)} {pt : List Pg} (h : Core L TD P er pt) {x : Ent} (hx : x ∈ nowT TD er ++ P) (hl : liveT (nowT TD er ++ P) x = true) : lastK (TD ++ P) x.key = some x := by
  have hl0 := hl
  unfold liveT at hl
  simp only [Bool.and_eq_true, decide_eq_true_eq, Bool.or_eq_true] at hl
  cases er with
  | none => exact hl.1
  | some o =>
    obtain ⟨-, q2, q3, -⟩ := h.olds o rfl
    have hxm : x ∈ TD ++ P := ((nowT_sub TD (some o)).append (List.Sublist.refl P)).subset hx
    obtain ⟨z, hz⟩ := lastK_some hxm rfl
    rw [hz]
    by_cases hzs : z.segment = o.2
    · exfalso
      rw [lastK_append] at hz
      cases hp : lastK P x.key with
      | some y =>
        rw [hp] at hz
        cases hz
        exact q2 _ (lastK_mem hp).1 hzs
      | none =>
        rw [hp] at hz
        obtain ⟨d1, d2⟩ := q3 _ _ hz hzs
        have hnoP : ∀ y ∈ P, y.key ≠ x.key := lastK_none.1 hp
        have hput : ∀ y ∈ nowT TD (some o) ++ P, y.key = x.key → y.kind ≠ 1 := fun y hy hk h1 => by
          rcases List.mem_append.1 hy with h2 | h2
          · exact (mem_without.1 h2).2 (d2 y (mem_without.1 h2).1 hk h1)
          · exact hnoP y h2 hk
        rcases hl.2 with h1 | h1
        · exact hput x hx rfl h1
        · rw [List.any_eq_true] at h1
          obtain ⟨y, hy, h2⟩ := h1
          obtain ⟨-, h3, h4⟩ := of_decide_eq_true h2
          exact hput y hy h3 h4
    · have e1 : nowT TD (some o) ++ P = (TD ++ P).filter (fun x => decide (x.segment ≠ o.2)) := by
        rw [List.filter_append]
        congr 1
        exact (List.filter_eq_self.2 (fun y hy => decide_eq_true (q2 y hy))).symm
      have h2 := lastK_filter (p := fun x => decide (x.segment ≠ o.2)) hz (decide_eq_true hzs)
      rw [← e1, hl.1] at h2
      exact h2.symm
theorem chain_of {T : List Ent} (hp : T.Pairwise Rel) {s n : Nat} (hs : ∀ x ∈ T, x.segment < s) {e : Ent} (he : EW e) (hen : e.number < n) (hall : ∀ x ∈ T, x.number < e.number) : ∀ (lv C : List Ent), (∀ x ∈ lv, EW x ∧ x.number < e.number ∧ lastK T x.key = some x) → lv.Pairwise (fun a b => a.key ≠ b.key) → (∀ c ∈ C, c.number < e.number ∧ ∀ x ∈ lv, c.key ≠ x.key) → Chain s n (T ++ C) (lv ++ [e]) := by
  intro lv
  induction lv with
  | nil =>
    intro C _ _ hC
    refine ⟨⟨he, hen, fun x hx _ => ?_⟩, trivial⟩
    have : x.number < e.number := by
      rcases List.mem_append.1 hx with h | h
      · exact hall x h
      · exact (hC x h).1
    exact ⟨by omega, fun h => by omega⟩
  | cons x r ih =>
    intro C hlv hpw hC
    obtain ⟨h1, h2, h3⟩ := hlv x (List.mem_cons_self ..)
    rw [List.pairwise_cons] at hpw
    refine ⟨⟨h1, by omega, fun y hy hk => ?_⟩, ?_⟩
    · rcases List.mem_append.1 hy with h4 | h4
      · rcases lastK_rel hp h3 y h4 hk with h5 | h5
        · subst h5; exact ⟨Nat.le_refl _, fun _ => ⟨hs y h4, rfl, rfl⟩⟩
        · have h6 := h5.2 hk
          exact ⟨h6.1, fun h7 => ⟨hs y h4, (h6.2 h7).2⟩⟩
      · exact absurd hk ((hC y h4).2 x (List.mem_cons_self ..))
    · rw [List.append_assoc]
      refine ih (C ++ [stamp s x]) (fun y hy => hlv y (List.mem_cons_of_mem _ hy)) hpw.2 (fun c hc => ?_)
      rcases List.mem_append.1 hc with h4 | h4
      · exact ⟨(hC c h4).1, fun y hy => (hC c h4).2 y (List.mem_cons_of_mem _ hy)⟩
      · rw [List.mem_singleton] at h4
        subst h4
        exact ⟨h2, fun y hy => hpw.1 y hy⟩
/-- what can be read, with a value more -/
def orVal (may : Bs → Option Bs → Prop) (e : Ent) (k : Bs) (v : Option Bs) : Prop := may k v ∨ k = e.key ∧ v = valOf e
theorem syncD_code {D : Dev} {c : Nat} {D' : Dev} (h : syncD D = (c, D')) : (c = 0 ∨ c = 11) ∧ (On D → c = 0 ∧ On D') := by
  cases hp : (powerF D).1 with
  | false => rw [syncD_down hp] at h; cases h; exact ⟨.inr rfl, fun ho => by rw [power_on ho.1 ho.2] at hp; cases hp⟩
  | true => rw [syncD_ok hp] at h; cases h; exact ⟨.inl rfl, fun ho => ⟨rfl, by rw [power_on ho.1 ho.2]; exact ho⟩⟩
theorem eraseD_code {D : Dev} {i : Nat} {b : Blk} (hb : D.now[i]? = some b) {c : Nat} {D' : Dev} (h : eraseD D i = (c, D')) : (c = 0 ∨ c = 11) ∧ (On D → c = 0 ∧ On D') := by
  cases hp : (powerF D).1 with
  | false => rw [eraseD_down hb hp] at h; cases h; exact ⟨.inr rfl, fun ho => by rw [power_on ho.1 ho.2] at hp; cases hp⟩
  | true => rw [eraseD_ok hb hp] at h; cases h; exact ⟨.inl rfl, fun ho => ⟨rfl, by rw [power_on ho.1 ho.2]; exact ho⟩⟩
theorem valOf_stamp (s : Nat) (e : Ent) : valOf (stamp s e) = valOf e := rfl
/-- what a write leaves -/
structure Wrote (L L' : Log) (TD P : List Ent) (er : Option (Nat × Nat)) (TD' P' : List Ent) (er' : Option (Nat × Nat)) (e : Ent) : Prop where
  core : Core L' TD' P' er' []
  free : ∃ (j : Nat) (b : LB), L'.blocks[j]? = some b ∧ b.next = 0 ∧ (j : Int) ≠ L'.open_
  onz : ∀ (o : Nat) (b : LB), L'.open_ = (o : Int) → L'.blocks[o]? = some b → b.next ≠ 0
  broken : L'.broken = L.broken
  on : On L.d → On L'.d
  val : ∀ k, valK (nowT TD' er' ++ P') k = if k = e.key then valOf e else valK (nowT TD er ++ P) k
  hist : ∀ may, Hist TD P may → Hist TD' P' (orVal may e)
  cap : CapTo L L'
structure Fell (L L' : Log) (TD P : List Ent) (e : Ent) : Prop where
  broken : L'.broken = true
  off : ¬ On L.d
  safe : ∀ may, Hist TD P may → Safe L'.d (orVal may e)
theorem Core.clean {L : Log} {TD P : List Ent} {er : Option (Nat × Nat)} (h : Core L TD P er []) {i tb : Nat} {bi bt : LB} (hbi : L.blocks[i]? = some bi) (hbt : L.blocks[tb]? = some bt) (hi0 : bi.next ≠ 0) (ht0 : bt.next = 0) (hseg : L.segment ≤ far) {e : Ent} (he : EW e) (hen : e.number = L.number)
    (hroom : pagesOf (livesF L i e.key) + (partsF e.key e.value).length ≤ L.d.npages) {c : Nat} {L' : Log} (hr : cleanF L i tb e = (c, L')) :
    (c = 0 ∧ ∃ TD' er', Wrote L L' TD P er TD' [] er' e) ∨ (c = 11 ∧ Fell L L' TD P e) := by
  have hii := (List.getElem?_eq_some_iff.1 hbi).1
  have htt := (List.getElem?_eq_some_iff.1 hbt).1
  have hit : i ≠ tb := fun h9 => by subst h9; rw [hbi] at hbt; cases hbt; exact hi0 ht0
  have hnum := he.arg.num
  obtain ⟨T, hT⟩ : ∃ z, z = nowT TD er ++ P := ⟨_, rfl⟩
  have hTs : T.Sublist (TD ++ P) := by rw [hT]; exact (nowT_sub TD er).append (List.Sublist.refl P)
  have hTp : T.Pairwise Rel := h.pw.sublist hTs
  have hrep : Rep T L.blocks := by rw [hT]; exact h.rep
  obtain ⟨lv, hlv⟩ : ∃ z, z = livesF L i e.key := ⟨_, rfl⟩
  have hlve := lives_eq hrep hTp hbi e.key
  rw [← hlv] at hlve
  have hlvm : ∀ x, x ∈ lv ↔ (x ∈ T ∧ x.segment = bi.segment ∧ x.key ≠ e.key ∧ liveT T x = true) := fun x => by
    rw [hlve, List.mem_filter, List.mem_filter]
    simp only [Bool.and_eq_true, decide_eq_true_eq]
    constructor
    · rintro ⟨⟨a, b⟩, c, d⟩; exact ⟨a, b, c, d⟩
    · rintro ⟨a, b, c, d⟩; exact ⟨⟨a, b⟩, c, d⟩
  have hlvE : ∀ x ∈ lv, EW x ∧ x.pages = (partsF x.key x.value).length := fun x hx => by
    have := h.ents (x := x) (by rw [← hT]; exact ((hlvm x).1 hx).1)
    exact ⟨this.1, (congrArg Ent.pages this.2).symm⟩
  have hlvL : ∀ x ∈ lv, lastK (TD ++ P) x.key = some x := fun x hx => live_last h (by rw [← hT]; exact ((hlvm x).1 hx).1) (by rw [← hT]; exact ((hlvm x).1 hx).2.2.2)
  have hlvT : ∀ x ∈ lv, lastK T x.key = some x := fun x hx => by
    have := ((hlvm x).1 hx).2.2.2
    unfold liveT at this
    simp only [Bool.and_eq_true, decide_eq_true_eq] at this
    exact this.1
  have hlvp : lv.Pairwise (fun a b => a.key ≠ b.key) := by
    have h1 : lv.Pairwise Rel := by rw [hlve]; exact (hTp.sublist List.filter_sublist).sublist List.filter_sublist
    refine h1.imp_of_mem (fun {a b} ha hb hab hk => ?_)
    have e1 := hlvL a ha
    have e2 := hlvL b hb
    rw [hk, e2] at e1
    cases e1
    have := ((hab.2 rfl).2 rfl).1
    omega
  have hsum : partsSum (lv ++ [e]) = pagesOf lv + (partsF e.key e.value).length := by
    have go : ∀ l : List Ent, (∀ x ∈ l, x.pages = (partsF x.key x.value).length) → partsSum l = pagesOf l := by
      intro l
      induction l with
      | nil => intro _; rfl
      | cons x r ih =>
        intro hx
        have h1 := ih (fun y hy => hx y (List.mem_cons_of_mem _ hy))
        have h2 := hx x (List.mem_cons_self ..)
        unfold partsSum pagesOf at h1 ⊢
        simp only [List.map_cons, List.sum_cons]
        omega
    have h1 := go lv (fun x hx => (hlvE x hx).2)
    unfold partsSum at h1 ⊢
    rw [List.map_append, List.sum_append, h1]
    simp
  rw [← hlv, ← hsum] at hroom
  -- begin
  have hb0 := h.begin_ hbt ht0 hseg
  obtain ⟨-, ebeg⟩ := beginF_inv h.inv hbt hseg
  obtain ⟨l1, hl1⟩ : ∃ z, z = { beginF L tb with number := L.number + 1 } := ⟨_, rfl⟩
  have h1 : Core l1 TD P er [] := hb0.same (by rw [hl1]; exact hb0.inv.number ⟨by omega, by omega⟩) (by rw [hl1]) (by rw [hl1]) (by rw [hl1, ebeg]; exact Nat.le_succ _) (by rw [hl1]) (by rw [hl1]) (by rw [hl1]) (by rw [hl1]) (by rw [hl1])
  have hl1b : l1.blocks = L.blocks.set tb { bt with segment := L.segment } := by rw [hl1, ebeg]
  have hl1d : l1.d = L.d := by rw [hl1, ebeg]
  have hl1o : l1.open_ = (tb : Int) := by rw [hl1, ebeg]
  have hl1n : l1.number = L.number + 1 := by rw [hl1]
  have hl1s : l1.segment = L.segment + 1 := by rw [hl1, ebeg]
  have hl1r : l1.broken = L.broken := by rw [hl1, ebeg]
  have hTall : ∀ x ∈ TD ++ P, x.segment < L.segment ∧ x.number < e.number ∧ 1 ≤ x.segment := fun x hx => by have := h.nums x hx; omega
  have hch : Chain L.segment l1.number (TD ++ P) (lv ++ [e]) := by
    have := chain_of h.pw (s := L.segment) (n := l1.number) (fun x hx => (hTall x hx).1) he (by omega) (fun x hx => (hTall x hx).2.1) lv [] (fun x hx => ⟨(hlvE x hx).1, (hTall x (lastK_mem (hlvL x hx)).1).2.1, hlvL x hx⟩) hlvp (fun c hc => (by cases hc))
    rwa [List.append_nil] at this
  rcases hpa : progAll (lv ++ [e]) l1 with ⟨c2, l2⟩
  have hall := h1.all (s := L.segment) (lv ++ [e]) hl1o (by rw [hl1b]; exact List.getElem?_set_self htt) rfl (by rw [hl1d]; show bt.next + _ ≤ _; omega) hch hpa
  obtain ⟨ho, hcase⟩ := hall
  have hcl : cleanF L i tb e = (match (c2, l2) with
      | (0, l2) => match syncD l2.d with
        | (0, d3) => match eraseD d3 i with
          | (0, d4) => (0, { setLB l2 i (fun _ => ⟨0, 0, 0, []⟩) with d := d4, cleaned := wrp (l2.cleaned + 1) })
          | (c, d4) => (c, { l2 with d := d4, broken := true })
        | (c, d3) => (c, { l2 with d := d3, broken := true })
      | (c, l2) => (c, l2)) := by
    rw [← hpa, hl1, hlv]
    rfl
  rw [hcl] at hr
  have hvalC : ∀ may, Hist TD P may → ∀ es' : List Ent, es'.Sublist (lv ++ [e]) → Hist TD (P ++ es'.map (stamp L.segment)) (orVal may e) := fun may hh es' hes => by
    refine ⟨fun k => .inl (hh.dur k), fun p hp => ?_⟩
    rcases List.mem_append.1 hp with h2 | h2
    · exact .inl (hh.pen p h2)
    · obtain ⟨x, hx, rfl⟩ := List.mem_map.1 h2
      rcases List.mem_append.1 (hes.subset hx) with h3 | h3
      · left
        have h4 := hh.val (X := nowT TD er) (fun k => now_val h k) (List.Sublist.refl P) x.key
        rw [← hT, valK_some (hlvT x h3)] at h4
        exact h4
      · rw [List.mem_singleton] at h3
        subst h3
        exact .inr ⟨rfl, rfl⟩
  have hmid : ∀ l : Log, l.open_ = (tb : Int) → (∃ b', l.blocks[tb]? = some b' ∧ b'.segment = L.segment) → ∃ (o : Nat) (b : LB), l.open_ = (o : Int) ∧ l.blocks[o]? = some b ∧ ∀ x ∈ TD, x.segment ≠ b.segment := fun l ho ⟨b', hb', hs'⟩ => ⟨tb, b', ho, hb', fun x hx => by rw [hs']; have := hTall x (List.mem_append_left _ hx); omega⟩
  rcases hcase with ⟨rfl, hcore, hbr, hon, ⟨bo, hbo, hbon⟩, hcap⟩ | ⟨rfl, hbr, hnon, pt, es', hes, hcore⟩
  · simp only at hr
    rcases hsy : syncD l2.d with ⟨c3, d3⟩
    rw [hsy] at hr
    have hscode := syncD_code hsy
    have hsync := hcore.sync hsy
    cases c3 with
    | succ c3 =>
      simp only at hr
      cases hr
      refine .inr ⟨?_, rfl, fun h9 => ?_, fun may hh => ?_⟩
      · rcases hscode.1 with h9 | h9
        · cases h9
        · exact h9
      · have := (hscode.2 (hon (by rw [hl1d]; exact h9))).1; cases this
      · exact (hsync.2 (Nat.succ_ne_zero c3)).safe (hvalC may hh _ (List.Sublist.refl _)) (.inr (.inl (hmid _ ho.opn ho.blk)))
    | zero =>
      simp only at hr
      have hcs := hsync.1 rfl
      obtain ⟨TD', hTD'⟩ : ∃ z, z = nowT TD er ++ (P ++ (lv ++ [e]).map (stamp L.segment)) := ⟨_, rfl⟩
      have hTDe : TD' = T ++ (lv ++ [e]).map (stamp L.segment) := by rw [hTD', hT, List.append_assoc]
      rw [← hTD'] at hcs
      have hbi2 : l2.blocks[i]? = some bi := by rw [ho.other i hit, hl1b, List.getElem?_set_ne (Ne.symm hit)]; exact hbi
      have hbiseg : bi.segment < L.segment := h.bseg bi (List.mem_of_getElem? hbi)
      have hCseg : ∀ x ∈ (lv ++ [e]).map (stamp L.segment), x.segment = L.segment ∧ x.number ≤ e.number := fun x hx => by
        obtain ⟨y, hy, rfl⟩ := List.mem_map.1 hx
        refine ⟨rfl, ?_⟩
        show y.number ≤ e.number
        rcases List.mem_append.1 hy with h9 | h9
        · have := (hTall y (lastK_mem (hlvL y h9)).1).2.1; omega
        · rw [List.mem_singleton] at h9; subst h9; exact Nat.le_refl _
      have hdead : Dead TD' bi.segment := by
        intro k x hx hxs
        rw [hTDe, lastK_append] at hx
        cases hc : lastK ((lv ++ [e]).map (stamp L.segment)) k with
        | some y =>
          rw [hc] at hx
          cases hx
          have := (hCseg _ (lastK_mem hc).1).1
          omega
        | none =>
          rw [hc] at hx
          replace hx : lastK T k = some x := hx
          have hnone := lastK_none.1 hc
          have hxm := lastK_mem hx
          have hke : x.key ≠ e.key := fun h9 => hnone (stamp L.segment e) (List.mem_map_of_mem (List.mem_append_right _ (List.mem_singleton.2 rfl))) (by rw [← hxm.2, h9]; rfl)
          have hnl : ¬ liveT T x = true := fun h9 => hnone (stamp L.segment x) (List.mem_map_of_mem (List.mem_append_left _ ((hlvm x).2 ⟨hxm.1, hxs, hke, h9⟩))) hxm.2
          unfold liveT at hnl
          simp only [Bool.and_eq_true, decide_eq_true_eq, Bool.or_eq_true, not_and, not_or] at hnl
          obtain ⟨n1, n2⟩ := hnl (by rw [hxm.2, hx])
          refine ⟨n1, fun y hy hyk hy1 => ?_⟩
          rw [hTDe] at hy
          rcases List.mem_append.1 hy with h9 | h9
          · rcases Nat.decEq y.segment bi.segment with h8 | h8
            · exact absurd (List.any_eq_true.2 ⟨y, h9, decide_eq_true ⟨by rw [hxs]; exact h8, by rw [hyk, hxm.2], hy1⟩⟩) n2
            · exact h8
          · exact absurd hyk (hnone y h9)
      have htop : ∃ x ∈ without TD' bi.segment, bi.segment ≤ x.segment ∧ ∀ y ∈ TD', y.number ≤ x.number ∧ y.segment ≤ x.segment := by
        refine ⟨stamp L.segment e, mem_without.2 ⟨?_, by show L.segment ≠ bi.segment; omega⟩, by show bi.segment ≤ L.segment; omega, fun y hy => ?_⟩
        · rw [hTDe]; exact List.mem_append_right _ (List.mem_map_of_mem (List.mem_append_right _ (List.mem_singleton.2 rfl)))
        · rw [hTDe] at hy
          show y.number ≤ e.number ∧ y.segment ≤ L.segment
          rcases List.mem_append.1 hy with h9 | h9
          · have := hTall y (hTs.subset h9); omega
          · have := hCseg y h9; omega
      have hval : ∀ k, valK TD' k = if k = e.key then valOf e else valK T k := fun k => by
        rw [hTDe, List.map_append, List.map_cons, List.map_nil, ← List.append_assoc]
        unfold valK
        rw [lastK_snoc]
        by_cases hk : k = e.key
        · rw [if_pos hk, if_pos (by rw [hk]; rfl)]
          exact valOf_stamp _ _
        · rw [if_neg hk, if_neg (fun h9 => hk h9.symm), lastK_append]
          cases hc : lastK (lv.map (stamp L.segment)) k with
          | none => rfl
          | some y =>
            have hy := lastK_mem hc
            obtain ⟨x, hx, rfl⟩ := List.mem_map.1 hy.1
            have hxk : x.key = k := hy.2
            have h9 := hlvT x hx
            rw [hxk] at h9
            rw [h9]
            exact valOf_stamp _ _
      have hhist : ∀ may, Hist TD P may → Hist TD' [] (orVal may e) := fun may hh => by
        refine ⟨fun k => ?_, fun p hp => (by cases hp)⟩
        rw [hval k]
        by_cases hk : k = e.key
        · rw [if_pos hk]; exact .inr ⟨hk, rfl⟩
        · rw [if_neg hk]
          left
          rw [hT]
          exact hh.val (X := nowT TD er) (fun k => now_val h k) (List.Sublist.refl P) k
      rcases her : eraseD d3 i with ⟨c4, d4⟩
      rw [her] at hr
      obtain ⟨p, hpi, -⟩ := hcs.inv.blk hbi2
      have hecode := eraseD_code hpi her
      cases c4 with
      | succ c4 =>
        simp only at hr
        cases hr
        obtain ⟨r1, r2, r3, r4⟩ := erase_cases hcs.inv.dev hpi her
        rcases r4 with ⟨-, h5, h6⟩ | ⟨h9, -⟩
        · refine .inr ⟨?_, rfl, fun h9 => ?_, fun may hh => ?_⟩
          · rcases hecode.1 with h9 | h9
            · cases h9
            · exact h9
          · have := (hecode.2 (hscode.2 (hon (by rw [hl1d]; exact h9))).2).1; cases this
          · have hfin : Core { l2 with d := d4, broken := true } TD' [] none [] := hcs.same (L' := { l2 with d := d4, broken := true }) (hcs.inv.dev_ r1 h5 r2 true) rfl rfl (Nat.le_refl _) rfl r3 h5 h6 r2
            exact hfin.safe (hhist may hh) (.inr (.inr ⟨rfl, rfl, i, bi, hbi2, hdead⟩))
        · exact absurd h9 (Nat.succ_ne_zero c4)
      | zero =>
        simp only at hr
        rw [setLB_at hbi2] at hr
        cases hr
        have hce := hcs.erase hbi2 (by show l2.open_ ≠ _; rw [ho.opn]; omega) hdead htop her
        have hli : i < l2.blocks.length := (List.getElem?_eq_some_iff.1 hbi2).1
        have hinv := hce.inv.cleaned (wrp (l2.cleaned + 1))
        refine .inl ⟨rfl, TD', some (i, bi.segment), ⟨hce.same hinv rfl rfl (Nat.le_refl _) rfl rfl rfl rfl rfl, ⟨i, _, List.getElem?_set_self hli, rfl, by show (i : Int) ≠ l2.open_; rw [ho.opn]; omega⟩, fun o b hoo hob => ?_, hbr.trans hl1r, fun h9 => (hecode.2 (hscode.2 (hon (by rw [hl1d]; exact h9))).2).2, fun k => ?_, hhist, fun hcp => ?_, ?_, ?_⟩⟩
        · have hoo2 : l2.open_ = (o : Int) := hoo
          rw [ho.opn] at hoo2
          obtain rfl : o = tb := by omega
          have hob2 : (l2.blocks.set i ⟨0, 0, 0, []⟩)[o]? = some b := hob
          rw [List.getElem?_set_ne hit, hbo] at hob2
          cases hob2
          rw [hbon, hsum]
          have := he.arg.parts
          omega
        · rw [List.append_nil]
          have h9 := hdead.val (List.pairwise_append.1 hce.pw).1 k
          show valK (without TD' bi.segment) k = _
          rw [h9, hval k, hT]
        · obtain ⟨s1, s2, s3, -⟩ := sync_cases hcore.inv.dev hsy
          obtain ⟨r1, r2, r3, r4⟩ := erase_cases hcs.inv.dev hpi her
          rcases r4 with ⟨h9, -⟩ | ⟨-, h5, -⟩
          · exact absurd rfl h9
          · have hl1c : Cap l1 := fun b hb p hp => by
              rw [hl1d] at hb
              have := hcp b hb p hp
              rw [hl1n, hl1s]
              omega
            have h2c := hcap hl1c
            intro b hb p9 hp9
            have hb' : b ∈ d4.now := hb
            show p9.number < l2.number ∧ p9.segment < l2.segment
            rw [h5] at hb'
            rcases mem_set_or hb' with h8 | h8
            · have h8' : b ∈ l2.d.now := by rw [← s3]; exact h8
              exact h2c b h8' p9 hp9
            · rw [h8] at hp9
              have hpo : BlkOk d3.npages p := hcs.inv.dev.now p (List.mem_of_getElem? hpi)
              obtain ⟨k, hk⟩ := List.getElem?_of_mem hp9
              have := (erase_ok hpo).1.cells_none (by rw [(erase_ok hpo).2]; omega) hk
              cases this
        · show l2.number ≤ _
          rw [ho.number, hl1n]
          exact Nat.le_refl _
        · show l2.segment ≤ _
          rw [ho.segment, hl1s]
          exact Nat.le_refl _
  · simp only at hr
    cases hr
    refine .inr ⟨rfl, hbr, fun h9 => hnon (by rw [hl1d]; exact h9), fun may hh => ?_⟩
    exact hcore.safe (hvalC may hh es' hes) (.inr (.inl (hmid _ ho.opn ho.blk)))
end Go.Proofs.Ytepigkjgjlibcaa
