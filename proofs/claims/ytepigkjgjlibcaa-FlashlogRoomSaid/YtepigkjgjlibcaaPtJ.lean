/- Chapter 23, plain: Put, Delete, Get, Open of a log that is whole; when they succeed. -/
import Derived.Test.YtepigkjgjlibcaaPtI
namespace Go.Proofs.Ytepigkjgjlibcaa
open Go.RowKit Go.Deep Go.Proofs.Ytepigkjgjlibcaa.FL
/-- a log that is whole -/
structure Sess (L : Log) (TD P : List Ent) (er : Option (Nat × Nat)) : Prop where
  core : Core L TD P er []
  free : ∃ (j : Nat) (b : LB), L.blocks[j]? = some b ∧ b.next = 0 ∧ (j : Int) ≠ L.open_
  onz : ∀ (o : Nat) (b : LB), L.open_ = (o : Int) → L.blocks[o]? = some b → b.next ≠ 0
  unb : L.broken = false
def valL (L : Log) (k : Bs) : Option Bs := match getF L k with
  | .inl v => some v
  | .inr _ => none
section
variable {L : Log} {TD P : List Ent} {er : Option (Nat × Nat)} (h : Sess L TD P er)
include h
theorem Sess.pw : (nowT TD er ++ P).Pairwise Rel := h.core.pw.sublist ((nowT_sub TD er).append (List.Sublist.refl P))
theorem Sess.get (k : Bs) : getF L k = (match valK (nowT TD er ++ P) k with | some v => .inl v | none => .inr 3) := get_val h.core.rep h.pw h.unb k
theorem Sess.val (k : Bs) : valL L k = valK (nowT TD er ++ P) k := by
  unfold valL
  rw [h.get k]
  cases valK (nowT TD er ++ P) k <;> rfl
theorem Sess.getv (k : Bs) : getF L k = (match valL L k with | some v => .inl v | none => .inr 3) := by rw [h.val k]; exact h.get k
theorem Sess.hasFree : freeF L ≠ [] := by obtain ⟨j, b, h1, h2, -⟩ := h.free; exact (free_iff L).2 ⟨j, b, h1, h2⟩
theorem Sess.safe {may : Bs → Option Bs → Prop} (hh : Hist TD P may) : Safe L.d may := h.core.safe hh (.inl h.hasFree)
end
theorem Hist.mono {TD P : List Ent} {may may' : Bs → Option Bs → Prop} (h : Hist TD P may) (hm : ∀ k v, may k v → may' k v) : Hist TD P may' := ⟨fun k => hm _ _ (h.dur k), fun p hp => hm _ _ (h.pen p hp)⟩
theorem Opened.sess {L : Log} {T : List Ent} (h : Opened L T) : Sess L T [] none := by
  obtain ⟨j, b, h1, h2⟩ := (free_iff L).1 h.free
  exact ⟨h.core, ⟨j, b, h1, h2, by rw [h.opn]; omega⟩, fun o b ho => by rw [h.opn] at ho; omega, h.off⟩
/-! the victim -/
theorem vicTo_spec (L : Log) (key : Bs) : ∀ k, k ≤ L.blocks.length → (∀ i n, vicTo L key k = some (i, n) → (∃ b, L.blocks[i]? = some b ∧ b.next ≠ 0) ∧ n = pagesOf (livesF L i key) ∧ ∀ (j : Nat) (b : LB), j < k → L.blocks[j]? = some b → b.next ≠ 0 → n ≤ pagesOf (livesF L j key)) ∧
    (vicTo L key k = none → ∀ (j : Nat) (b : LB), j < k → L.blocks[j]? = some b → b.next = 0) := by
  intro k
  induction k with
  | zero => intro _; exact ⟨fun i n h => (by unfold vicTo at h; simp at h), fun _ j b hj => absurd hj (by omega)⟩
  | succ k ih =>
    intro hk
    obtain ⟨h1, h2⟩ := ih (by omega)
    have hb : L.blocks[k]? = some (L.blocks[k]'(by omega)) := List.getElem?_eq_getElem (by omega)
    generalize L.blocks[k]'(by omega) = b at hb
    rw [vicTo_succ hb]
    by_cases hz : b.next = 0
    · rw [victimStep_zero hz]
      refine ⟨fun i n hv => ?_, fun hv j c hj hc => ?_⟩
      · obtain ⟨g1, g2, g3⟩ := h1 i n hv
        refine ⟨g1, g2, fun j c hj hc hn => ?_⟩
        by_cases hjk : j = k
        · subst hjk; rw [hb] at hc; cases hc; exact absurd hz hn
        · exact g3 j c (by omega) hc hn
      · by_cases hjk : j = k
        · subst hjk; rw [hb] at hc; cases hc; exact hz
        · exact h2 hv j c (by omega) hc
    · rw [victimStep_pos hz]
      unfold vicPick
      cases hv : vicTo L key k with
      | none =>
        simp only
        refine ⟨fun i n he => ?_, fun he => (by cases he)⟩
        cases he
        refine ⟨⟨b, hb, hz⟩, rfl, fun j c hj hc hn => ?_⟩
        by_cases hjk : j = k
        · subst hjk; exact Nat.le_refl _
        · exact absurd (h2 hv j c (by omega) hc) hn
      | some y =>
        obtain ⟨i0, n0⟩ := y
        obtain ⟨g1, g2, g3⟩ := h1 i0 n0 hv
        simp only
        refine ⟨fun i n he => ?_, fun he => ?_⟩
        · split at he
          · rename_i hc
            cases he
            refine ⟨⟨b, hb, hz⟩, rfl, fun j c hj hcj hn => ?_⟩
            by_cases hjk : j = k
            · subst hjk; exact Nat.le_refl _
            · have := g3 j c (by omega) hcj hn
              omega
          · rename_i hc
            cases he
            refine ⟨g1, g2, fun j c hj hcj hn => ?_⟩
            by_cases hjk : j = k
            · subst hjk; omega
            · exact g3 j c (by omega) hcj hn
        · split at he <;> cases he
theorem victim_spec {L : Log} {key : Bs} {i n : Nat} (h : victimF L key = some (i, n)) : (∃ b, L.blocks[i]? = some b ∧ b.next ≠ 0) ∧ n = pagesOf (livesF L i key) ∧ ∀ (j : Nat) (b : LB), L.blocks[j]? = some b → b.next ≠ 0 → n ≤ pagesOf (livesF L j key) := by
  rw [victimF_eq] at h
  obtain ⟨h1, h2, h3⟩ := (vicTo_spec L key _ (Nat.le_refl _)).1 i n h
  exact ⟨h1, h2, fun j b hj => h3 j b (List.getElem?_eq_some_iff.1 hj).1 hj⟩
theorem victim_none {L : Log} {key : Bs} (h : victimF L key = none) : ∀ (j : Nat) (b : LB), L.blocks[j]? = some b → b.next = 0 := fun j b hj => by
  rw [victimF_eq] at h
  exact (vicTo_spec L key _ (Nat.le_refl _)).2 h j b (List.getElem?_eq_some_iff.1 hj).1 hj
theorem free_nodup (L : Log) : (freeF L).Nodup := List.nodup_range.filter _
/-- what a successful write leaves -/
structure Grown (L L' : Log) (TD P : List Ent) (er : Option (Nat × Nat)) (TD' P' : List Ent) (er' : Option (Nat × Nat)) (e : Ent) : Prop where
  sess : Sess L' TD' P' er'
  on : On L.d → On L'.d
  val : ∀ k, valL L' k = if k = e.key then valOf e else valL L k
  hist : ∀ may, Hist TD P may → Hist TD' P' (orVal may e)
  cap : CapTo L L'
theorem Wrote.grown {L L' : Log} {TD P : List Ent} {er : Option (Nat × Nat)} {TD' P' : List Ent} {er' : Option (Nat × Nat)} {e : Ent} (h : Wrote L L' TD P er TD' P' er' e) (hs : Sess L TD P er) : Grown L L' TD P er TD' P' er' e := by
  have h1 : Sess L' TD' P' er' := ⟨h.core, h.free, h.onz, h.broken.trans hs.unb⟩
  exact ⟨h1, h.on, fun k => by rw [h1.val k, hs.val k]; exact h.val k, h.hist, h.cap⟩
/-- a new entry in the open block -/
theorem prog_new {L L1 : Log} {TD P : List Ent} {er : Option (Nat × Nat)} (hs : Sess L TD P er) (h1 : Core L1 TD P er []) {o : Nat} {b : LB} (ho : L1.open_ = (o : Int)) (hb : L1.blocks[o]? = some b) (hd : L1.d = L.d) (hbr : L1.broken = L.broken) {e : Ent} (he : EW e) (hen : e.number < L1.number) (hall : ∀ x ∈ TD ++ P, x.number < e.number)
    (hroom : b.next + (partsF e.key e.value).length ≤ L.d.npages) (hL1 : L1.number = L.number + 1 ∧ L.segment ≤ L1.segment ∧ L1.segment ≤ L.segment + 1) (hfree : ∃ (j : Nat) (c : LB), L1.blocks[j]? = some c ∧ c.next = 0 ∧ j ≠ o) {c : Nat} {L' : Log} (hr : programF L1 e = (c, L')) :
    (c = 0 ∧ ∃ P', Grown L L' TD P er TD P' er e) ∨ (c = 11 ∧ Fell L L' TD P e) := by
  have hbe : Behind (TD ++ P) b.segment L1.number e := ⟨he, hen, fun x hx _ => by have := hall x hx; exact ⟨by omega, fun h => by omega⟩⟩
  have hcore := h1.program ho hb hbe
  have hcode := programF_code h1.inv ho hb he.arg (by rw [hd]; exact hroom)
  have hout := programF_out h1.inv ho hb he.arg
  have hcap := programF_cap h1.inv ho hb he.arg hen (h1.bseg b (List.mem_of_getElem? hb))
  rw [hr] at hcore hcode hout hcap
  obtain ⟨c1, c2, b', hb', hbs', hbn'⟩ := hcode
  simp only at c1 c2 hb' hbn'
  obtain ⟨j, cj, hj, hj0, hjo⟩ := hfree
  have hj' : L'.blocks[j]? = some cj := by rw [(hout.other j hjo).1]; exact hj
  cases c with
  | zero =>
    have hc := hcore.1 rfl
    refine .inl ⟨rfl, P ++ [stamp b.segment e], ?_⟩
    have hw : Wrote L L' TD P er TD (P ++ [stamp b.segment e]) er e := by
      refine ⟨hc, ⟨j, cj, hj', hj0, by rw [hout.open_, ho]; omega⟩, fun o2 b2 ho2 hb2 => ?_, (hout.ok rfl).trans hbr, fun hon => (c2 (by rw [hd]; exact hon)).2, fun k => ?_, fun may hh => ⟨fun k => .inl (hh.dur k), fun p hp => ?_⟩, ⟨fun hcp => hcap (fun b hb p hp => ?_), by rw [hout.number]; omega, by rw [hout.segment]; omega⟩⟩
      · rw [hout.open_, ho] at ho2
        obtain rfl : o2 = o := by omega
        rw [hb'] at hb2
        cases hb2
        rw [hbn' rfl]
        have := he.arg.parts
        omega
      · rw [← List.append_assoc]
        unfold valK
        rw [lastK_snoc]
        by_cases hk : k = e.key
        · rw [if_pos hk, if_pos (by rw [hk]; rfl)]; exact valOf_stamp _ _
        · rw [if_neg hk, if_neg (fun h9 => hk h9.symm)]
      · rcases List.mem_append.1 hp with h9 | h9
        · exact .inl (hh.pen p h9)
        · rw [List.mem_singleton] at h9; subst h9; exact .inr ⟨rfl, rfl⟩
      · rw [hd] at hb
        have := hcp b hb p hp
        omega
    exact hw.grown hs
  | succ c =>
    obtain ⟨pt, hpt⟩ := hcore.2 (Nat.succ_ne_zero c)
    refine .inr ⟨?_, hout.bad (Nat.succ_ne_zero c), fun hon => ?_, fun may hh => ?_⟩
    · rcases c1 with h9 | h9
      · cases h9
      · exact h9
    · have := (c2 (by rw [hd]; exact hon)).1; cases this
    · exact hpt.safe (hh.mono (fun k v h => .inl h)) (.inl ((free_iff _).2 ⟨j, cj, hj', hj0⟩))
theorem Sess.write {L : Log} {TD P : List Ent} {er : Option (Nat × Nat)} (h : Sess L TD P er) {kind : Nat} {key value : Bs} (hk : kind = 1 ∨ kind = 2) (hky : 1 ≤ key.length ∧ key.length ≤ 2048) (hvl : value.length ≤ 16384) (hdel : kind = 2 → value = []) (hpg : (partsF key value).length ≤ L.d.npages) {c : Nat} {L' : Log} (hr : writeF L kind key value = (c, L')) :
    (c = 0 ∧ ∃ TD' P' er', Grown L L' TD P er TD' P' er' ⟨kind, L.number, 0, 0, key, value⟩) ∨ (c = 10 ∧ L' = L) ∨ (c = 11 ∧ Fell L L' TD P ⟨kind, L.number, 0, 0, key, value⟩) := by
  by_cases hn : 1099511627776 < L.number
  · rw [writeF_far kind key value hn] at hr; cases hr; exact .inr (.inl ⟨rfl, rfl⟩)
  have hnf : L.number ≤ far := by unfold far; omega
  have he : EW ⟨kind, L.number, 0, 0, key, value⟩ := ⟨⟨hk, hnf, hky, hvl⟩, hdel⟩
  have hall : ∀ x ∈ TD ++ P, x.number < L.number := fun x hx => (h.core.nums x hx).1
  obtain ⟨jf, bf, hjf, hjf0, hjfo⟩ := h.free
  by_cases hroom : 0 ≤ L.open_ ∧ ((partsF key value).length : Int) ≤ openRoom L
  · rw [writeF_room kind key value hn hroom] at hr
    have hop := h.core.inv.wf.op
    obtain ⟨o, ho⟩ : ∃ o : Nat, L.open_ = (o : Int) := ⟨L.open_.toNat, by omega⟩
    have hol : o < L.blocks.length := by omega
    have hb := List.getElem?_eq_getElem hol
    generalize L.blocks[o]'hol = b at hb
    have hor : openRoom L = (L.d.npages : Int) - b.next := by unfold openRoom; rw [show L.open_.toNat = o by rw [ho]; rfl, hb]
    have h1 : Core { L with number := L.number + 1 } TD P er [] := h.core.same (h.core.inv.number ⟨by omega, by omega⟩) rfl rfl (Nat.le_succ _) rfl rfl rfl rfl rfl
    rcases prog_new h h1 ho hb rfl rfl he (Nat.lt_succ_self _) hall (by have := hroom.2; rw [hor] at this; simp only; omega) ⟨rfl, Nat.le_refl _, Nat.le_succ _⟩ ⟨jf, bf, hjf, hjf0, fun h9 => hjfo (by rw [ho, h9])⟩ hr with ⟨h2, P', h3⟩ | h2
    · exact .inl ⟨h2, TD, P', er, h3⟩
    · exact .inr (.inr h2)
  · rw [writeF_rest kind key value hn hroom] at hr
    unfold writeG at hr
    split at hr
    · cases hr; exact .inr (.inl ⟨rfl, rfl⟩)
    · rename_i hc
      have hseg : L.segment ≤ far := by unfold far; omega
      have hfn : freeF L ≠ [] := fun h9 => hc (.inr h9)
      split at hr
      · rename_i h2
        have hym := young_mem (L := L) hfn
        obtain ⟨hyl, by_, hyb, hy0⟩ := free_lt hym
        obtain ⟨y, hy⟩ : ∃ z, z = youngestF L (freeF L) := ⟨_, rfl⟩
        rw [← hy] at hr hym hyl hyb
        obtain ⟨z, hz, hzy⟩ : ∃ z ∈ freeF L, z ≠ y := by
          rcases hfl : freeF L with _ | ⟨a, _ | ⟨b, r⟩⟩
          · exact absurd hfl hfn
          · rw [hfl] at h2; simp at h2
          · have hnd := free_nodup L
            rw [hfl, List.nodup_cons] at hnd
            by_cases hay : a = y
            · exact ⟨b, by simp, fun h9 => hnd.1 (by rw [hay, ← h9]; simp)⟩
            · exact ⟨a, by simp, hay⟩
        obtain ⟨hzl, bz, hzb, hz0⟩ := free_lt hz
        have hb0 := h.core.begin_ hyb hy0 hseg
        obtain ⟨-, ebeg⟩ := beginF_inv h.core.inv hyb hseg
        obtain ⟨L1, hL1⟩ : ∃ z, z = { beginF L y with number := L.number + 1 } := ⟨_, rfl⟩
        have h1 : Core L1 TD P er [] := hb0.same (by rw [hL1]; exact hb0.inv.number ⟨by omega, by omega⟩) (by rw [hL1]) (by rw [hL1]) (by rw [hL1, ebeg]; exact Nat.le_succ _) (by rw [hL1]) (by rw [hL1]) (by rw [hL1]) (by rw [hL1]) (by rw [hL1])
        have hL1b : L1.blocks = L.blocks.set y { by_ with segment := L.segment } := by rw [hL1, ebeg]
        rw [← hL1] at hr
        rcases prog_new h h1 (o := y) (by rw [hL1, ebeg]) (by rw [hL1b]; exact List.getElem?_set_self hyl) (by rw [hL1, ebeg]) (by rw [hL1, ebeg]) he (by rw [hL1]; exact Nat.lt_succ_self _) hall (by show by_.next + _ ≤ _; rw [hy0]; simp only; omega) (by rw [hL1, ebeg]; exact ⟨rfl, Nat.le_succ _, Nat.le_refl _⟩)
          ⟨z, bz, by rw [hL1b, List.getElem?_set_ne (Ne.symm hzy)]; exact hzb, hz0, hzy⟩ hr with ⟨h3, P', h4⟩ | h3
        · exact .inl ⟨h3, TD, P', er, h4⟩
        · exact .inr (.inr h3)
      · cases hv : victimF L key with
        | none => rw [hv] at hr; simp only at hr; cases hr; exact .inr (.inl ⟨rfl, rfl⟩)
        | some y =>
          obtain ⟨i, n⟩ := y
          rw [hv] at hr
          simp only at hr
          split at hr
          · cases hr; exact .inr (.inl ⟨rfl, rfl⟩)
          · rename_i hfit
            obtain ⟨⟨bi, hbi, hbi0⟩, hvn, -⟩ := victim_spec hv
            have htm : (freeF L).headD 0 ∈ freeF L := by
              rcases hfl : freeF L with _ | ⟨a, r⟩
              · exact absurd hfl hfn
              · simp
            obtain ⟨htl, bt, htb, ht0⟩ := free_lt htm
            rcases h.core.clean hbi htb hbi0 ht0 hseg he rfl (by rw [← hvn]; simp only; omega) hr with ⟨h3, TD', er', h4⟩ | h3
            · exact .inl ⟨h3, TD', [], er', h4.grown h⟩
            · exact .inr (.inr h3)
theorem Sess.put {L : Log} {TD P : List Ent} {er : Option (Nat × Nat)} (h : Sess L TD P er) {key value : Bs} {c : Nat} {L' : Log} (hr : putF L key value = (c, L')) :
    (c = 0 ∧ ∃ TD' P' er', Grown L L' TD P er TD' P' er' ⟨1, L.number, 0, 0, key, value⟩) ∨ ((c = 5 ∨ c = 8 ∨ c = 10) ∧ L' = L) ∨ (c = 11 ∧ Fell L L' TD P ⟨1, L.number, 0, 0, key, value⟩) := by
  unfold putF at hr
  rw [h.unb, if_neg (by simp)] at hr
  split at hr
  · cases hr; exact .inr (.inl ⟨.inr (.inl rfl), rfl⟩)
  · rename_i h1
    split at hr
    · cases hr; exact .inr (.inl ⟨.inl rfl, rfl⟩)
    · rename_i h2
      rcases h.write (.inl rfl) (by omega) (by have : ¬ 16384 < value.length := fun h => h2 (.inl h); omega) (fun h => by cases h) (by have : ¬ L.d.npages < (partsF key value).length := fun h => h2 (.inr h); omega) hr with h3 | ⟨h3, h4⟩ | h3
      · exact .inl h3
      · exact .inr (.inl ⟨.inr (.inr h3), h4⟩)
      · exact .inr (.inr h3)
/-- the entry of a key that has a value -/
theorem Sess.entry {L : Log} {TD P : List Ent} {er : Option (Nat × Nat)} (h : Sess L TD P er) {k v : Bs} (hv : valL L k = some v) : ∃ e ∈ nowT TD er ++ P, lastK (nowT TD er ++ P) k = some e ∧ e.key = k ∧ e.kind = 1 ∧ e.value = v := by
  rw [h.val k] at hv
  cases hl : lastK (nowT TD er ++ P) k with
  | none => rw [valK_none hl] at hv; cases hv
  | some e =>
    rw [valK_some hl] at hv
    have hm := lastK_mem hl
    unfold valOf at hv
    split at hv
    · rename_i h1; cases hv; exact ⟨e, hm.1, rfl, hm.2, h1, rfl⟩
    · cases hv
theorem Sess.delete {L : Log} {TD P : List Ent} {er : Option (Nat × Nat)} (h : Sess L TD P er) {key : Bs} {c : Nat} {L' : Log} (hr : deleteF L key = (c, L')) :
    (valL L key = none ∧ c = 3 ∧ L' = L) ∨ (∃ v, valL L key = some v ∧ ((c = 0 ∧ ∃ TD' P' er', Grown L L' TD P er TD' P' er' ⟨2, L.number, 0, 0, key, []⟩) ∨ (c = 10 ∧ L' = L ∧ writeF L 2 key [] = (10, L)) ∨ (c = 11 ∧ Fell L L' TD P ⟨2, L.number, 0, 0, key, []⟩))) := by
  unfold deleteF at hr
  rw [h.getv key] at hr
  cases hv : valL L key with
  | none => rw [hv] at hr; cases hr; exact .inl ⟨rfl, rfl, rfl⟩
  | some v =>
    rw [hv] at hr
    simp only at hr
    right
    refine ⟨v, rfl, ?_⟩
    obtain ⟨e, he, -, hek, -, -⟩ := h.entry hv
    obtain ⟨ew, es⟩ := h.core.ents he
    have hpg : (partsF key []).length ≤ L.d.npages := by
      have h1 : e.pages = (partsF e.key e.value).length := (congrArg Ent.pages es).symm
      obtain ⟨i, j, hij⟩ := mem_eat h.core.rep he
      obtain ⟨b, hb, hbe⟩ := hij
      have h2 := h.core.inv.wf.el b (List.mem_of_getElem? hb)
      have h3 := h.core.inv.wf.nl b (List.mem_of_getElem? hb)
      have h4 : e.pages ≤ pagesOf b.entries := by
        have hm := List.mem_of_getElem? hbe
        have go : ∀ l : List Ent, e ∈ l → e.pages ≤ pagesOf l := by
          intro l
          induction l with
          | nil => intro h; cases h
          | cons x r ih =>
            intro h
            unfold pagesOf at ih ⊢
            rw [List.map_cons, List.sum_cons]
            rcases List.mem_cons.1 h with h | h
            · subst h; omega
            · have := ih h; omega
        exact go _ hm
      rw [partsF_len] at h1 ⊢
      rw [← hek]
      simp only [List.length_nil]
      omega
    have hky := ew.arg.key
    rw [hek] at hky
    rcases h.write (.inr rfl) hky (Nat.zero_le _) (fun _ => rfl) hpg hr with h3 | ⟨h3, h4⟩ | h3
    · exact .inl h3
    · subst h3 h4; exact .inr (.inl ⟨rfl, rfl, hr⟩)
    · exact .inr (.inr h3)
/-- Open of the same device -/
theorem Sess.reopen {L : Log} {TD P : List Ent} {er : Option (Nat × Nat)} (h : Sess L TD P er) : openF L.d = (0, some (loadF (log0 L.d)), L.d) ∧ Sess (loadF (log0 L.d)) TD P er ∧ ∀ k, valL (loadF (log0 L.d)) k = valL L k := by
  have hc := h.core.reload
  obtain ⟨j, b, hj, hj0, -⟩ := h.free
  have hjl := (List.getElem?_eq_some_iff.1 hj).1
  obtain ⟨bn, hbn, hnx⟩ := h.core.inv.blk hj
  have hb' : (loadF (log0 L.d)).blocks[j]? = some (scanF bn) := by show (L.d.now.map scanF)[j]? = _; rw [List.getElem?_map, hbn]; rfl
  have h0 : (scanF bn).next = 0 := by show nextF bn = 0; rw [← hnx]; exact hj0
  have hs : Sess (loadF (log0 L.d)) TD P er := ⟨hc, ⟨j, _, hb', h0, by show (j : Int) ≠ -1; omega⟩, fun o b ho => (by have : (-1 : Int) = (o : Int) := ho; omega), rfl⟩
  refine ⟨openF_free (by have := h.core.inv.wf.nb.1; rw [h.core.inv.wf.bl] at this; omega) hs.hasFree, hs, fun k => by rw [hs.val k, h.val k]⟩
theorem Sess.sync {L : Log} {TD P : List Ent} {er : Option (Nat × Nat)} (h : Sess L TD P er) {c : Nat} {L' : Log} (hr : syncF L = (c, L')) :
    (c = 0 ∧ Sess L' (nowT TD er ++ P) [] none ∧ (On L.d → On L'.d) ∧ (∀ k, valL L' k = valL L k)) ∨ (c = 11 ∧ L'.broken = true ∧ ¬ On L.d ∧ ∀ may, Hist TD P may → Safe L'.d may) := by
  rcases hs : syncD L.d with ⟨c1, D'⟩
  have hcode := syncD_code hs
  have hcore := h.core.sync hs
  cases c1 with
  | zero =>
    rw [syncF_ok h.unb hs] at hr
    cases hr
    have h1 := hcore.1 rfl
    have hs1 : Sess { L with d := D' } (nowT TD er ++ P) [] none := ⟨h1, h.free, h.onz, h.unb⟩
    refine .inl ⟨rfl, hs1, fun ho => (hcode.2 ho).2, fun k => ?_⟩
    rw [hs1.val k, h.val k, List.append_nil]
    rfl
  | succ c1 =>
    rw [syncF_err h.unb (Nat.succ_ne_zero c1) hs] at hr
    cases hr
    refine .inr ⟨?_, rfl, fun ho => (by have := (hcode.2 ho).1; cases this), fun may hh => ?_⟩
    · rcases hcode.1 with h9 | h9
      · cases h9
      · exact h9
    · exact (hcore.2 (Nat.succ_ne_zero c1)).safe hh (.inl ((free_iff _).2 (by obtain ⟨j, b, q1, q2, -⟩ := h.free; exact ⟨j, b, q1, q2⟩)))
end Go.Proofs.Ytepigkjgjlibcaa
