/- Chapter 23, plain: what a device keeps: its blocks have no holes; Program, Erase, Sync, page by page. Chapter 23, plain: the bounds of a log hold on: program, begin, clean, write. Chapter 23: package flashlog: program under the log's bounds; a block is emptied. Chapter 23: package flashlog: clean. -/
import Derived.Test.YtepigkjgjlibcaaGAM
namespace Go.Proofs.Ytepigkjgjlibcaa
open Go.RowKit Go.Deep Go.Proofs.Ytepigkjgjlibcaa.FL
/-- a block without holes, of np whole pages -/
structure BlkOk (np : Nat) (b : Blk) : Prop where
  len : b.pages.length = np
  wf : BlkWf b
  rest : ∀ j, nextF b ≤ j → j < np → b.pages[j]? = some none
structure DevOk (D : Dev) : Prop where
  np : 1 ≤ D.npages ∧ D.npages ≤ 32
  nb : 1 ≤ D.now.length ∧ D.now.length ≤ 64
  now : ∀ b ∈ D.now, BlkOk D.npages b
  dur : ∀ b ∈ D.durable, BlkOk D.npages b
  lens : D.durable.length = D.now.length
  ops : ∀ o ∈ D.pending, o.block < D.now.length ∧ o.page < D.npages
theorem next_some {b : Blk} {j : Nat} (h : j < nextF b) : ∃ x, b.pages[j]? = some (some x) := by
  have h1 := nextF_le b
  have hj : j < b.pages.length := by omega
  have h2 := List.not_of_lt_findIdx (p := fun p => Option.isNone p) (xs := b.pages) (i := j) h
  rw [List.getElem?_eq_getElem hj]
  cases hp : b.pages[j] with
  | none => rw [hp] at h2; simp at h2
  | some x => exact ⟨x, rfl⟩
theorem next_eq {b : Blk} {k : Nat} (hk : k ≤ b.pages.length) (h1 : ∀ j, j < k → ∃ x, b.pages[j]? = some (some x)) (h2 : k < b.pages.length → b.pages[k]? = some none) : nextF b = k := by
  have hle := nextF_le b
  rcases Nat.lt_trichotomy (nextF b) k with h | h | h
  · obtain ⟨x, hx⟩ := h1 _ h
    have hlt : nextF b < b.pages.length := by omega
    have h3 := List.findIdx_getElem (p := fun p => Option.isNone p) (xs := b.pages) (w := hlt)
    rw [List.getElem?_eq_getElem hlt] at hx
    simp only [Option.some.injEq] at hx
    have h4 : Option.isNone (b.pages[nextF b]'hlt) = true := h3
    rw [hx] at h4
    simp at h4
  · exact h
  · obtain ⟨x, hx⟩ := next_some h
    rw [h2 (by omega)] at hx
    simp at hx
theorem next_at {b : Blk} {np : Nat} (h : BlkOk np b) (hk : nextF b < np) : b.pages[nextF b]? = some none := h.rest _ (Nat.le_refl _) hk
/-- a page more -/
theorem BlkOk.put {np : Nat} {b : Blk} (h : BlkOk np b) (hk : nextF b < np) {x : Bs} (hx : x.length = 512) : BlkOk np (setPage b (nextF b) (some x)) ∧ nextF (setPage b (nextF b) (some x)) = nextF b + 1 := by
  have hl : (setPage b (nextF b) (some x)).pages.length = np := by unfold setPage; simp [h.len]
  have hlb := h.len
  have hn : nextF (setPage b (nextF b) (some x)) = nextF b + 1 := by
    refine next_eq (by rw [hl]; omega) (fun j hj => ?_) (fun hj => ?_)
    · unfold setPage
      by_cases hjk : j = nextF b
      · subst hjk; exact ⟨x, List.getElem?_set_self (by omega)⟩
      · rw [List.getElem?_set_ne (Ne.symm hjk)]; exact next_some (by omega)
    · rw [hl] at hj
      unfold setPage
      rw [List.getElem?_set_ne (by omega)]
      exact h.rest _ (by omega) hj
  refine ⟨⟨hl, fun y hy => ?_, fun j hj hj2 => ?_⟩, hn⟩
  · unfold setPage at hy
    rcases List.mem_or_eq_of_mem_set hy with h1 | h1
    · exact h.wf y h1
    · cases h1; exact hx
  · rw [hn] at hj
    unfold setPage
    rw [List.getElem?_set_ne (by omega)]
    exact h.rest j (by omega) hj2
theorem erase_ok {np : Nat} {b : Blk} (h : BlkOk np b) : BlkOk np (eraseB b) ∧ nextF (eraseB b) = 0 := by
  have hn : nextF (eraseB b) = 0 := next_eq (Nat.zero_le _) (fun j hj => absurd hj (by omega)) (fun hj => by unfold eraseB at hj ⊢; simp only [List.length_replicate] at hj; rw [List.getElem?_replicate, if_pos hj])
  refine ⟨⟨by unfold eraseB; simp [h.len], fun x hx => (by unfold eraseB at hx; simp only at hx; have := List.eq_of_mem_replicate hx; cases this), fun j _ hj => ?_⟩, hn⟩
  unfold eraseB
  rw [List.getElem?_replicate, if_pos (by rw [h.len]; exact hj)]
theorem mem_set_or {α : Type} {l : List α} {i : Nat} {x y : α} (h : y ∈ l.set i x) : y ∈ l ∨ y = x := List.mem_or_eq_of_mem_set h
theorem npages_any {D' : Dev} {n : Nat} (h0 : D'.now ≠ []) (hl : ∀ b ∈ D'.now, b.pages.length = n) : D'.npages = n := by
  unfold Dev.npages
  cases hd : D'.now with
  | nil => exact absurd hd h0
  | cons b r => rw [hd] at hl; exact hl b (List.mem_cons_self ..)
theorem DevOk.ne {D : Dev} (h : DevOk D) : D.now ≠ [] := by intro e; have := h.nb.1; rw [e] at this; simp at this
/-- the device with other blocks -/
theorem DevOk.of {D D' : Dev} (h : DevOk D) (hn : ∀ b ∈ D'.now, BlkOk D.npages b) (hd : ∀ b ∈ D'.durable, BlkOk D.npages b) (l1 : D'.now.length = D.now.length) (l2 : D'.durable.length = D.now.length) (ho : ∀ o ∈ D'.pending, o.block < D.now.length ∧ o.page < D.npages) : DevOk D' ∧ D'.npages = D.npages := by
  have h0 : D'.now ≠ [] := by intro e; have := h.nb.1; rw [e] at l1; simp at l1; omega
  have hp : D'.npages = D.npages := npages_any h0 (fun b hb => (hn b hb).len)
  exact ⟨⟨by rw [hp]; exact h.np, by rw [l1]; exact h.nb, by rw [hp]; exact hn, by rw [hp]; exact hd, by rw [l1, l2], by rw [hp, l1]; exact ho⟩, hp⟩
theorem power_ok {D : Dev} (h : DevOk D) : DevOk (powerF D).2 ∧ (powerF D).2.npages = D.npages := by
  obtain ⟨s1, s2, s3, s4⟩ := powerF_same (D := D)
  exact h.of (by rw [s1]; exact h.now) (by rw [s3]; exact h.dur) (by rw [s1]) (by rw [s3]; exact h.lens) (by rw [s2]; exact h.ops)
/-- what Program does to the blocks -/
theorem program_cases {D : Dev} (h : DevOk D) {o p : Nat} {b : Blk} (hb : D.now[o]? = some b) {x : Bs} (hx : x.length ≤ 512) {c : Nat} {D' : Dev} (e : programD D o p x = (c, D')) :
    DevOk D' ∧ D'.npages = D.npages ∧ D'.durable = D.durable ∧ ((c ≠ 0 ∧ D'.now = D.now ∧ D'.pending = D.pending) ∨
      (c = 0 ∧ nextF b = p ∧ p < D.npages ∧ D'.now = D.now.set o (setPage b p (some (filled x))) ∧ D'.pending = D.pending ++ [⟨o, p, some (filled x)⟩])) := by
  obtain ⟨s1, s2, s3, s4⟩ := powerF_same (D := D)
  by_cases hk : p < D.npages
  · by_cases hn : nextF b = p
    · cases hp : (powerF D).1 with
      | false =>
        rw [programD_down hb hk hx hn hp] at e
        cases e
        exact ⟨(power_ok h).1, s4, s3, .inl ⟨by decide, s1, s2⟩⟩
      | true =>
        rw [programD_ok hb hk hx hn hp] at e
        cases e
        have hbm := h.now b (List.mem_of_getElem? hb)
        have hput := hbm.put (x := filled x) (by rw [hn]; exact hk) (filled_len hx)
        rw [hn] at hput
        have h1 : ∀ y ∈ ((powerF D).2.now.set o (setPage b p (some (filled x)))), BlkOk D.npages y := fun y hy => by
          rw [s1] at hy
          rcases mem_set_or hy with h2 | h2
          · exact h.now y h2
          · rw [h2]; exact hput.1
        have h3 := h.of (D' := { (powerF D).2 with now := (powerF D).2.now.set o (setPage b p (some (filled x))), pending := (powerF D).2.pending ++ [⟨o, p, some (filled x)⟩] }) h1 (by simp only; rw [s3]; exact h.dur) (by simp only [List.length_set]; rw [s1]) (by simp only; rw [s3]; exact h.lens) (fun q hq => by
          simp only at hq
          rcases List.mem_append.1 hq with h2 | h2
          · rw [s2] at h2; exact h.ops q h2
          · rw [List.mem_singleton] at h2; subst h2; exact ⟨(List.getElem?_eq_some_iff.1 hb).1, hk⟩)
        exact ⟨h3.1, h3.2, s3, .inr ⟨rfl, hn, hk, by simp only; rw [s1], by simp only; rw [s2]⟩⟩
    · rw [programD_state hb hk hx hn] at e
      cases e
      exact ⟨h, rfl, rfl, .inl ⟨by decide, rfl, rfl⟩⟩
  · rw [programD_big hb (by omega)] at e
    cases e
    exact ⟨h, rfl, rfl, .inl ⟨by decide, rfl, rfl⟩⟩
theorem erase_cases {D : Dev} (h : DevOk D) {i : Nat} {b : Blk} (hb : D.now[i]? = some b) {c : Nat} {D' : Dev} (e : eraseD D i = (c, D')) :
    DevOk D' ∧ D'.npages = D.npages ∧ D'.durable = D.durable ∧ ((c ≠ 0 ∧ D'.now = D.now ∧ D'.pending = D.pending) ∨ (c = 0 ∧ D'.now = D.now.set i (eraseB b) ∧ D'.pending = D.pending ++ [⟨i, 0, none⟩])) := by
  obtain ⟨s1, s2, s3, s4⟩ := powerF_same (D := D)
  cases hp : (powerF D).1 with
  | false =>
    rw [eraseD_down hb hp] at e
    cases e
    exact ⟨(power_ok h).1, s4, s3, .inl ⟨by decide, s1, s2⟩⟩
  | true =>
    rw [eraseD_ok hb hp] at e
    cases e
    have hbm := erase_ok (h.now b (List.mem_of_getElem? hb))
    have h3 := h.of (D' := { (powerF D).2 with now := (powerF D).2.now.set i (eraseB b), pending := (powerF D).2.pending ++ [⟨i, 0, none⟩] }) (fun y hy => by
        simp only at hy
        rw [s1] at hy
        rcases mem_set_or hy with h2 | h2
        · exact h.now y h2
        · rw [h2]; exact hbm.1) (by simp only; rw [s3]; exact h.dur) (by simp only [List.length_set]; rw [s1]) (by simp only; rw [s3]; exact h.lens) (fun q hq => by
        simp only at hq
        rcases List.mem_append.1 hq with h2 | h2
        · rw [s2] at h2; exact h.ops q h2
        · rw [List.mem_singleton] at h2; subst h2; exact ⟨(List.getElem?_eq_some_iff.1 hb).1, h.np.1⟩)
    exact ⟨h3.1, h3.2, s3, .inr ⟨rfl, by simp only; rw [s1], by simp only; rw [s2]⟩⟩
theorem sync_cases {D : Dev} (h : DevOk D) {c : Nat} {D' : Dev} (e : syncD D = (c, D')) :
    DevOk D' ∧ D'.npages = D.npages ∧ D'.now = D.now ∧ ((c ≠ 0 ∧ D'.durable = D.durable ∧ D'.pending = D.pending) ∨ (c = 0 ∧ D'.durable = D.now ∧ D'.pending = [])) := by
  obtain ⟨s1, s2, s3, s4⟩ := powerF_same (D := D)
  cases hp : (powerF D).1 with
  | false =>
    rw [syncD_down hp] at e
    cases e
    exact ⟨(power_ok h).1, s4, s1, .inl ⟨by decide, s3, s2⟩⟩
  | true =>
    rw [syncD_ok hp] at e
    cases e
    have h3 := h.of (D' := { (powerF D).2 with durable := (powerF D).2.now, pending := [] }) (by simp only; rw [s1]; exact h.now) (by simp only; rw [s1]; exact h.now) (by simp only; rw [s1]) (by simp only; rw [s1]) (fun q hq => by cases hq)
    exact ⟨h3.1, h3.2, s1, .inr ⟨rfl, s1, rfl⟩⟩
/-- the pages of an entry on the device -/
theorem progPages_cases {e : Ent} {seg o n : Nat} : ∀ (ps : List Bs) (i next : Nat) (D : Dev) (b : Blk), DevOk D → D.now[o]? = some b → nextF b = next → (∀ j x, ps[j]? = some x → (pageF e seg (i + j) n x).length = 512) →
    ∀ {c : Nat} {D' : Dev} {nx : Nat}, progPages e seg o n ps i next D = (c, D', nx) →
    DevOk D' ∧ D'.npages = D.npages ∧ D'.durable = D.durable ∧ D'.pending.length ≤ D.pending.length + ps.length ∧ next ≤ nx ∧ nx ≤ next + ps.length ∧ (c = 0 → nx = next + ps.length) ∧
      ∃ b', D'.now = D.now.set o b' ∧ BlkOk D.npages b' ∧ nextF b' = nx ∧ b'.worn = b.worn ∧ (∀ j, j < next → b'.pages[j]? = b.pages[j]?) ∧ (∀ j x, ps[j]? = some x → next + j < nx → b'.pages[next + j]? = some (some (pageF e seg (i + j) n x))) ∧ nx ≤ D.npages := by
  intro ps
  induction ps with
  | nil =>
    intro i next D b hD hb hn hl c D' nx hr
    unfold progPages at hr
    cases hr
    have hbo := hD.now b (List.mem_of_getElem? hb)
    refine ⟨hD, rfl, rfl, Nat.le_refl _, Nat.le_refl _, Nat.le_refl _, fun _ => rfl, b, (set_self' hb).symm, hbo, hn, rfl, fun j _ => rfl, fun j x hx => by simp at hx, ?_⟩
    have := nextF_le b
    rw [hbo.len] at this
    omega
  | cons x r ih =>
    intro i next D b hD hb hn hl c D' nx hr
    rw [progPages_cons] at hr
    have hx0 := hl 0 x rfl
    rw [Nat.add_zero] at hx0
    rcases hp : programD D o next (pageF e seg i n x) with ⟨cd, D1⟩
    rw [hp] at hr
    obtain ⟨h1, h2, h3, h4⟩ := program_cases hD hb (by omega) hp
    have hbo := hD.now b (List.mem_of_getElem? hb)
    have hob := (List.getElem?_eq_some_iff.1 hb).1
    rcases h4 with ⟨hc, h5, h6⟩ | ⟨hc, h5, h6, h7, h8⟩
    · cases cd with
      | zero => exact absurd rfl hc
      | succ cd =>
        cases hr
        refine ⟨h1, h2, h3, by rw [h6]; exact Nat.le_add_right _ _, Nat.le_refl _, Nat.le_add_right _ _, fun h => absurd h hc, b, by rw [h5]; exact (set_self' hb).symm, hbo, hn, rfl, fun j _ => rfl, fun j y _ hj => absurd hj (by omega), ?_⟩
        have := nextF_le b
        rw [hbo.len] at this
        omega
    · subst hc
      simp only at hr
      have hfl : filled (pageF e seg i n x) = pageF e seg i n x := by unfold filled; rw [hx0]; simp
      rw [hfl] at h7 h8
      have hput := hbo.put (x := pageF e seg i n x) (by rw [hn]; exact h6) hx0
      rw [hn] at hput
      obtain ⟨g1, g2, g3, g4, g5, g6, g7, b', g8, g9, g10, g11, g12, g13, g14⟩ := ih (i + 1) (next + 1) D1 (setPage b next (some (pageF e seg i n x))) h1 (by rw [h7]; exact List.getElem?_set_self hob) hput.2 (fun j y hy => by have := hl (j + 1) y hy; rw [show i + (j + 1) = i + 1 + j by omega] at this; exact this) hr
      refine ⟨g1, by rw [g2, h2], by rw [g3, h3], by rw [h8] at g4; simp only [List.length_append, List.length_singleton] at g4; rw [List.length_cons]; omega, by omega, by rw [List.length_cons]; omega, fun h => by rw [g7 h, List.length_cons]; omega, b', by rw [g8, h7, List.set_set], by rw [← h2]; exact g9, g10, by rw [g11]; rfl, fun j hj => ?_, fun j y hy hj => ?_, by rw [← h2]; exact g14⟩
      · rw [g12 j (by omega)]
        unfold setPage
        rw [List.getElem?_set_ne (by omega)]
      · cases j with
        | zero =>
          cases hy
          rw [Nat.add_zero, Nat.add_zero, g12 next (by omega)]
          unfold setPage
          exact List.getElem?_set_self (by rw [hbo.len]; exact h6)
        | succ j =>
          have := g13 j y hy (by omega)
          rw [show next + 1 + j = next + (j + 1) by omega, show i + 1 + j = i + (j + 1) by omega] at this
          exact this
end Go.Proofs.Ytepigkjgjlibcaa
namespace Go.Proofs.Ytepigkjgjlibcaa
open Go.RowKit Go.Deep Go.Proofs.Ytepigkjgjlibcaa.FL
structure LogInv (L : Log) : Prop where
  wf : LogWf L
  dev : DevOk L.d
/-- an entry that is to be written -/
structure EArg (e : Ent) : Prop where
  kind : e.kind = 1 ∨ e.kind = 2
  num : e.number ≤ far
  key : 1 ≤ e.key.length ∧ e.key.length ≤ 2048
  val : e.value.length ≤ 16384
theorem EArg.parts {e : Ent} (h : EArg e) : 1 ≤ (partsF e.key e.value).length ∧ (partsF e.key e.value).length ≤ 39 := by
  rw [partsF_len]
  have h1 := numF_pos e.key.length
  have h2 : (numF e.key.length).length ≤ 2 := numF_small2 (k := 1) (by have := h.key.2; omega)
  have := h.key
  have := h.val
  omega
theorem EntOk.arg {e : Ent} (h : EntOk e) : EArg e := ⟨h.kind, h.num, h.key, h.val⟩
/-- one block and the device change -/
theorem LogWf.upd {L : Log} (h : LogWf L) {o : Nat} {b nb : LB} {p p' : Blk} {D' : Dev} (hb : L.blocks[o]? = some b) (hp : L.d.now[o]? = some p) (hnow : D'.now = L.d.now.set o p') (hnp : D'.npages = L.d.npages) (h1 : nb.next = nextF p') (h2 : nb.next ≤ L.d.npages) (h3 : pagesOf nb.entries ≤ nb.next)
    (h4 : nb.segment ≤ far ∧ nb.number ≤ far ∧ ∀ e ∈ nb.entries, EntOk e) (br : Bool) : LogWf { L with d := D', blocks := L.blocks.set o nb, broken := br } := by
  refine ⟨by simp only [List.length_set]; rw [hnow, List.length_set]; exact h.bl, by simp only [List.length_set]; exact h.nb, fun i c q hc hq => ?_, by simp only; rw [hnp]; exact h.np, fun c hc => ?_, fun c hc => ?_, fun c hc => ?_, by simp only [List.length_set]; exact h.op, h.num, h.seg⟩
  · simp only at hc hq
    rw [hnow] at hq
    by_cases hio : i = o
    · subst hio
      rw [List.getElem?_set_self (List.getElem?_eq_some_iff.1 hb).1] at hc
      rw [List.getElem?_set_self (List.getElem?_eq_some_iff.1 hp).1] at hq
      cases hc
      cases hq
      exact h1
    · rw [List.getElem?_set_ne (Ne.symm hio)] at hc hq
      exact h.nx i c q hc hq
  · simp only at hc ⊢
    rw [hnp]
    rcases mem_set_or hc with h5 | h5
    · exact h.nl c h5
    · rw [h5]; exact h2
  · rcases mem_set_or hc with h5 | h5
    · exact h.el c h5
    · rw [h5]; exact h3
  · rcases mem_set_or hc with h5 | h5
    · exact h.ok c h5
    · rw [h5]; exact h4
theorem LogInv.blk {L : Log} (h : LogInv L) {o : Nat} {b : LB} (hb : L.blocks[o]? = some b) : ∃ p, L.d.now[o]? = some p ∧ b.next = nextF p := by
  have ho := (List.getElem?_eq_some_iff.1 hb).1
  rw [h.wf.bl] at ho
  exact ⟨_, List.getElem?_eq_getElem ho, h.wf.nx o b _ hb (List.getElem?_eq_getElem ho)⟩
/-- what program leaves -/
structure ProgOut (L : Log) (o : Nat) (e : Ent) (c : Nat) (L' : Log) : Prop where
  inv : LogInv L'
  open_ : L'.open_ = L.open_
  number : L'.number = L.number
  segment : L'.segment = L.segment
  cleaned : L'.cleaned = L.cleaned
  npages : L'.d.npages = L.d.npages
  durable : L'.d.durable = L.d.durable
  pend : L'.d.pending.length ≤ L.d.pending.length + 39
  len : L'.blocks.length = L.blocks.length
  other : ∀ i, i ≠ o → L'.blocks[i]? = L.blocks[i]? ∧ L'.d.now[i]? = L.d.now[i]?
  ok : c = 0 → L'.broken = L.broken
  bad : c ≠ 0 → L'.broken = true
theorem programF_out {L : Log} (h : LogInv L) {o : Nat} {b : LB} (ho : L.open_ = (o : Int)) (hb : L.blocks[o]? = some b) {e : Ent} (he : EArg e) : ProgOut L o e (programF L e).1 (programF L e).2 := by
  obtain ⟨p, hp, hn⟩ := h.blk hb
  have hbm := List.mem_of_getElem? hb
  have hseg := (h.wf.ok b hbm).1
  have hparts := he.parts
  rcases hr : progPages e b.segment o (partsF e.key e.value).length (partsF e.key e.value) 0 b.next L.d with ⟨c, D', nx⟩
  obtain ⟨g1, g2, g3, g4, g5, g6, g7, p', g8, g9, g10, g11, g12, g13, g14⟩ := progPages_cases _ 0 b.next L.d p h.dev hp hn.symm (fun j x hx => by
    have h1 := partsF_le x (List.mem_of_getElem? hx)
    have h2 := (List.getElem?_eq_some_iff.1 hx).1
    exact pageF_len (by
      have := page_enc (kind := e.kind) (number := e.number) (seg := b.segment) (i := 0 + j) (n := (partsF e.key e.value).length) (x := x) he.num hseg (by omega) (by omega) h1.1
      omega)) hr
  have hpf := programF_at ho hb e
  rw [hr] at hpf
  have hoth : ∀ (nb : LB) (i : Nat), i ≠ o → (L.blocks.set o nb)[i]? = L.blocks[i]? ∧ D'.now[i]? = L.d.now[i]? := fun nb i hi => ⟨List.getElem?_set_ne (Ne.symm hi), by rw [g8]; exact List.getElem?_set_ne (Ne.symm hi)⟩
  have hel := h.wf.el b hbm
  cases c with
  | zero =>
    simp only at hpf
    rw [hpf]
    have hnx := g7 rfl
    refine ⟨⟨h.wf.upd (nb := ⟨nx, b.segment, max b.number e.number, b.entries ++ [⟨e.kind, e.number, b.segment, (partsF e.key e.value).length, e.key, e.value⟩]⟩) hb hp g8 g2 g10.symm g14 ?_ ⟨hseg, ?_, ?_⟩ L.broken, g1⟩, rfl, rfl, rfl, rfl, g2, g3, by simp only; omega, by simp only [List.length_set], hoth _, fun _ => rfl, fun h => absurd rfl h⟩
    · simp only
      rw [pagesOf_snoc]
      simp only
      omega
    · simp only
      have := (h.wf.ok b hbm).2.1
      have := he.num
      omega
    · intro x hx
      rcases List.mem_append.1 hx with h5 | h5
      · exact (h.wf.ok b hbm).2.2 x h5
      · rw [List.mem_singleton] at h5
        subst h5
        exact ⟨he.kind, he.num, hseg, ⟨hparts.1, by have := h.wf.np.2; simp only; omega⟩, he.key, he.val⟩
  | succ c =>
    simp only at hpf
    rw [hpf]
    refine ⟨⟨h.wf.upd (nb := { b with next := nx }) hb hp g8 g2 g10.symm g14 ?_ (h.wf.ok b hbm) true, g1⟩, rfl, rfl, rfl, rfl, g2, g3, by simp only; omega, by simp only [List.length_set], hoth _, fun h => absurd h (Nat.succ_ne_zero _), fun _ => rfl⟩
    simp only
    omega
theorem beginF_inv {L : Log} (h : LogInv L) {i : Nat} {b : LB} (hb : L.blocks[i]? = some b) (hs : L.segment ≤ far) : LogInv (beginF L i) ∧ beginF L i = { L with blocks := L.blocks.set i { b with segment := L.segment }, open_ := i, segment := L.segment + 1 } := by
  have e : beginF L i = { L with blocks := L.blocks.set i { b with segment := L.segment }, open_ := i, segment := L.segment + 1 } := by unfold beginF; rw [setLB_at hb]
  obtain ⟨p, hp, hn⟩ := h.blk hb
  have hbm := List.mem_of_getElem? hb
  have hi := (List.getElem?_eq_some_iff.1 hb).1
  have h1 := h.wf.upd (nb := { b with segment := L.segment }) (D' := L.d) hb hp (p' := p) (set_self' hp).symm rfl hn (h.wf.nl b hbm) (h.wf.el b hbm) ⟨hs, (h.wf.ok b hbm).2⟩ L.broken
  refine ⟨?_, e⟩
  rw [e]
  exact ⟨⟨h1.bl, h1.nb, h1.nx, h1.np, h1.nl, h1.el, h1.ok, ⟨by simp only; omega, by simp only [List.length_set]; omega⟩, h1.num, ⟨by simp only; omega, by simp only; omega⟩⟩, h.dev⟩
theorem LogInv.number {L : Log} (h : LogInv L) {n : Nat} (hn : 1 ≤ n ∧ n ≤ far + 1) : LogInv { L with number := n } :=
  ⟨⟨h.wf.bl, h.wf.nb, h.wf.nx, h.wf.np, h.wf.nl, h.wf.el, h.wf.ok, h.wf.op, hn, h.wf.seg⟩, h.dev⟩
theorem LogInv.dev_ {L : Log} (h : LogInv L) {D : Dev} (hD : DevOk D) (hn : D.now = L.d.now) (hp : D.npages = L.d.npages) (br : Bool) : LogInv { L with d := D, broken := br } :=
  ⟨⟨by simp only; rw [hn]; exact h.wf.bl, h.wf.nb, by simp only; rw [hn]; exact h.wf.nx, by simp only; rw [hp]; exact h.wf.np, by simp only; rw [hp]; exact h.wf.nl, h.wf.el, h.wf.ok, h.wf.op, h.wf.num, h.wf.seg⟩, hD⟩
theorem LogInv.cleaned {L : Log} (h : LogInv L) (n : Int) : LogInv { L with cleaned := n } :=
  ⟨⟨h.wf.bl, h.wf.nb, h.wf.nx, h.wf.np, h.wf.nl, h.wf.el, h.wf.ok, h.wf.op, h.wf.num, h.wf.seg⟩, h.dev⟩
theorem syncF_inv {L : Log} (h : LogInv L) : LogInv (syncF L).2 := by
  cases hb : L.broken with
  | true => have : syncF L = (6, L) := by unfold syncF; rw [hb]; rfl
            rw [this]; exact h
  | false =>
    rcases hs : syncD L.d with ⟨c, d⟩
    obtain ⟨h1, h2, h3, -⟩ := sync_cases h.dev hs
    cases c with
    | zero => rw [syncF_ok hb hs]; have := h.dev_ h1 h3 h2 L.broken; exact this
    | succ c => rw [syncF_err hb (Nat.succ_ne_zero c) hs]; exact h.dev_ h1 h3 h2 true
end Go.Proofs.Ytepigkjgjlibcaa
namespace Go.Proofs.Ytepigkjgjlibcaa
open Go.RowKit Go.Deep Go.Proofs.Ytepigkjgjlibcaa.FL
set_option maxRecDepth 100000
theorem prog_any {w : World} {S : Nat → Prop} {l dv : Nat} {L : Log} (h : LogOn w S l dv L) (hi : LogInv L) {o : Nat} {b : LB} (ho : L.open_ = (o : Int)) (hb : L.blocks[o]? = some b) {e : Ent} {v : Value} (hv : BS w v e.value) (s0 p0 : Int) (he : EArg e) (hpd : L.d.pending.length ≤ 900000) :
    Calls Try.prog 58 #[.pointer (some ⟨l, 0, none⟩), .agg #[.int .i64 e.kind, .int .i64 e.number, .int .i64 s0, .int .i64 p0, .string (st e.key), v]] w fun e' w' => e' = .returned (codeV (programF L e).1) ∧ LogStep w w' S l dv (programF L e).2 := by
  obtain ⟨F, SD, G, rfl, h⟩ := h
  have hbm := List.mem_of_getElem? hb
  have h1 := hi.wf.ok b hbm
  have h2 := hi.wf.ents hb
  have h3 := he.parts
  have h4 := he.kind
  have h5 := he.key
  have h6 := he.val
  have h7 := he.num
  unfold far at h1 h7
  exact program_any h ho hb hv s0 p0 (by omega) h7 h1.1 h1.2.1 (by omega) (by omega) (by omega) (by omega) hpd hi.wf.bl
/-- block i is emptied -/
theorem LogAtF.zeroB {w : World} {S SD : Nat → Prop} {l : Nat} {F : LogF} {G : DevF} {L : Log} (h : LogAtF w S l F SD G L) {g c : Nat} (hbv : F.bv = .slice (some ⟨g, 0, none⟩) L.blocks.length c) {i : Nat} {b : LB} (hb : L.blocks[i]? = some b) :
    ∃ S', LogAtF (w.setCells g (i * 4) [.int .i64 0, .int .i64 0, .int .i64 0, .slice none 0 0]) S' l { F with es := F.es.set i (.slice none 0 0) } SD G { L with blocks := L.blocks.set i ⟨0, 0, 0, []⟩ } ∧ Mod S w (w.setCells g (i * 4) [.int .i64 0, .int .i64 0, .int .i64 0, .slice none 0 0]) ∧ ∀ x, S' x → S x := by
  have hi := (List.getElem?_eq_some_iff.1 hb).1
  obtain ⟨u, hu⟩ : ∃ u, F.es[i]? = some u := ⟨_, List.getElem?_eq_getElem (by rw [h.blks.len]; exact hi)⟩
  obtain ⟨h1, hg⟩ := h.block hbv hb (j := 0) (b' := { b with next := 0 }) (v := .int .i64 0) (by decide) (fun u => rfl) rfl
  have hb1 : (L.blocks.set i { b with next := 0 })[i]? = some { b with next := 0 } := List.getElem?_set_self hi
  obtain ⟨h2, -⟩ := h1.block (g := g) (c := c) (by rw [hbv]; simp) hb1 (j := 1) (b' := { b with next := 0, segment := 0 }) (v := .int .i64 0) (by decide) (fun u => rfl) rfl
  simp only [List.set_set] at h2
  have hb2 : (L.blocks.set i { b with next := 0, segment := 0 })[i]? = some { b with next := 0, segment := 0 } := List.getElem?_set_self hi
  obtain ⟨h3, -⟩ := h2.block (g := g) (c := c) (by rw [hbv]; simp) hb2 (j := 2) (b' := { b with next := 0, segment := 0, number := 0 }) (v := .int .i64 0) (by decide) (fun u => rfl) rfl
  simp only [List.set_set] at h3
  have hmg := mod_setCells g [.int .i64 0, .int .i64 0, .int .i64 0, .slice none 0 0] (i * 4) w
  obtain ⟨w3, hw3⟩ : ∃ z, z = ((w.setCell ⟨g, i * 4 + 0, none⟩ (.int .i64 0)).setCell ⟨g, i * 4 + 1, none⟩ (.int .i64 0)).setCell ⟨g, i * 4 + 2, none⟩ (.int .i64 0) := ⟨_, rfl⟩
  have e4 : w.setCells g (i * 4) [.int .i64 0, .int .i64 0, .int .i64 0, .slice none 0 0] = w3.setCell ⟨g, i * 4 + 3, none⟩ (.slice none 0 0) := by rw [hw3]; rfl
  rw [e4] at hmg ⊢
  rw [← hw3] at h3
  have hb3 : (L.blocks.set i { b with next := 0, segment := 0, number := 0 })[i]? = some { b with next := 0, segment := 0, number := 0 } := List.getElem?_set_self hi
  -- the entries' slice becomes nil
  have hb0 := h3.blks
  rw [hbv] at hb0
  have hown := hb0.own
  simp only [List.length_set] at hown
  have hr := (own_row hown).1
  have hm : Mod (fun x => x = g) w3 (w3.setCell ⟨g, i * 4 + 3, none⟩ (.slice none 0 0)) := mod_set w3 g _ _
  have h8 : No8 w3 (fun x => x = g) := no8_row hr (by decide)
  have hlg : l ≠ g := h3.row.apart hr (by decide)
  have hset := own_set hown (i * 4 + 3) (.slice none 0 0) (by rw [flat_len lbCells 4 lbCells_len, List.length_zip, List.length_set, h.blks.len, Nat.min_self]; omega)
  rw [flat_set lbCells 4 lbCells_len ((L.blocks.set i { b with next := 0, segment := 0, number := 0 }).zip F.es) i 3 (by decide) (.slice none 0 0) ({ b with next := 0, segment := 0, number := 0 }, u) (⟨0, 0, 0, []⟩, .slice none 0 0) (zip_some hb3 hu) rfl, zip_set2, List.set_set] at hset
  refine ⟨S, ⟨hm.rowB h3.row hlg, h3.dev.mod hm h8 (fun x hx e => (h3.dev.ty.apart hr (by decide)) (e ▸ hx)), ⟨by simp [h.blks.len], ?_, fun j d y hd hy => ?_, fun j k y z t hjk hy hz hyt => ?_⟩, ⟨h.inS.1, h.inS.2.1, fun y hy x hx => ?_, h.inS.2.2.2⟩, fun x hx => ?_⟩, hmg.mono (fun x _ hx => by rw [show x = g from hx]; exact hg), fun _ h => h⟩
  · simp only [List.length_set]
    rw [hbv]
    exact hset
  · simp only at hd hy
    by_cases hji : j = i
    · subst hji
      rw [List.getElem?_set_self hi] at hd
      rw [List.getElem?_set_self (List.getElem?_eq_some_iff.1 hu).1] at hy
      cases hd
      cases hy
      exact EntsAt.nil _ _
    · rw [List.getElem?_set_ne (Ne.symm hji)] at hd hy
      have h9 := h3.blks.ents j d y (by simp only; rw [List.getElem?_set_ne (Ne.symm hji)]; exact hd) hy
      exact h9.mod hm h8 (fun t ht e => h9.apart hr (by decide) (by rw [ht, show t = g from e]))
  · by_cases hji : j = i
    · subst hji
      rw [List.getElem?_set_self (List.getElem?_eq_some_iff.1 hu).1] at hy
      cases hy
      cases hyt
    · by_cases hki : k = i
      · subst hki
        rw [List.getElem?_set_self (List.getElem?_eq_some_iff.1 hu).1] at hz
        cases hz
        intro e; cases e
      · rw [List.getElem?_set_ne (Ne.symm hji)] at hy
        rw [List.getElem?_set_ne (Ne.symm hki)] at hz
        exact h.blks.apart j k y z t hjk hy hz hyt
  · rcases mem_set_or hy with h5 | h5
    · exact h.inS.2.2.1 y h5 x hx
    · rw [h5] at hx; cases hx
  · by_cases hxg : x = g
    · subst hxg; exact row_typed (own_row hset).1 (by decide)
    · obtain ⟨C, T, fr, h5, h6⟩ := h3.ty x hx
      exact ⟨C, T, fr, (hm.block x (Typed.lt h3.ty hx) hxg).trans h5, h6⟩
theorem progAll_cons (e : Ent) (r : List Ent) (L : Log) : progAll (e :: r) L = (match programF L e with
    | (0, l1) => progAll r l1
    | (c, l1) => (c, l1)) := by
  conv => lhs; unfold progAll
  rfl
end Go.Proofs.Ytepigkjgjlibcaa
namespace Go.Proofs.Ytepigkjgjlibcaa
open Go.RowKit Go.Deep Go.Proofs.Ytepigkjgjlibcaa.FL
set_option maxRecDepth 100000
/-- the log before the k-th program of a list -/
def AllInv (l1 : Log) (o : Nat) (es : List Ent) (k : Nat) (L : Log) : Prop := LogInv L ∧ L.open_ = (o : Int) ∧ L.blocks.length = l1.blocks.length ∧ L.d.pending.length ≤ l1.d.pending.length + 39 * k ∧ progAll es l1 = progAll (es.drop k) L
theorem AllInv.step {l1 : Log} {o : Nat} {es : List Ent} {k : Nat} {L : Log} (h : AllInv l1 o es k L) (ho : o < l1.blocks.length) {e : Ent} (he : es[k]? = some e) (ha : EArg e) :
    ((programF L e).1 = 0 → AllInv l1 o es (k + 1) (programF L e).2) ∧ ((programF L e).1 ≠ 0 → progAll es l1 = programF L e) := by
  obtain ⟨h1, h2, h3, h4, h5⟩ := h
  obtain ⟨b, hb⟩ : ∃ b, L.blocks[o]? = some b := ⟨_, List.getElem?_eq_getElem (by omega)⟩
  have hp := programF_out h1 h2 hb ha
  rw [drop_some he, progAll_cons] at h5
  rcases hpr : programF L e with ⟨c, L'⟩
  rw [hpr] at h5 hp
  constructor
  · intro hc
    simp only at hc
    subst hc
    exact ⟨hp.inv, by rw [hp.open_]; exact h2, by rw [hp.len]; exact h3, by have := hp.pend; simp only at this ⊢; omega, h5⟩
  · intro hc
    cases c with
    | zero => exact absurd rfl hc
    | succ c => exact h5
set_option maxHeartbeats 16000000 in
theorem clean_any {w : World} {S SD : Nat → Prop} {l : Nat} {F : LogF} {G : DevF} {L : Log} (h : LogAtF w S l F SD G L) (hi : LogInv L) {i tb : Nat} {bi bt : LB} (hbi : L.blocks[i]? = some bi) (hbt : L.blocks[tb]? = some bt) (hseg : L.segment ≤ far) (hnum : L.number ≤ far) {e : Ent} (he : EArg e) {v : Value} (hv : BS w v e.value) (hpd : L.d.pending.length ≤ 800000) :
    Calls Try.prog 61 #[.pointer (some ⟨l, 0, none⟩), .int .i64 i, .int .i64 tb, .agg #[.int .i64 e.kind, .int .i64 e.number, .int .i64 e.segment, .int .i64 e.pages, .string (st e.key), v]] w fun e' w' => e' = .returned (codeV (cleanF L i tb e).1) ∧ LogStep w w' S l F.dv (cleanF L i tb e).2 := by
  obtain ⟨A, c, rfl, -, -⟩ := hv.slice
  have hb0 : 0 < L.blocks.length := by have := hi.wf.nb.1; omega
  obtain ⟨g, cb, hlv⟩ := h.v hb0
  have H := Lib.hid h
  have HI := Lib.hid hi
  have HV := Lib.hid hv
  have HEA := Lib.hid he
  have HBI := Lib.hid hbi
  have HBT := Lib.hid hbt
  have HSN := Lib.hid (And.intro hseg (And.intro hnum hpd))
  obtain ⟨w1, hw1⟩ : ∃ z, z = w.alloc (.cells #[.int .i64 e.kind, .int .i64 e.number, .int .i64 e.segment, .int .i64 e.pages, .string (st e.key), .slice A e.value.length c] 90) := ⟨_, rfl⟩
  have HX1 := Lib.hid (show Ext w w1 by rw [hw1]; exact (Ext.refl w).alloc _)
  have HR1 : Hid (RowB w1 w.heap.size 90 [.int .i64 e.kind, .int .i64 e.number, .int .i64 e.segment, .int .i64 e.pages, .string (st e.key), .slice A e.value.length c]) := Lib.hid (by rw [hw1]; exact row_laid w _ _)
  have HLV := Lib.hid (lives_any (hlv.ext HX1.out) hi.wf.nb.2 (wf_ok hi.wf) hbi e.key)
  have HSL := Lib.hid (fun x (hx : S x) => Typed.lt H.out.ty hx)
  obtain ⟨hbg, ebg⟩ := beginF_inv hi hbt hseg
  have HBG := Lib.hid (And.intro hbg ebg)
  obtain ⟨ls, hls⟩ : ∃ z, z = livesF L i e.key := ⟨_, rfl⟩
  rw [← hls] at HLV
  have HLS := Lib.hid (show ls.length ≤ 32 ∧ ∀ x ∈ ls, EntOk x by
    have h1 := livesF_eq hbi e.key
    rw [hls, h1]
    have h2 := livesTo_len L i e.key bi bi.entries.length
    have h3 := (hi.wf.ents hbi).1
    exact ⟨by omega, fun x hx => (hi.wf.ok bi (List.mem_of_getElem? hbi)).2.2 x (livesTo_mem hx)⟩)
  have HLE := Lib.hid hls
  have k4 := HR1.out.cell (j := 4) rfl
  clear h hi hv he hbi hbt hseg hnum hpd hlv hb0 hbg ebg hls
  go_enter Try.func61, Try.ntmps61
  go_upto_region 1 with fail
  rw [← hw1]
  clear hw1
  go_upto_region 2 with (go_at_call 62; refine HLV.out.mono ?_; rintro e' w2 ⟨v2, rfl, hx2, hl2⟩; obtain ⟨A2, c2, rfl⟩ := hl2.slice; have HX2 := Lib.hid hx2; have HL2 := Lib.hid hl2; clear hx2 hl2)
  clear k4
  have H2 := Lib.hid (H.out.ext (HX1.out.trans HX2.out))
  go_upto_region 3 with (go_at_call 59; refine (begin_any H2.out HBT.out (by have := HSN.out.1; unfold far at this; omega) HI.out.wf.nb.2).mono ?_; rintro e' w3 ⟨rfl, hl3, hm3⟩; rw [HBG.out.2] at hl3; have HL3 := Lib.hid hl3; have HM3 := Lib.hid hm3; clear hl3 hm3)
  have c3 := HL3.out.row.cell (j := 3) rfl
  have f3 := HL3.out.row.frozen (j := 3) (by simp)
  simp only at c3
  obtain ⟨nm, hnm⟩ : ∃ z, z = L.number := ⟨_, rfl⟩
  rw [← hnm] at c3
  have hnm2 : nm ≤ 1099511627776 := by rw [hnm]; have := HSN.out.2.1; unfold far at this; exact this
  have HNM := Lib.hid hnm
  clear hnm
  go_upto_region 4 with fail
  obtain ⟨w4, hw4⟩ : ∃ z, z = w3.setCell ⟨l, 3, none⟩ (.int .i64 (nm + 1 : Nat)) := ⟨_, rfl⟩
  rw [show w3.setCell ⟨l, 3, none⟩ (.int .i64 ((nm : Int) + 1)) = w4 by rw [hw4]; rfl]
  obtain ⟨l1, hl1⟩ : ∃ z : Log, z = { beginF L tb with number := L.number + 1 } := ⟨_, rfl⟩
  have hm4 : Mod (fun x => x = l) w3 w4 := by rw [hw4]; exact mod_set w3 l 3 _
  have hr4 := HL3.out.row.set 3 (.int .i64 (nm + 1 : Nat)) (by simp)
  have HL4 : Hid (LogAtF w4 S l F SD G l1) := Lib.hid (by
    have h9 := HL3.out.rec_ (w' := w4) hm4 (nm := nm + 1) (by rw [hw4]; exact hr4)
    rw [hl1, HBG.out.2, ← HNM.out]
    exact h9)
  have HM4 := Lib.hid (show Mod S w w4 from (((Mod.of_ext S (HX1.out.trans HX2.out)).then HM3.out (fun x hx => .inl hx)).then hm4 (fun x hx => .inl (by rw [show x = l from hx]; exact H.out.inS.1))))
  have HM24 := Lib.hid (show Mod S w2 w4 from HM3.out.then hm4 (fun x hx => .inl (by rw [show x = l from hx]; exact H.out.inS.1)))
  have HI1 := Lib.hid (show LogInv l1 by
    rw [hl1]
    exact HBG.out.1.number ⟨by have := HI.out.wf.num.1; omega, by have := HSN.out.2.1; omega⟩)
  have HL1P := Lib.hid (show l1.open_ = (tb : Int) ∧ l1.blocks.length = L.blocks.length ∧ l1.d.pending.length = L.d.pending.length by
    rw [hl1, HBG.out.2]
    exact ⟨rfl, by simp only [List.length_set], rfl⟩)
  have HCL := Lib.hid (show cleanF L i tb e = (match progAll (ls ++ [e]) l1 with
      | (0, l2) => match syncD l2.d with
        | (0, d3) => match eraseD d3 i with
          | (0, d4) => (0, { setLB l2 i (fun _ => ⟨0, 0, 0, []⟩) with d := d4, cleaned := wrp (l2.cleaned + 1) })
          | (c, d4) => (c, { l2 with d := d4, broken := true })
        | (c, d3) => (c, { l2 with d := d3, broken := true })
      | (c, l2) => (c, l2)) by rw [hl1, HLE.out]; rfl)
  have H82 := Lib.hid (H2.out.no8)
  have HE4 := Lib.hid (HL2.out.mod HM24.out H82.out (fun x hx hS => by have h1 := HL2.out.base x hx; have h2 := HSL.out x hS; have h3 := HX1.out.size; omega))
  have HR4 := Lib.hid (HM24.out.rowB (HR1.out.ext HX2.out) (fun hS => by have h2 := HSL.out _ hS; omega))
  have HV4 := Lib.hid ((HV.out.ext (HX1.out.trans HX2.out)).mod HM24.out H82.out)
  clear hw4 hm4 hr4 c3 f3 hl1
  have e0 := HR4.out.cell (j := 0) rfl
  have e1 := HR4.out.cell (j := 1) rfl
  have e2 := HR4.out.cell (j := 2) rfl
  have e3 := HR4.out.cell (j := 3) rfl
  have e4 := HR4.out.cell (j := 4) rfl
  have e5 := HR4.out.cell (j := 5) rfl
  have HSZ := Lib.hid (show w1.heap.size ≤ w4.heap.size from Nat.le_trans HX2.out.size HM24.out.size)
  go_upto_region 5 with (at_builtin; refine wpList_append_ent w4 rfl _ _ rfl w1.heap.size e HE4.out HV4.out rfl rfl (by have := HLS.out.1; omega) HSZ.out ?_; intro v5 w5 he5 hm5 _; obtain ⟨A5, c5, rfl⟩ := he5.slice; have HE5 := Lib.hid he5; have HM5 := Lib.hid hm5; clear he5 hm5)
  clear e0 e1 e2 e3 e4 e5
  obtain ⟨n, hn⟩ : ∃ n, n = ls.length + 1 := ⟨_, rfl⟩
  rw [show (ls.length : Int) + 1 = (n : Int) by omega, ← hn]
  have HE5 : Hid (EntsAt w5 w1.heap.size (.slice A5 n c5) (ls ++ [e])) := Lib.hid (by have h9 := HE5.out; rw [List.length_append, List.length_singleton, ← hn] at h9; exact h9)
  have hn33 : n ≤ 33 := by have := HLS.out.1; omega
  obtain ⟨es, hes⟩ : ∃ es, es = ls ++ [e] := ⟨_, rfl⟩
  rw [← hes] at HE5 HCL
  have HNES := Lib.hid (show n = es.length by rw [hes, hn]; simp)
  have HARG := Lib.hid (show ∀ x ∈ es, EArg x by
    intro x hx
    rw [hes] at hx
    rcases List.mem_append.1 hx with h1 | h1
    · exact (HLS.out.2 x h1).arg
    · rw [List.mem_singleton] at h1; rw [h1]; exact HEA.out)
  have HOB := Lib.hid (show ∀ x, (Value.slice A5 n c5).ownBlock = some x → w1.heap.size ≤ x from fun x hx => HE5.out.base x hx)
  have HOW := Lib.hid (show ∀ x, (Value.slice A2 ls.length c2).ownBlock = some x → ¬ S x from fun x hx hS => by have h1 := HE4.out.base x hx; have h2 := HSL.out x hS; have h3 := HX1.out.size; omega)
  have HL5 := Lib.hid (HL4.out.mod HM5.out HE4.out.no8 (fun x hS hx => HOW.out x hx hS))
  have HM05 := Lib.hid (show Mod S w w5 from HM4.out.then HM5.out (fun x hx => .inr (Nat.le_trans HX1.out.size (HE4.out.base x hx))))
  have HT := Lib.hid (show tb < l1.blocks.length by rw [HL1P.out.2.1]; exact (List.getElem?_eq_some_iff.1 HBT.out).1)
  have HA0 : Hid (AllInv l1 tb es 0 l1) := Lib.hid ⟨HI1.out, HL1P.out.1, rfl, by omega, by rw [List.drop_zero]⟩
  clear hn hes
  go_loopw [39] (fun i' wr => ∃ k : Nat, i' = .int .i64 k ∧ k ≤ n ∧ Hid (∃ Lk S', AllInv l1 tb es k Lk ∧ LogOn wr S' l F.dv Lk ∧ Mod S w5 wr ∧ ∀ x, S' x → S x ∨ w5.heap.size ≤ x)) (fun i' _ => n - (intOf i').toNat)
  case atStart => exact ⟨0, rfl, by omega, Lib.hid ⟨_, S, HA0.out, ⟨_, _, _, rfl, HL5.out⟩, Mod.refl _ _, fun _ h => .inl h⟩⟩
  case round =>
    clear HA0
    obtain ⟨k, rfl, hk, hI⟩ := hrel
    obtain ⟨Lk, S1, ha, hl, hm, hs⟩ := hI.out
    have HA := Lib.hid ha
    have HLK := Lib.hid hl
    have HMS := Lib.hid (And.intro hm hs)
    clear ha hl hm hs hI
    by_cases hkn : k < n
    · have hki : (k : Int) < (n : Int) := by omega
      obtain ⟨x, hx⟩ : ∃ x, es[k]? = some x := ⟨_, List.getElem?_eq_getElem (by rw [← HNES.out]; exact hkn)⟩
      have HX := Lib.hid (And.intro (HARG.out x (List.mem_of_getElem? hx)) hx)
      have HEW := Lib.hid (HE5.out.mod HMS.out.1 HL5.out.no8 (fun y hy hS => by have h1 := HOB.out y hy; have h2 := HSL.out y hS; have h3 := HX1.out.size; omega))
      obtain ⟨ge, ce, hee⟩ := HEW.out.addr (by intro h9; rw [h9] at hx; simp at hx)
      rw [← HNES.out] at hee
      cases hee
      obtain ⟨Ax, cx, hbs, x0, x1, x2, x3, x4, x5⟩ := HEW.out.at_ hx
      obtain ⟨bk, hbk⟩ : ∃ bk, Lk.blocks[tb]? = some bk := ⟨_, List.getElem?_eq_getElem (by rw [HA.out.2.2.1]; exact HT.out)⟩
      have HBK := Lib.hid hbk
      clear hx hbk
      go_upto_region 7 with fail
      obtain ⟨w6, hw6⟩ : ∃ z, z = wr.alloc (.cells #[.int .i64 x.kind, .int .i64 x.number, .int .i64 x.segment, .int .i64 x.pages, .string (st x.key), .slice Ax x.value.length cx] 90) := ⟨_, rfl⟩
      have HX6 := Lib.hid (show Ext wr w6 by rw [hw6]; exact (Ext.refl wr).alloc _)
      have HR6 : Hid (RowB w6 wr.heap.size 90 [.int .i64 x.kind, .int .i64 x.number, .int .i64 x.segment, .int .i64 x.pages, .string (st x.key), .slice Ax x.value.length cx]) := Lib.hid (by rw [hw6]; exact row_laid wr _ _)
      have HBS6 := Lib.hid (hbs.ext HX6.out)
      rw [← hw6]
      clear hw6 x0 x1 x2 x3 x4 x5 hbs
      have HPR := Lib.hid (prog_any (HLK.out.ext HX6.out) HA.out.1 HA.out.2.1 HBK.out HBS6.out x.segment x.pages HX.out.1 (by have h1 := HA.out.2.2.2.1; have h2 := HL1P.out.2.2; have h3 := HSN.out.2.2; omega))
      have HSTP := Lib.hid (HA.out.step HT.out HX.out.2 HX.out.1)
      rcases hpr : programF Lk x with ⟨cd, L'⟩
      rw [hpr] at HPR HSTP
      simp only at HPR
      clear hpr
      have x0 := (HR6.out).cell (j := 0) rfl
      have x1 := (HR6.out).cell (j := 1) rfl
      have x2 := (HR6.out).cell (j := 2) rfl
      have x3 := (HR6.out).cell (j := 3) rfl
      have x4 := (HR6.out).cell (j := 4) rfl
      have x5 := (HR6.out).cell (j := 5) rfl
      cases cd with
      | zero =>
        go_wp2_with (go_at_call 58; refine HPR.out.mono ?_; rintro e' w7 ⟨rfl, hl7⟩; rw [codeV_zero]; have HL7 := Lib.hid hl7; clear hl7)
        obtain ⟨S2, hl8, hm8, hs8⟩ := HL7.out
        exact ⟨⟨k + 1, by go_num, by omega, Lib.hid ⟨L', S2, HSTP.out.1 (by trivial), hl8, (HMS.out.1.ext' HX6.out).then hm8 HMS.out.2, fun y hy => by
          rcases hs8 y hy with h9 | h9
          · exact HMS.out.2 y h9
          · exact .inr (Nat.le_trans HMS.out.1.size (Nat.le_trans HX6.out.size h9))⟩⟩, by simp [intOf]; omega⟩
      | succ cd =>
        obtain ⟨cn, hcn⟩ : ∃ z : Int, z = ((cd + 1 : Nat) : Int) := ⟨_, rfl⟩
        have HEV := Lib.hid (show codeV (cd + 1) = errV cn by rw [codeV_pos (Nat.succ_ne_zero cd), hcn])
        rw [HEV.out] at HPR
        clear hcn
        go_wp2_with (go_at_call 58; refine HPR.out.mono ?_; rintro e' w7 ⟨rfl, hl7⟩; have HL7 := Lib.hid hl7; clear hl7)
        go_ret
        have hcl := HCL.out
        rw [HSTP.out.2 (Nat.succ_ne_zero cd)] at hcl
        simp only at hcl
        rw [hcl]
        refine ⟨by rw [HEV.out]; rfl, LogStep.trans ((HM05.out.then HMS.out.1 (fun x hx => .inl hx)).ext' HX6.out) (fun y hy => ?_) HL7.out⟩
        rcases HMS.out.2 y hy with h9 | h9
        · exact .inl h9
        · exact .inr (Nat.le_trans HM05.out.size h9)
    · have hki : (n : Int) ≤ (k : Int) := by omega
      obtain rfl : n = k := by omega
      have HPA := Lib.hid (show progAll es l1 = (0, Lk) by rw [HA.out.2.2.2.2, drop_end (by rw [← HNES.out]; exact Nat.le_refl _)]; rfl)
      have hcl := HCL.out
      rw [HPA.out] at hcl
      simp only at hcl
      have HCL2 := Lib.hid hcl
      obtain ⟨F1, SD1, G1, hdv, h1⟩ := HLK.out
      have HDV := Lib.hid hdv
      clear hdv
      have H1 := Lib.hid h1
      have HS1 := Lib.hid (show ∀ y, S1 y → S y ∨ w.heap.size ≤ y from fun y hy => (HMS.out.2 y hy).imp id (fun h9 => Nat.le_trans HM05.out.size h9))
      have HM0 := Lib.hid (show Mod S w wr from HM05.out.then HMS.out.1 (fun x hx => .inl hx))
      have HDS := Lib.hid (devsync_any h1.dev)
      have hio := (List.getElem?_eq_some_iff.1 HBI.out).1
      have hik : i < Lk.blocks.length := by rw [HA.out.2.2.1, HL1P.out.2.1]; exact hio
      obtain ⟨ck, hck⟩ : ∃ ck, Lk.blocks[i]? = some ck := ⟨_, List.getElem?_eq_getElem hik⟩
      obtain ⟨pk, hpk, -⟩ := HA.out.1.blk hck
      have d0 := h1.row.cell (j := 0) rfl
      rcases hsy : syncD Lk.d with ⟨c3, d3⟩
      have hsc := sync_cases HA.out.1.dev hsy
      rw [hsy] at HDS hcl
      simp only at HDS
      have HCK := Lib.hid hck
      have hikI : (i : Int) < (Lk.blocks.length : Int) := by omega
      clear h1 hck hio hik hsy HCL HCL2
      cases c3 with
      | succ c3 =>
        simp only at hcl
        have HCL := Lib.hid hcl
        obtain ⟨cn, hcn⟩ : ∃ z : Int, z = ((c3 + 1 : Nat) : Int) := ⟨_, rfl⟩
        have HEV := Lib.hid (show codeV (c3 + 1) = errV cn by rw [codeV_pos (Nat.succ_ne_zero c3), hcn])
        rw [HEV.out] at HDS
        clear hcn hcl hsc hpk
        go_upto_region 13 with (go_at_call 37; refine HDS.out.mono ?_; rintro e' w7 ⟨rfl, hd1⟩; have HD1 := Lib.hid hd1; clear hd1)
        obtain ⟨S2, SD2, G2, h2, hm2, hs2⟩ := H1.out.devstep HD1.out
        have H2' := Lib.hid h2
        have HM2 := Lib.hid (And.intro hm2 hs2)
        have c6 := h2.row.cell (j := 6) rfl
        have f6 := h2.row.frozen (j := 6) (by simp)
        clear h2 hm2 hs2 d0
        go_wp2_with fail
        go_ret
        have hm := mod_set w7 l 6 (.bool true)
        have hr := H2'.out.row.set 6 (.bool true) (by simp)
        rw [HCL.out]
        refine ⟨by rw [HEV.out]; rfl, LogStep.trans HM0.out HS1.out ⟨S2, ⟨_, _, _, HDV.out, H2'.out.rec_ hm hr⟩, HM2.out.1.then hm (fun x hx => .inl (by rw [show x = l from hx]; exact H1.out.inS.1)), HM2.out.2⟩⟩
      | zero =>
        obtain ⟨-, -, hs3, hs4⟩ := hsc
        have HD3 : Hid (d3.now[i]? = some pk ∧ d3.pending = []) := Lib.hid (by
          rcases hs4 with h9 | h9
          · exact absurd rfl h9.1
          · exact ⟨by rw [hs3]; exact hpk, h9.2.2⟩)
        clear hpk hs3 hs4
        go_upto_region 15 with (go_at_call 37; refine HDS.out.mono ?_; rintro e' w7 ⟨rfl, hd1⟩; rw [codeV_zero]; have HD1 := Lib.hid hd1; clear hd1)
        obtain ⟨S2, SD2, G2, h2, hm2, hs2⟩ := H1.out.devstep HD1.out
        have H2' := Lib.hid h2
        have HM2 := Lib.hid (And.intro hm2 hs2)
        have HDE := Lib.hid (deverase_any h2.dev (i := i) HD3.out.1 (by show d3.pending.length ≤ _; rw [HD3.out.2]; simp))
        clear d0
        have d0 := h2.row.cell (j := 0) rfl
        clear h2 hm2 hs2
        rcases her : eraseD d3 i with ⟨c4, d4⟩
        simp only [her] at HDE
        rw [her] at hcl
        clear her
        cases c4 with
        | succ c4 =>
          simp only at hcl
          have HCL := Lib.hid hcl
          obtain ⟨cn, hcn⟩ : ∃ z : Int, z = ((c4 + 1 : Nat) : Int) := ⟨_, rfl⟩
          have HEV := Lib.hid (show codeV (c4 + 1) = errV cn by rw [codeV_pos (Nat.succ_ne_zero c4), hcn])
          simp only [HEV.out] at HDE
          clear hcn hcl
          go_upto_region 17 with (go_at_call 35; refine HDE.out.mono ?_; rintro e' w8 ⟨rfl, hd2⟩; have HD2 := Lib.hid hd2; clear hd2)
          obtain ⟨S3, SD3, G3, h3, hm3, hs3⟩ := H2'.out.devstep HD2.out
          have H3 := Lib.hid h3
          have HM3' := Lib.hid (And.intro hm3 hs3)
          have c6 := h3.row.cell (j := 6) rfl
          have f6 := h3.row.frozen (j := 6) (by simp)
          clear h3 hm3 hs3 d0
          go_wp2_with fail
          go_ret
          have hm := mod_set w8 l 6 (.bool true)
          have hr := H3.out.row.set 6 (.bool true) (by simp)
          rw [HCL.out]
          refine ⟨by rw [HEV.out]; rfl, LogStep.trans HM0.out HS1.out (LogStep.trans HM2.out.1 HM2.out.2 ⟨S3, ⟨_, _, _, HDV.out, H3.out.rec_ hm hr⟩, HM3'.out.1.then hm (fun x hx => .inl (by rw [show x = l from hx]; exact H2'.out.inS.1)), HM3'.out.2⟩)⟩
        | zero =>
          simp only at hcl
          have HCL := Lib.hid hcl
          clear hcl
          go_upto_region 19 with (go_at_call 35; refine HDE.out.mono ?_; rintro e' w8 ⟨rfl, hd2⟩; rw [codeV_zero]; have HD2 := Lib.hid hd2; clear hd2)
          obtain ⟨S3, SD3, G3, h3, hm3, hs3⟩ := H2'.out.devstep HD2.out
          obtain ⟨g3, c3', hbv3, n0, n1, n2, ⟨u3, hu3, n3, -⟩, fz⟩ := h3.openb HCK.out
          have c1 := h3.row.cell (j := 1) rfl
          rw [hbv3] at c1
          have HTH := Lib.hid (show w8.there g3 (i * 4) 4 by
            intro j hj
            match j, hj with
            | 0, _ => exact ⟨by rw [Nat.add_zero, n0]; rfl, fz 0 (by decide)⟩
            | 1, _ => exact ⟨by rw [n1]; rfl, fz 1 (by decide)⟩
            | 2, _ => exact ⟨by rw [n2]; rfl, fz 2 (by decide)⟩
            | 3, _ => exact ⟨by rw [n3]; rfl, fz 3 (by decide)⟩)
          obtain ⟨S4, h4, hm4, hs4⟩ := h3.zeroB hbv3 HCK.out
          have H3 := Lib.hid h3
          have H4 := Lib.hid h4
          have HM3' := Lib.hid (And.intro hm3 hs3)
          have HM4' := Lib.hid (And.intro hm4 hs4)
          simp only at c1
          clear h3 hm3 hs3 hbv3 n0 n1 n2 n3 hu3 fz h4 hm4 hs4 d0
          go_upto_region 20 with (refine wpList_store_mid rfl 85 (.tmp 79) (.tmp 78) rfl g3 (i * 4) #[.int .i64 0, .int .i64 0, .int .i64 0, .slice none 0 0] rfl rfl HTH.out (by kernel_rfl) (by simp [Value.oneCell']) ?_; generalize hw9 : w8.setCells g3 (i * 4) _ = w9)
          rw [hw9] at H4 HM4'
          clear hw9 c1
          have c5 := H4.out.row.cell (j := 5) rfl
          have f5 := H4.out.row.frozen (j := 5) (by simp)
          simp only at c5
          obtain ⟨cl, hcl⟩ : ∃ z, z = Lk.cleaned := ⟨_, rfl⟩
          rw [← hcl] at c5
          have hww : IntKind.i64.wrap (cl + 1) = wrp (cl + 1) := IntKind.wrap_i64 _
          have HCN := Lib.hid hcl
          obtain ⟨wn, hwn⟩ : ∃ wn, wn = wrp (cl + 1) := ⟨_, rfl⟩
          rw [← hwn] at hww
          have HWN := Lib.hid hwn
          clear hcl hwn
          go_wp2_with fail
          go_ret
          have hm := mod_set w9 l 5 (.int .i64 wn)
          have hr := H4.out.row.set 5 (.int .i64 wn) (by simp)
          have hlast := H4.out.rec_ hm hr
          have hstep : LogStep w8 (w9.setCell ⟨l, 5, none⟩ (.int .i64 wn)) S3 l F.dv { setLB Lk i (fun _ => ⟨0, 0, 0, []⟩) with d := d4, cleaned := wrp (Lk.cleaned + 1) } := by
            have hla : LogOn (w9.setCell ⟨l, 5, none⟩ (.int .i64 wn)) S4 l F.dv { setLB Lk i (fun _ => ⟨0, 0, 0, []⟩) with d := d4, cleaned := wrp (Lk.cleaned + 1) } := by
              rw [setLB_at HCK.out, ← HCN.out, ← HWN.out]
              exact ⟨⟨F1.dv, F1.bv, F1.es.set i (.slice none 0 0)⟩, _, _, HDV.out, hlast⟩
            exact ⟨S4, hla, HM4'.out.1.then hm (fun x hx => .inl (by rw [show x = l from hx]; exact H3.out.inS.1)), fun y hy => .inl (HM4'.out.2 y hy)⟩
          rw [HCL.out]
          exact ⟨rfl, LogStep.trans HM0.out HS1.out (LogStep.trans HM2.out.1 HM2.out.2 (LogStep.trans HM3'.out.1 HM3'.out.2 hstep))⟩
end Go.Proofs.Ytepigkjgjlibcaa
