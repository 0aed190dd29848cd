/- Chapter 23, plain: a log with what is durable and what is pending; what a crash leaves of it. -/
import Derived.Test.YtepigkjgjlibcaaPtD
namespace Go.Proofs.Ytepigkjgjlibcaa
open Go.RowKit Go.Deep Go.Proofs.Ytepigkjgjlibcaa.FL
def inSeg (T : List Ent) (s : Nat) : List Ent := T.filter fun x => decide (x.segment = s)
theorem mem_inSeg {T : List Ent} {s : Nat} {x : Ent} : x ∈ inSeg T s ↔ x ∈ T ∧ x.segment = s := by unfold inSeg; rw [List.mem_filter, decide_eq_true_eq]
theorem inSeg_append (A B : List Ent) (s : Nat) : inSeg (A ++ B) s = inSeg A s ++ inSeg B s := List.filter_append ..
theorem inSeg_nil {T : List Ent} {s : Nat} (h : ∀ x ∈ T, x.segment ≠ s) : inSeg T s = [] := by
  unfold inSeg
  rw [List.filter_eq_nil_iff]
  intro x hx
  simp only [decide_eq_true_eq]
  exact h x hx
theorem inSeg_without {T : List Ent} {s t : Nat} (h : s ≠ t) : inSeg (without T t) s = inSeg T s := by
  unfold inSeg without
  rw [List.filter_filter]
  refine List.filter_congr (fun x _ => ?_)
  by_cases hs : x.segment = s
  · have : x.segment ≠ t := by rw [hs]; exact h
    simp [hs, h]
  · simp [hs]
def nowT (T : List Ent) : Option (Nat × Nat) → List Ent
  | none => T
  | some o => without T o.2
def oldOf (T : List Ent) (er : Option (Nat × Nat)) (j : Nat) : Option (Nat × List Ent) := match er with
  | none => none
  | some o => if o.1 = j then some (o.2, inSeg T o.2) else none
theorem nowT_sub (T : List Ent) (er : Option (Nat × Nat)) : (nowT T er).Sublist T := by
  cases er with
  | none => exact List.Sublist.refl _
  | some o => exact List.filter_sublist
/-- lists within the segments of a list make one list within it -/
theorem weave : ∀ (P : List Ent) (F : Nat → List Ent), (∀ s, (F s).Sublist (inSeg P s)) → ∃ Q : List Ent, Q.Sublist P ∧ ∀ s, inSeg Q s = F s := by
  intro P
  induction P with
  | nil => intro F h; exact ⟨[], List.Sublist.refl _, fun s => by have := h s; unfold inSeg at this ⊢; rw [List.filter_nil] at this ⊢; exact (List.sublist_nil.1 this).symm⟩
  | cons x r ih =>
    intro F h
    have hc : ∀ s, inSeg (x :: r) s = if x.segment = s then x :: inSeg r s else inSeg r s := fun s => by unfold inSeg; rw [List.filter_cons]; simp
    have h0 := h x.segment
    rw [hc, if_pos rfl] at h0
    rcases List.sublist_cons_iff.1 h0 with h1 | ⟨l, h1, h2⟩
    · obtain ⟨Q, q1, q2⟩ := ih F (fun s => by
        by_cases hs : x.segment = s
        · subst hs; exact h1
        · have := h s; rw [hc, if_neg hs] at this; exact this)
      exact ⟨Q, q1.cons x, q2⟩
    · obtain ⟨Q, q1, q2⟩ := ih (fun s => if x.segment = s then l else F s) (fun s => by
        by_cases hs : x.segment = s
        · subst hs; rw [if_pos rfl]; exact h2
        · rw [if_neg hs]; have := h s; rw [hc, if_neg hs] at this; exact this)
      refine ⟨x :: Q, q1.cons_cons x, fun s => ?_⟩
      have hq := q2 s
      have hcq : inSeg (x :: Q) s = if x.segment = s then x :: inSeg Q s else inSeg Q s := by unfold inSeg; rw [List.filter_cons]; simp
      rw [hcq, hq]
      by_cases hs : x.segment = s
      · subst hs
        rw [if_pos rfl]
        show x :: (if x.segment = x.segment then l else F x.segment) = _
        rw [if_pos rfl]
        exact h1.symm
      · rw [if_neg hs]
        show (if x.segment = s then l else F s) = _
        rw [if_neg hs]
/-! the device after a crash -/
theorem crashOps_len : ∀ (ops : List FL.Oper) (ks : List Int) (s : List Blk × List Bool), (crashOps ops ks s).1.length = s.1.length := by
  intro ops
  induction ops with
  | nil => intro ks s; rfl
  | cons o r ih =>
    intro ks s
    rw [show crashOps (o :: r) ks s = crashOps r ks.tail (crashOp s o (ks.headD 0)) from rfl, ih]
    unfold crashOp
    split
    · rfl
    · split
      · split
        · simp only [setB_len]
        · rfl
      · split
        · simp only [setB_len]
        · rfl
theorem crash_now (D : Dev) (keep : List Int) : (crashD D keep).now = (crashOps D.pending keep (D.durable, List.replicate D.durable.length false)).1.map fillB := rfl
theorem crash_len (D : Dev) (keep : List Int) : (crashD D keep).now.length = D.durable.length := by rw [crash_now, List.length_map, crashOps_len]
theorem crash_get (D : Dev) (keep : List Int) {j : Nat} {b : Blk} (hb : D.durable[j]? = some b) : ∃ y, (crashD D keep).now[j]? = some (fillB y) ∧ Outc b (onB j D.pending) y := by
  obtain ⟨y, h1, h2⟩ := crash_block D.pending keep D.durable (List.replicate D.durable.length false) j b hb (by simp)
  have e : (List.replicate D.durable.length false).getD j false = false := by
    rw [List.getD_eq_getElem?_getD, List.getElem?_replicate]
    split <;> rfl
  rw [if_neg (by rw [e]; simp)] at h2
  exact ⟨y, by rw [crash_now, List.getElem?_map, h1]; rfl, h2⟩
theorem BlkAt.scanned {np : Nat} {b : Blk} {s : Nat} {es : List Ent} (h : BlkAt np b s es) : BlkAt np b (scanF b).segment (scanF b).entries := by
  rcases h.seg with ⟨h1, -⟩ | ⟨h1, h2, h3⟩
  · rw [h1, h.entries]; exact h
  · rw [h.entries, h2]; exact BlkAt.none_ h.ok h3 _
/-- a device of which all is durable, with the entries that it holds -/
structure Fresh (D : Dev) (T : List Ent) : Prop where
  dev : DevOk D
  n3 : 3 ≤ D.now.length
  pend : D.pending = []
  dur : D.durable = D.now
  rep : Rep T (D.now.map scanF)
  pw : T.Pairwise Rel
  blk : ∀ (j : Nat) (b : Blk), D.now[j]? = some b → BlkAt D.npages b (scanF b).segment (scanF b).entries
structure Core (L : Log) (TD P : List Ent) (er : Option (Nat × Nat)) (pt : List Pg) : Prop where
  inv : LogInv L
  rep : Rep (nowT TD er ++ P) L.blocks
  pw : (TD ++ P).Pairwise Rel
  nums : ∀ x ∈ TD ++ P, x.number < L.number ∧ x.segment < L.segment ∧ 1 ≤ x.segment
  bseg : ∀ b ∈ L.blocks, b.segment < L.segment
  olds : ∀ o, er = some o → o.1 < L.blocks.length ∧ (∀ x ∈ P, x.segment ≠ o.2) ∧ Dead TD o.2 ∧ (∃ x ∈ nowT TD er, o.2 ≤ x.segment ∧ ∀ y ∈ TD, y.number ≤ x.number ∧ y.segment ≤ x.segment) ∧ ∀ b ∈ L.blocks, b.segment = o.2 → o.2 = 0
  blk : ∀ (j : Nat) (b : LB) (bd bn : Blk), L.blocks[j]? = some b → L.d.durable[j]? = some bd → L.d.now[j]? = some bn →
    BlkSt L.d.npages j bd bn (onB j L.d.pending) b.segment (oldOf TD er j) (inSeg (nowT TD er) b.segment) (inSeg P b.segment) (if (j : Int) = L.open_ then pt else []) (decide ((j : Int) = L.open_))
  opn : ∀ o : Nat, L.open_ = (o : Int) → ∀ b, L.blocks[o]? = some b → 1 ≤ b.segment ∧ b.segment + 1 = L.segment
theorem free_all {np : Nat} {b : Blk} (h : BlkOk np b) (h0 : nextF b = 0) : ∀ x ∈ b.pages, x = none := fun x hx => by
  obtain ⟨i, hi⟩ := List.getElem?_of_mem hx
  have := h.rest i (by omega) (by rw [← h.len]; exact (List.getElem?_eq_some_iff.1 hi).1)
  rw [this] at hi
  cases hi
  rfl
theorem fill_free {np : Nat} {b : Blk} (h : BlkOk np b) (h0 : nextF b = 0) : nextF (fillB b) = 0 := by
  have hall := free_all h h0
  refine next_eq (Nat.zero_le _) (fun k hk => absurd hk (by omega)) (fun hk => ?_)
  show (fillBelow b.pages)[0]? = some none
  have hk2 : 0 < b.pages.length := by unfold fillB at hk; simp only at hk; rw [fill_len] at hk; exact hk
  rw [fill_get, List.getElem?_eq_getElem hk2, hall _ (List.getElem_mem hk2)]
  simp only
  rw [if_neg]
  intro h5
  rw [List.any_eq_true] at h5
  obtain ⟨x, hx, h6⟩ := h5
  rw [hall x (List.mem_of_mem_drop hx)] at h6
  cases h6
theorem BlkSt.empty {np j : Nat} {bd bn : Blk} {ops : List FL.Oper} {s : Nat} {old : Option (Nat × List Ent)} {e0 ep : List Ent} {pt : List Pg} {al : Bool} (h : BlkSt np j bd bn ops s old e0 ep pt al) (h0 : nextF bn = 0) :
    e0 = [] ∧ ep = [] ∧ pt = [] ∧ (old = none → ops = [] ∧ nextF bd = 0) ∧ (old.isSome = true → ops.length = 1) := by
  obtain ⟨b0, c0, r0, qs, hok, h1, h2, h3, h4, h5, h6, h7, h8, h9⟩ := h.base
  have hall := free_all h.now.1.ok h0
  have hql : qs.length = (ep.flatMap (pgsOf s) ++ pt).length := by have := congrArg List.length h8; rwa [List.length_map, List.length_map] at this
  have hq : qs = [] := by
    cases qs with
    | nil => rfl
    | cons q r => have := hall (some q) (by rw [h9]; simp); cases this
  subst hq
  have hn0 : nextF b0 = 0 := by
    rcases Nat.eq_zero_or_pos (nextF b0) with hz | hz
    · exact hz
    · obtain ⟨x, hx⟩ := next_some hz
      have := hall (some x) (by
        rw [h9]
        refine List.mem_append_left _ ?_
        rw [List.mem_iff_getElem?]
        exact ⟨0, by rw [List.getElem?_take, if_pos hz]; exact hx⟩)
      cases this
  have hb := h.now.1.free h0
  simp only [List.length_nil] at hql
  have hpt : pt = [] := List.eq_nil_of_length_eq_zero (by rw [List.length_append] at hql; omega)
  have hee := List.append_eq_nil_iff.1 hb.1
  refine ⟨hee.1, hee.2, hpt, fun ho => ?_, fun ho => ?_⟩
  · subst ho
    simp only at h1
    rw [← h1]
    exact ⟨h2, hn0⟩
  · rw [h2]
    cases old with
    | none => cases ho
    | some o => rfl
theorem sub_inSeg {Q P : List Ent} (h : Q.Sublist P) (s : Nat) : (inSeg Q s).Sublist (inSeg P s) := h.filter _
/-- a crash -/
theorem Core.crash {L : Log} {TD P : List Ent} {er : Option (Nat × Nat)} {pt : List Pg} (h : Core L TD P er pt) (keep : List Int) : ∃ X Q : List Ent, Q.Sublist P ∧ (X = nowT TD er ∨ X = TD) ∧ Fresh (crashD L.d keep) (X ++ Q) ∧
    ((∃ (j : Nat) (b : Blk), (crashD L.d keep).now[j]? = some b ∧ NoCount (X ++ Q) (scanF b).segment) ∨
      (∀ (j : Nat) (b : LB), L.blocks[j]? = some b → ∃ c, (crashD L.d keep).now[j]? = some c ∧ (b.next = 0 → nextF c = 0) ∧ ((scanF c).segment = b.segment ∨ (scanF c).segment = 0))) := by
  have hdev := h.inv.dev
  have hbl : L.blocks.length = L.d.now.length := h.inv.wf.bl
  have hlen : (crashD L.d keep).now.length = L.blocks.length := by rw [crash_len, hdev.lens, hbl]
  have hpos : ∀ x ∈ TD ++ P, x.segment ≠ 0 := fun x hx => by have := h.nums x hx; omega
  have hposD : ∀ x ∈ TD, x.segment ≠ 0 := fun x hx => hpos x (List.mem_append_left _ hx)
  have hposP : ∀ x ∈ P, x.segment ≠ 0 := fun x hx => hpos x (List.mem_append_right _ hx)
  -- block by block
  have hst : ∀ (j : Nat) (c : Blk), (crashD L.d keep).now[j]? = some c → ∃ b bd bn y, L.blocks[j]? = some b ∧ L.d.durable[j]? = some bd ∧ L.d.now[j]? = some bn ∧ c = fillB y ∧ Outc bd (onB j L.d.pending) y ∧
      BlkSt L.d.npages j bd bn (onB j L.d.pending) b.segment (oldOf TD er j) (inSeg (nowT TD er) b.segment) (inSeg P b.segment) (if (j : Int) = L.open_ then pt else []) (decide ((j : Int) = L.open_)) := fun j c hc => by
    have hj : j < L.blocks.length := by rw [← hlen]; exact (List.getElem?_eq_some_iff.1 hc).1
    have h1 := List.getElem?_eq_getElem hj
    have h2 : L.d.durable[j]? = some (L.d.durable[j]'(by rw [hdev.lens, ← hbl]; exact hj)) := List.getElem?_eq_getElem _
    have h3 : L.d.now[j]? = some (L.d.now[j]'(by rw [← hbl]; exact hj)) := List.getElem?_eq_getElem _
    obtain ⟨y, h4, h5⟩ := crash_get L.d keep h2
    rw [h4] at hc
    cases hc
    exact ⟨_, _, _, y, h1, h2, h3, rfl, h5, h.blk j _ _ _ h1 h2 h3⟩
  have hgetj : ∀ j, j < L.blocks.length → ∃ c, (crashD L.d keep).now[j]? = some c := fun j hj => ⟨_, List.getElem?_eq_getElem (by rw [hlen]; exact hj)⟩
  -- the device that is left
  have hdevOk : (∀ c ∈ (crashD L.d keep).now, BlkOk L.d.npages c) → DevOk (crashD L.d keep) ∧ (crashD L.d keep).npages = L.d.npages := fun ha =>
    hdev.of ha ha (by rw [hlen, hbl]) (by show (crashD L.d keep).now.length = _; rw [hlen, hbl]) (fun o ho => (by cases ho))
  by_cases hA : ∃ i so c, er = some (i, so) ∧ (crashD L.d keep).now[i]? = some c ∧ BlkAt L.d.npages c so (inSeg TD so)
  · -- the erase is not kept
    obtain ⟨i, so, ci, rfl, hci, hbi⟩ := hA
    obtain ⟨-, oP, oD, oS, oB⟩ := h.olds (i, so) rfl
    simp only at oP oD oS oB
    have hF : ∀ s, ∃ F : List Ent, F.Sublist (inSeg P s) ∧ (∀ (j : Nat) (b : LB) (c : Blk), L.blocks[j]? = some b → b.segment = s → (crashD L.d keep).now[j]? = some c → j ≠ i → BlkAt L.d.npages c s (inSeg (nowT TD (some (i, so))) s ++ F)) ∧ ((∀ (j : Nat) (b : LB), L.blocks[j]? = some b → b.segment = s → j = i) → F = []) := fun s => by
      by_cases hs0 : s = 0
      · refine ⟨[], List.nil_sublist _, fun j b c hb hbs hc hji => ?_, fun _ => rfl⟩
        obtain ⟨b', bd, bn, y, g1, g2, g3, rfl, g5, g6⟩ := hst j c hc
        rw [hb] at g1
        cases g1
        rw [hbs, inSeg_nil (T := P) (fun x hx => by rw [hs0]; exact hposP x hx)] at g6
        rcases g6.crash g5 with ⟨o, ho, -, -⟩ | ⟨fs, f1, f2, -⟩
        · unfold oldOf at ho; simp only at ho; rw [if_neg (Ne.symm hji)] at ho; cases ho
        · rw [List.sublist_nil.1 f1] at f2; exact f2
      · by_cases hx : ∃ (j : Nat) (b : LB), L.blocks[j]? = some b ∧ b.segment = s ∧ j ≠ i
        · obtain ⟨j, b, hb, hbs, hji⟩ := hx
          obtain ⟨c, hc⟩ := hgetj j (List.getElem?_eq_some_iff.1 hb).1
          obtain ⟨b', bd, bn, y, g1, g2, g3, rfl, g5, g6⟩ := hst j c hc
          rw [hb] at g1
          cases g1
          rw [hbs] at g6
          rcases g6.crash g5 with ⟨o, ho, -, -⟩ | ⟨fs, f1, f2, -⟩
          · unfold oldOf at ho; simp only at ho; rw [if_neg (Ne.symm hji)] at ho; cases ho
          · refine ⟨fs, f1, fun j2 b2 c2 hb2 hbs2 hc2 _ => ?_, fun hall => absurd (hall j b hb hbs) hji⟩
            have := h.rep.inj j j2 b b2 hb hb2 (by rw [hbs, hbs2]) (by rw [hbs]; exact hs0)
            subst this
            rw [hc] at hc2
            cases hc2
            exact f2
        · exact ⟨[], List.nil_sublist _, fun j b c hb hbs hc hji => absurd ⟨j, b, hb, hbs, hji⟩ hx, fun _ => rfl⟩
    obtain ⟨Q, hQ, hQs⟩ := weave P (fun s => (hF s).choose) (fun s => (hF s).choose_spec.1)
    have hblk : ∀ (j : Nat) (b : LB) (c : Blk), L.blocks[j]? = some b → (crashD L.d keep).now[j]? = some c → j ≠ i → BlkAt L.d.npages c b.segment (inSeg (TD ++ Q) b.segment) := fun j b c hb hc hji => by
      have h1 := (hF b.segment).choose_spec.2.1 j b c hb rfl hc hji
      rw [← hQs b.segment] at h1
      rw [inSeg_append]
      have e : inSeg (nowT TD (some (i, so))) b.segment = inSeg TD b.segment := by
        by_cases hbs : b.segment = so
        · have := oB b (List.mem_of_getElem? hb) hbs
          rw [inSeg_nil (T := TD) (fun x hx => by rw [hbs, this]; exact hposD x hx), inSeg_nil (fun x hx => by rw [hbs, this]; exact hposD x ((nowT_sub _ _).subset hx))]
        · exact inSeg_without hbs
      rw [e] at h1
      exact h1
    have hblki : BlkAt L.d.npages ci so (inSeg (TD ++ Q) so) := by
      rw [inSeg_append, inSeg_nil (T := Q) (fun x hx => oP x (hQ.subset hx)), List.append_nil]
      exact hbi
    have hsub : (TD ++ Q).Sublist (TD ++ P) := List.Sublist.append_left hQ TD
    have hposT : ∀ x ∈ TD ++ Q, x.segment ≠ 0 := fun x hx => hpos x (hsub.subset hx)
    have hzero : inSeg (TD ++ Q) 0 = [] := inSeg_nil hposT
    have hall : ∀ (j : Nat) (c : Blk), (crashD L.d keep).now[j]? = some c → ∃ s : Nat, BlkAt L.d.npages c s (inSeg (TD ++ Q) s) ∧ (j = i → s = so) ∧ (j ≠ i → ∃ b : LB, L.blocks[j]? = some b ∧ b.segment = s) := fun j c hc => by
      by_cases hji : j = i
      · subst hji; rw [hci] at hc; cases hc; exact ⟨so, hblki, fun _ => rfl, fun h => absurd rfl h⟩
      · obtain ⟨b, -, -, -, hb, -⟩ := hst j c hc
        exact ⟨b.segment, hblk j b c hb hc hji, fun h => absurd h hji, fun _ => ⟨b, hb, rfl⟩⟩
    have hok := hdevOk (fun c hc => by obtain ⟨j, hj⟩ := List.getElem?_of_mem hc; obtain ⟨s, h1, -⟩ := hall j c hj; exact h1.ok)
    refine ⟨TD, Q, hQ, .inr rfl, ⟨hok.1, by rw [hlen]; exact h.inv.wf.nb.1, rfl, rfl, ⟨fun j b hb => ?_, fun x hx => ?_, fun x hx => ?_, fun j1 j2 b1 b2 hb1 hb2 he hn => ?_⟩, h.pw.sublist hsub, fun j c hc => ?_⟩, .inl ⟨i, ci, hci, ?_⟩⟩
    · rw [List.getElem?_map, Option.map_eq_some_iff] at hb
      obtain ⟨c, hc, rfl⟩ := hb
      obtain ⟨s, h1, -⟩ := hall j c hc
      rw [h1.entries]
      rcases h1.seg with ⟨h2, -⟩ | ⟨h2, h3, -⟩
      · rw [h2]; rfl
      · rw [h2, h3]; exact hzero.symm
    · by_cases hxs : x.segment = so
      · refine ⟨i, scanF ci, by rw [List.getElem?_map, hci]; rfl, ?_⟩
        rcases hblki.seg with ⟨h2, -⟩ | ⟨-, h3, -⟩
        · rw [h2, hxs]
        · have : x ∈ inSeg (TD ++ Q) so := mem_inSeg.2 ⟨hx, hxs⟩
          rw [h3] at this
          cases this
      · have hx2 : x ∈ nowT TD (some (i, so)) ++ P := by
          rcases List.mem_append.1 hx with h1 | h1
          · exact List.mem_append_left _ (mem_without.2 ⟨h1, hxs⟩)
          · exact List.mem_append_right _ (hQ.subset h1)
        obtain ⟨j, b, hb, hbs⟩ := h.rep.cover x hx2
        obtain ⟨c, hc⟩ := hgetj j (List.getElem?_eq_some_iff.1 hb).1
        by_cases hji : j = i
        · exfalso
          subst hji
          obtain ⟨b', bd, bn, y, g1, g2, g3, rfl, g5, g6⟩ := hst j c hc
          rw [hb] at g1
          cases g1
          obtain ⟨b0, c0, r0, qs, g7, -⟩ := g6.ex
          have e1 : oldOf TD (some (j, so)) j = some (so, inSeg TD so) := by unfold oldOf; simp
          rw [e1] at g7
          have g8 : inSeg (nowT TD (some (j, so))) b.segment = [] := g7.2.1
          rcases List.mem_append.1 hx with h1 | h1
          · have : x ∈ inSeg (nowT TD (some (j, so))) b.segment := mem_inSeg.2 ⟨mem_without.2 ⟨h1, hxs⟩, hbs.symm⟩
            rw [g8] at this
            cases this
          · have hFn := (hF b.segment).choose_spec.2.2 (fun j2 b2 hb2 hbs2 => (h.rep.inj j2 j b2 b hb2 hb hbs2 (by rw [hbs2, hbs]; exact hposT x hx)))
            have : x ∈ inSeg Q b.segment := mem_inSeg.2 ⟨h1, hbs.symm⟩
            rw [hQs b.segment, hFn] at this
            cases this
        · have h1 := hblk j b c hb hc hji
          refine ⟨j, scanF c, by rw [List.getElem?_map, hc]; rfl, ?_⟩
          rcases h1.seg with ⟨h2, -⟩ | ⟨-, h3, -⟩
          · rw [h2, hbs]
          · have : x ∈ inSeg (TD ++ Q) b.segment := mem_inSeg.2 ⟨hx, hbs.symm⟩
            rw [h3] at this
            cases this
    · have := hposT x hx; omega
    · rw [List.getElem?_map, Option.map_eq_some_iff] at hb1 hb2
      obtain ⟨c1, hc1, rfl⟩ := hb1
      obtain ⟨c2, hc2, rfl⟩ := hb2
      obtain ⟨s1, a1, a2, a3⟩ := hall j1 c1 hc1
      obtain ⟨s2, d1, d2, d3⟩ := hall j2 c2 hc2
      have e1 : (scanF c1).segment = s1 := by rcases a1.seg with ⟨h2, -⟩ | ⟨h2, -⟩
                                              · exact h2
                                              · exact absurd h2 hn
      have e2 : (scanF c2).segment = s2 := by rcases d1.seg with ⟨h2, -⟩ | ⟨h2, -⟩
                                              · exact h2
                                              · rw [he] at hn; exact absurd h2 hn
      by_cases j1i : j1 = i
      · by_cases j2i : j2 = i
        · rw [j1i, j2i]
        · exfalso
          obtain ⟨b, hb, hbs⟩ := d3 j2i
          have := oB b (List.mem_of_getElem? hb) (by rw [hbs, ← e2, ← he, e1, a2 j1i])
          rw [e1, a2 j1i] at hn
          exact hn this
      · by_cases j2i : j2 = i
        · exfalso
          obtain ⟨b, hb, hbs⟩ := a3 j1i
          have := oB b (List.mem_of_getElem? hb) (by rw [hbs, ← e1, he, e2, d2 j2i])
          rw [he, e2, d2 j2i] at hn
          exact hn this
        · obtain ⟨b, hb, hbs⟩ := a3 j1i
          obtain ⟨b', hb', hbs'⟩ := d3 j2i
          exact h.rep.inj j1 j2 b b' hb hb' (by rw [hbs, hbs', ← e1, ← e2, he]) (by rw [hbs, ← e1]; exact hn)
    · obtain ⟨s, h1, -⟩ := hall j c hc
      rw [hok.2]
      exact h1.scanned
    · rcases hblki.seg with ⟨h2, -⟩ | ⟨h2, -⟩
      · rw [h2]; exact (oD.grow (fun x hx => oP x (hQ.subset hx))).count
      · rw [h2]; exact fun e he hs => absurd hs (hposT e he)
  · -- the erase is kept, or there is none
    have hB : ∀ (j : Nat) (c : Blk), (crashD L.d keep).now[j]? = some c → ∃ b : LB, L.blocks[j]? = some b ∧ ∃ fs : List Ent, fs.Sublist (inSeg P b.segment) ∧ BlkAt L.d.npages c b.segment (inSeg (nowT TD er) b.segment ++ fs) ∧ (b.next = 0 → nextF c = 0) := fun j c hc => by
      obtain ⟨b, bd, bn, y, g1, g2, g3, rfl, g5, g6⟩ := hst j c hc
      refine ⟨b, g1, ?_⟩
      rcases g6.crash g5 with ⟨o, ho, -, hbo⟩ | ⟨fs, f1, f2, f3, f4⟩
      · exfalso
        unfold oldOf at ho
        cases er with
        | none => cases ho
        | some p =>
          simp only at ho
          split at ho
          · rename_i hp
            cases ho
            exact hA ⟨j, p.2, fillB y, by rw [← hp], hc, hbo⟩
          · cases ho
      · refine ⟨fs, f1, f2, fun h0 => ?_⟩
        have hn0 : nextF bn = 0 := by rw [← h.inv.wf.nx j b bn g1 g3]; exact h0
        obtain ⟨-, -, -, q4, q5⟩ := g6.empty hn0
        cases ho : oldOf TD er j with
        | none => rw [f3 ho (q4 ho).1]; exact fill_free g6.okd (q4 ho).2
        | some o => exact f4 (by rw [ho]; rfl) (q5 (by rw [ho]; rfl))
    have hF : ∀ s, ∃ F : List Ent, F.Sublist (inSeg P s) ∧ (∀ (j : Nat) (b : LB) (c : Blk), L.blocks[j]? = some b → b.segment = s → (crashD L.d keep).now[j]? = some c → BlkAt L.d.npages c s (inSeg (nowT TD er) s ++ F)) := fun s => by
      by_cases hs0 : s = 0
      · refine ⟨[], List.nil_sublist _, fun j b c hb hbs hc => ?_⟩
        obtain ⟨b', g1, fs, f1, f2, -⟩ := hB j c hc
        rw [hb] at g1
        cases g1
        rw [hbs, inSeg_nil (T := P) (fun x hx => by rw [hs0]; exact hposP x hx)] at f1
        rw [List.sublist_nil.1 f1, hbs] at f2
        exact f2
      · by_cases hx : ∃ (j : Nat) (b : LB), L.blocks[j]? = some b ∧ b.segment = s
        · obtain ⟨j, b, hb, hbs⟩ := hx
          obtain ⟨c, hc⟩ := hgetj j (List.getElem?_eq_some_iff.1 hb).1
          obtain ⟨b', g1, fs, f1, f2, -⟩ := hB j c hc
          rw [hb] at g1
          cases g1
          rw [hbs] at f1 f2
          refine ⟨fs, f1, fun j2 b2 c2 hb2 hbs2 hc2 => ?_⟩
          have := h.rep.inj j j2 b b2 hb hb2 (by rw [hbs, hbs2]) (by rw [hbs]; exact hs0)
          subst this
          rw [hc] at hc2
          cases hc2
          exact f2
        · exact ⟨[], List.nil_sublist _, fun j b c hb hbs hc => absurd ⟨j, b, hb, hbs⟩ hx⟩
    obtain ⟨Q, hQ, hQs⟩ := weave P (fun s => (hF s).choose) (fun s => (hF s).choose_spec.1)
    have hblk : ∀ (j : Nat) (b : LB) (c : Blk), L.blocks[j]? = some b → (crashD L.d keep).now[j]? = some c → BlkAt L.d.npages c b.segment (inSeg (nowT TD er ++ Q) b.segment) := fun j b c hb hc => by
      have h1 := (hF b.segment).choose_spec.2 j b c hb rfl hc
      rw [← hQs b.segment] at h1
      rw [inSeg_append]
      exact h1
    have hsub : (nowT TD er ++ Q).Sublist (TD ++ P) := (nowT_sub TD er).append hQ
    have hposT : ∀ x ∈ nowT TD er ++ Q, x.segment ≠ 0 := fun x hx => hpos x (hsub.subset hx)
    have hzero : inSeg (nowT TD er ++ Q) 0 = [] := inSeg_nil hposT
    have hall : ∀ (j : Nat) (c : Blk), (crashD L.d keep).now[j]? = some c → ∃ b : LB, L.blocks[j]? = some b ∧ BlkAt L.d.npages c b.segment (inSeg (nowT TD er ++ Q) b.segment) := fun j c hc => by
      obtain ⟨b, hb, -⟩ := hB j c hc
      exact ⟨b, hb, hblk j b c hb hc⟩
    have hok := hdevOk (fun c hc => by obtain ⟨j, hj⟩ := List.getElem?_of_mem hc; obtain ⟨b, -, h1⟩ := hall j c hj; exact h1.ok)
    refine ⟨nowT TD er, Q, hQ, .inl rfl, ⟨hok.1, by rw [hlen]; exact h.inv.wf.nb.1, rfl, rfl, ⟨fun j b hb => ?_, fun x hx => ?_, fun x hx => ?_, fun j1 j2 b1 b2 hb1 hb2 he hn => ?_⟩, h.pw.sublist hsub, fun j c hc => ?_⟩, .inr fun j b hb => ?_⟩
    · rw [List.getElem?_map, Option.map_eq_some_iff] at hb
      obtain ⟨c, hc, rfl⟩ := hb
      obtain ⟨b, -, h1⟩ := hall j c hc
      rw [h1.entries]
      rcases h1.seg with ⟨h2, -⟩ | ⟨h2, h3, -⟩
      · rw [h2]; rfl
      · rw [h2, h3]; exact hzero.symm
    · have hx2 : x ∈ nowT TD er ++ P := by
        rcases List.mem_append.1 hx with h1 | h1
        · exact List.mem_append_left _ h1
        · exact List.mem_append_right _ (hQ.subset h1)
      obtain ⟨j, b, hb, hbs⟩ := h.rep.cover x hx2
      obtain ⟨c, hc⟩ := hgetj j (List.getElem?_eq_some_iff.1 hb).1
      have h1 := hblk j b c hb hc
      refine ⟨j, scanF c, by rw [List.getElem?_map, hc]; rfl, ?_⟩
      rcases h1.seg with ⟨h2, -⟩ | ⟨-, h3, -⟩
      · rw [h2, hbs]
      · have : x ∈ inSeg (nowT TD er ++ Q) b.segment := mem_inSeg.2 ⟨hx, hbs.symm⟩
        rw [h3] at this
        cases this
    · have := hposT x hx; omega
    · rw [List.getElem?_map, Option.map_eq_some_iff] at hb1 hb2
      obtain ⟨c1, hc1, rfl⟩ := hb1
      obtain ⟨c2, hc2, rfl⟩ := hb2
      obtain ⟨b, hb, a1⟩ := hall j1 c1 hc1
      obtain ⟨b', hb', d1⟩ := hall j2 c2 hc2
      have e1 : (scanF c1).segment = b.segment := by rcases a1.seg with ⟨h2, -⟩ | ⟨h2, -⟩
                                                     · exact h2
                                                     · exact absurd h2 hn
      have e2 : (scanF c2).segment = b'.segment := by rcases d1.seg with ⟨h2, -⟩ | ⟨h2, -⟩
                                                      · exact h2
                                                      · rw [he] at hn; exact absurd h2 hn
      exact h.rep.inj j1 j2 b b' hb hb' (by rw [← e1, ← e2, he]) (by rw [← e1]; exact hn)
    · obtain ⟨b, -, h1⟩ := hall j c hc
      rw [hok.2]
      exact h1.scanned
    · obtain ⟨c, hc⟩ := hgetj j (List.getElem?_eq_some_iff.1 hb).1
      obtain ⟨b', g1, fs, f1, f2, f3⟩ := hB j c hc
      rw [hb] at g1
      cases g1
      refine ⟨c, hc, f3, ?_⟩
      rcases f2.seg with ⟨h2, -⟩ | ⟨h2, -⟩
      · exact .inl h2
      · exact .inr h2
end Go.Proofs.Ytepigkjgjlibcaa
