/- Chapter 23, plain: Open of a device: what it reads, what it erases. -/
import Derived.Test.YtepigkjgjlibcaaPtE
namespace Go.Proofs.Ytepigkjgjlibcaa
open Go.RowKit Go.Deep Go.Proofs.Ytepigkjgjlibcaa.FL
theorem BlkAt.st {np j : Nat} {b : Blk} {s : Nat} {es : List Ent} (h : BlkAt np b s es) : BlkSt np j b b [] s none es [] [] false := by
  obtain ⟨c, r, hc, hb⟩ := h.cells
  have hl := h.ok.len
  have hn := nextF_le b
  refine ⟨⟨b, c, r, [], rfl, rfl, hc, hb, fun h => ?_, by simp only [List.length_nil]; omega, fun q hq => (by cases hq), rfl, ?_⟩, h.ok, fun e he => (by cases he), .inl rfl⟩
  · rcases h with h | h
    · cases h
    · exact absurd rfl h
  · refine List.ext_getElem? (fun k => ?_)
    simp only [List.map_nil, List.nil_append, List.length_nil, Nat.sub_zero]
    by_cases k1 : k < nextF b
    · rw [List.getElem?_append_left (by rw [List.length_take]; omega), List.getElem?_take, if_pos k1]
    · rw [List.getElem?_append_right (by rw [List.length_take]; omega), List.getElem?_replicate, List.length_take, Nat.min_eq_left (by omega)]
      by_cases k2 : k < np
      · rw [if_pos (by omega), h.ok.rest k (by omega) k2]
      · rw [if_neg (by omega), List.getElem?_eq_none_iff.2 (by omega)]
theorem fold_num {bs : List LB} {f : LB → Nat} {b : LB} (h : b ∈ bs) : f b + 1 ≤ bs.foldl (fun n b => max n (f b + 1)) 1 := by
  have go : ∀ (l : List LB) (a : Nat), a ≤ l.foldl (fun n b => max n (f b + 1)) a ∧ ∀ x ∈ l, f x + 1 ≤ l.foldl (fun n b => max n (f b + 1)) a := by
    intro l
    induction l with
    | nil => intro a; exact ⟨Nat.le_refl _, fun x hx => (by cases hx)⟩
    | cons y r ih =>
      intro a
      have := ih (max a (f y + 1))
      rw [List.foldl_cons]
      refine ⟨by omega, fun x hx => ?_⟩
      rcases List.mem_cons.1 hx with h | h
      · subst h; omega
      · exact this.2 x h
  exact (go bs 1).2 b h
theorem Rep.weaken {T : List Ent} {bs bs' : List LB} (h : Rep T bs) (hl : bs'.length = bs.length) (hw : ∀ (j : Nat) (b b' : LB), bs[j]? = some b → bs'[j]? = some b' → b'.entries = b.entries ∧ (b'.segment = b.segment ∨ b'.segment = 0 ∧ b.entries = [])) : Rep T bs' := by
  have hb : ∀ (j : Nat) (b' : LB), bs'[j]? = some b' → ∃ b, bs[j]? = some b := fun j b' hb' => ⟨_, List.getElem?_eq_getElem (by rw [← hl]; exact (List.getElem?_eq_some_iff.1 hb').1)⟩
  have hz : T.filter (fun x => decide (x.segment = 0)) = [] := inSeg_nil (T := T) (s := 0) (fun x hx => by have := h.pos x hx; omega)
  refine ⟨fun j b' hb' => ?_, fun x hx => ?_, h.pos, fun i j b c hi hj he hn => ?_⟩
  · obtain ⟨b, hbj⟩ := hb j b' hb'
    obtain ⟨h1, h2⟩ := hw j b b' hbj hb'
    rcases h2 with h2 | ⟨h2, h3⟩
    · rw [h1, h2]; exact h.ents j b hbj
    · rw [h1, h2, h3]; exact hz.symm
  · obtain ⟨j, b, hbj, hbs⟩ := h.cover x hx
    have hj : j < bs'.length := by rw [hl]; exact (List.getElem?_eq_some_iff.1 hbj).1
    have hb' := List.getElem?_eq_getElem hj
    obtain ⟨h1, h2⟩ := hw j b _ hbj hb'
    refine ⟨j, _, hb', ?_⟩
    rcases h2 with h2 | ⟨h2, h3⟩
    · rw [h2, hbs]
    · have : x ∈ b.entries := by rw [h.ents j b hbj]; exact List.mem_filter.2 ⟨hx, decide_eq_true hbs.symm⟩
      rw [h3] at this
      cases this
  · obtain ⟨b0, hb0⟩ := hb i b hi
    obtain ⟨c0, hc0⟩ := hb j c hj
    have h1 := (hw i b0 b hb0 hi).2
    have h2 := (hw j c0 c hc0 hj).2
    rcases h1 with h1 | ⟨h1, -⟩
    · rcases h2 with h2 | ⟨h2, -⟩
      · exact h.inj i j b0 c0 hb0 hc0 (by rw [← h1, ← h2, he]) (by rw [← h1]; exact hn)
      · rw [he] at hn; exact absurd h2 hn
    · exact absurd h1 hn
theorem Core.open_le {L : Log} {TD P : List Ent} {er : Option (Nat × Nat)} {pt : List Pg} (h : Core L TD P er pt) {j : Nat} {b : LB} {bn : Blk} (hb : L.blocks[j]? = some b) (hn : L.d.now[j]? = some bn) : BlkAt L.d.npages bn b.segment b.entries := by
  have hj := (List.getElem?_eq_some_iff.1 hb).1
  have hd : L.d.durable[j]? = some (L.d.durable[j]'(by rw [h.inv.dev.lens, ← h.inv.wf.bl]; exact hj)) := List.getElem?_eq_getElem _
  have h1 := (h.blk j b _ bn hb hd hn).now.1
  rw [← inSeg_append] at h1
  rw [h.rep.ents j b hb]
  exact h1
theorem BlkSt.reseg {np j : Nat} {bd bn : Blk} {ops : List FL.Oper} {s : Nat} {old : Option (Nat × List Ent)} {e0 ep : List Ent} {al : Bool} (h : BlkSt np j bd bn ops s old e0 ep [] al) (hv : ∀ x ∈ bn.pages.map readPage, x = none) (s' : Nat) : e0 = [] ∧ ep = [] ∧ BlkSt np j bd bn ops s' old [] [] [] false := by
  have hee : e0 ++ ep = [] := by
    rcases h.now.1.seg with ⟨-, p, hp⟩ | ⟨-, h2, -⟩
    · have := hv _ hp; cases this
    · exact h2
  have h12 := List.append_eq_nil_iff.1 hee
  refine ⟨h12.1, h12.2, ?_⟩
  obtain ⟨b0, c0, r0, qs, hok, h1, h2, h3, h4, h5, h6, h7, h8, h9⟩ := h.base
  rw [h12.2] at h8
  have hq : qs = [] := by
    have := congrArg List.length h8
    simp only [List.flatMap_nil, List.nil_append, List.length_map, List.length_nil] at this
    exact List.eq_nil_of_length_eq_zero this
  subst hq
  have hc : ∀ x ∈ c0 ++ List.replicate r0 (none : Option Pg), x = none := fun x hx => by
    rw [← h3] at hx
    obtain ⟨i, hi⟩ := List.getElem?_of_mem hx
    by_cases hin : i < nextF b0
    · refine hv x ?_
      rw [List.mem_iff_getElem?]
      refine ⟨i, ?_⟩
      rw [List.getElem?_map] at hi ⊢
      rw [h9, List.getElem?_append_left (by have := nextF_le b0; rw [List.length_take]; omega), List.getElem?_take, if_pos hin]
      exact hi
    · exact hok.cells_none (by omega) hi
  refine ⟨⟨b0, c0, r0, [], ?_, h2, h3, Body.blanks _ (fun x hx => hc x (List.mem_append_left _ hx)), fun h => ?_, h6, h7, rfl, h9⟩, h.okd, fun e he => (by cases he), .inl rfl⟩
  · cases old with
    | none => exact h1
    | some o => exact ⟨h1.1, rfl, h1.2.2⟩
  · rcases h with h | h
    · cases h
    · exact absurd rfl h
theorem BlkSt.loose {np j : Nat} {bd bn : Blk} {ops : List FL.Oper} {s : Nat} {old : Option (Nat × List Ent)} {e0 ep : List Ent} {pt : List Pg} {al : Bool} (h : BlkSt np j bd bn ops s old e0 ep pt al) : BlkSt np j bd bn ops s old e0 ep pt false := by
  obtain ⟨b0, c0, r0, qs, h1, h2, h3, h4, h5, h6⟩ := h.ex
  exact ⟨⟨b0, c0, r0, qs, h1, h2, h3, h4, fun h => h5 (by rcases h with h | h
                                                          · cases h
                                                          · exact .inr h), h6⟩, h.okd, h.ew, h.part⟩
/-- the log that is read from a device -/
theorem Core.reload {L : Log} {TD P : List Ent} {er : Option (Nat × Nat)} (h : Core L TD P er []) : Core (loadF (log0 L.d)) TD P er [] := by
  have hdev := h.inv.dev
  have hbl : L.blocks.length = L.d.now.length := h.inv.wf.bl
  have hn3 : 3 ≤ L.d.now.length := by rw [← hbl]; exact h.inv.wf.nb.1
  have e1 : (loadF (log0 L.d)).blocks = L.d.now.map scanF := rfl
  have en : (loadF (log0 L.d)).number = (L.d.now.map scanF).foldl (fun n b => max n (b.number + 1)) 1 := rfl
  have es : (loadF (log0 L.d)).segment = (L.d.now.map scanF).foldl (fun n b => max n (b.segment + 1)) 1 := rfl
  have eo : (loadF (log0 L.d)).open_ = -1 := rfl
  have ed : (loadF (log0 L.d)).d = L.d := rfl
  have hget : ∀ (j : Nat) (c : LB), (loadF (log0 L.d)).blocks[j]? = some c → ∃ b bn, L.blocks[j]? = some b ∧ L.d.now[j]? = some bn ∧ c = scanF bn ∧ BlkAt L.d.npages bn b.segment b.entries := fun j c hc => by
    rw [e1, List.getElem?_map, Option.map_eq_some_iff] at hc
    obtain ⟨bn, hbn, rfl⟩ := hc
    have hj : j < L.blocks.length := by rw [hbl]; exact (List.getElem?_eq_some_iff.1 hbn).1
    have hb := List.getElem?_eq_getElem hj
    exact ⟨_, bn, hb, hbn, rfl, h.open_le hb hbn⟩
  have hrep : Rep (nowT TD er ++ P) (loadF (log0 L.d)).blocks := h.rep.weaken (by rw [e1, List.length_map, hbl]) (fun j b b' hb hb' => by
    obtain ⟨b2, bn, g1, g2, rfl, g3⟩ := hget j b' hb'
    rw [hb] at g1
    cases g1
    refine ⟨g3.entries, ?_⟩
    rcases g3.seg with ⟨h2, -⟩ | ⟨h2, h3, -⟩
    · exact .inl h2
    · exact .inr ⟨h2, h3⟩)
  have hpres : ∀ x ∈ nowT TD er ++ P, x.number < (loadF (log0 L.d)).number ∧ x.segment < (loadF (log0 L.d)).segment := fun x hx => by
    obtain ⟨j, b', hb', hbs⟩ := hrep.cover x hx
    obtain ⟨b, bn, g1, g2, rfl, g3⟩ := hget j b' hb'
    have hxe : x ∈ b.entries := by
      have := hrep.ents j _ hb'
      rw [g3.entries] at this
      rw [this]
      exact List.mem_filter.2 ⟨hx, decide_eq_true hbs.symm⟩
    have hm : scanF bn ∈ L.d.now.map scanF := List.mem_map_of_mem (List.mem_of_getElem? g2)
    have h1 := fold_num (f := LB.number) hm
    have h2 := fold_num (f := LB.segment) hm
    have h3 := g3.num x hxe
    rw [en, es, ← hbs]
    omega
  refine ⟨loadF_inv (L := log0 L.d) hdev hn3, hrep, h.pw, fun x hx => ?_, fun b hb => ?_, fun o ho => ?_, fun j c bd bn hc hd hnj => ?_, fun o ho => ?_⟩
  · have h0 := h.nums x hx
    rcases List.mem_append.1 hx with h1 | h1
    · cases er with
      | none => have := hpres x (List.mem_append_left _ h1); exact ⟨this.1, this.2, h0.2.2⟩
      | some o =>
        obtain ⟨z, hz, -, hz2⟩ := (h.olds o rfl).2.2.2.1
        have := hpres z (List.mem_append_left _ hz)
        have := hz2 x h1
        omega
    · have := hpres x (List.mem_append_right _ h1); exact ⟨this.1, this.2, h0.2.2⟩
  · rw [e1] at hb
    have := fold_num (f := LB.segment) hb
    rw [es]
    omega
  · obtain ⟨h1, h2, h3, h4, h5⟩ := h.olds o ho
    refine ⟨by rw [e1, List.length_map, ← hbl]; exact h1, h2, h3, h4, fun b hb he => ?_⟩
    obtain ⟨j, hj⟩ := List.getElem?_of_mem hb
    obtain ⟨b2, bn, g1, g2, rfl, g3⟩ := hget j b hj
    rcases g3.seg with ⟨h6, -⟩ | ⟨h6, -⟩
    · exact h5 b2 (List.mem_of_getElem? g1) (by rw [← h6, he])
    · rw [← he, h6]
  · rw [ed] at hd hnj ⊢
    obtain ⟨b, bn2, g1, g2, rfl, g3⟩ := hget j c hc
    rw [hnj] at g2
    cases g2
    have h1 := h.blk j b bd bn g1 hd hnj
    rw [eo, if_neg (by omega), decide_eq_false (by omega)]
    rw [show (if (j : Int) = L.open_ then ([] : List Pg) else []) = [] by split <;> rfl] at h1
    rcases g3.seg with ⟨h6, -⟩ | ⟨h6, h7, h8⟩
    · rw [h6]; exact h1.loose
    · obtain ⟨q1, q2, q3⟩ := h1.reseg h8 0
      have hpos : ∀ x ∈ TD ++ P, x.segment ≠ 0 := fun x hx => by have := (h.nums x hx).2.2; omega
      rw [h6, inSeg_nil (T := nowT TD er) (fun x hx => hpos x (List.mem_append_left _ ((nowT_sub _ _).subset hx))), inSeg_nil (T := P) (fun x hx => hpos x (List.mem_append_right _ hx))]
      exact q3
  · rw [eo] at ho; omega
/-- what Open leaves of a fresh device -/
structure Opened (L : Log) (T : List Ent) : Prop where
  core : Core L T [] none []
  free : freeF L ≠ []
  off : L.broken = false
  opn : L.open_ = -1
theorem Fresh.load {D : Dev} {T : List Ent} (h : Fresh D T) : Core (loadF (log0 D)) T [] none [] := by
  have hn3 := h.n3
  have e1 : (loadF (log0 D)).blocks = D.now.map scanF := rfl
  have en : (loadF (log0 D)).number = (D.now.map scanF).foldl (fun n b => max n (b.number + 1)) 1 := rfl
  have es : (loadF (log0 D)).segment = (D.now.map scanF).foldl (fun n b => max n (b.segment + 1)) 1 := rfl
  have eo : (loadF (log0 D)).open_ = -1 := rfl
  refine ⟨loadF_inv (L := log0 D) h.dev hn3, by rw [List.append_nil]; exact h.rep, by rw [List.append_nil]; exact h.pw, fun x hx => ?_, fun b hb => ?_, fun o ho => (by cases ho), fun j c bd bn hc hd hnj => ?_, fun o ho => ?_⟩
  · rw [List.append_nil] at hx
    obtain ⟨j, b, hb, hbs⟩ := h.rep.cover x hx
    have hb0 := hb
    rw [List.getElem?_map, Option.map_eq_some_iff] at hb
    obtain ⟨c, hc, rfl⟩ := hb
    have hxe : x ∈ (scanF c).entries := by rw [h.rep.ents j _ hb0]; exact List.mem_filter.2 ⟨hx, decide_eq_true hbs.symm⟩
    have hm : scanF c ∈ D.now.map scanF := List.mem_map_of_mem (List.mem_of_getElem? hc)
    have h1 := fold_num (f := LB.number) hm
    have h2 := fold_num (f := LB.segment) hm
    have h3 := (h.blk j c hc).num x hxe
    have h4 := h.rep.pos x hx
    rw [en, es, ← hbs]
    omega
  · rw [e1] at hb
    have := fold_num (f := LB.segment) hb
    rw [es]
    omega
  · have hd0 : D.durable[j]? = some bd := hd
    have hn0 : D.now[j]? = some bn := hnj
    rw [h.dur, hn0] at hd0
    cases hd0
    have hc0 := hc
    rw [e1, List.getElem?_map, hn0] at hc
    cases hc
    rw [eo, if_neg (by omega), decide_eq_false (by omega)]
    have hp : onB j (loadF (log0 D)).d.pending = [] := by show onB j D.pending = []; rw [h.pend]; rfl
    rw [hp]
    have h1 := (h.blk j bd hn0).st (j := j)
    rw [h.rep.ents j _ (by rw [List.getElem?_map, hn0]; rfl)] at h1
    exact h1
  · rw [eo] at ho; omega
theorem free_iff (L : Log) : freeF L ≠ [] ↔ ∃ (j : Nat) (b : LB), L.blocks[j]? = some b ∧ b.next = 0 := by
  constructor
  · intro h
    obtain ⟨j, hj⟩ := List.exists_mem_of_ne_nil _ h
    obtain ⟨h1, b, h2, h3⟩ := free_lt hj
    exact ⟨j, b, h2, h3⟩
  · rintro ⟨j, b, h1, h2⟩ h3
    have : j ∈ freeF L := by
      unfold freeF
      rw [List.mem_filter, List.mem_range]
      exact ⟨(List.getElem?_eq_some_iff.1 h1).1, by rw [h1]; exact decide_eq_true h2⟩
    rw [h3] at this
    cases this
/-- why Open may erase -/
def MayErase (D : Dev) (T : List Ent) (may : Bs → Option Bs → Prop) : Prop :=
  (∃ (j : Nat) (b : Blk), D.now[j]? = some b ∧ nextF b = 0) ∨ (∃ (j : Nat) (b : Blk), D.now[j]? = some b ∧ NoCount T (scanF b).segment) ∨
  (∃ (j : Nat) (b : Blk), D.now[j]? = some b ∧ (∀ (i : Nat) (c : Blk), D.now[i]? = some c → i ≠ j → (scanF c).segment < (scanF b).segment) ∧ ∀ k, may k (valK (without T (scanF b).segment) k))
theorem Fresh.open_ {D : Dev} {T : List Ent} (h : Fresh D T) (h1 : D.off = false) (h2 : D.planned = false) {may : Bs → Option Bs → Prop} (hv : ∀ k, may k (valK T k)) (hm : MayErase D T may) :
    ∃ L D' T', openF D = (0, some L, D') ∧ L.d = D' ∧ Opened L T' ∧ (∀ k, may k (valK T' k)) ∧ D'.off = false ∧ D'.planned = false := by
  have hn : ¬ D.now.length < 3 := by have := h.n3; omega
  have hl := h.load
  by_cases hf : freeF (loadF (log0 D)) = []
  · have hb : (loadF (log0 D)).blocks.length = D.now.length := by rw [hl.inv.wf.bl]; rfl
    have hsp := spare_lt (L := loadF (log0 D)) (by have := h.n3; omega)
    rw [hb] at hsp
    obtain ⟨sp, hspe⟩ : ∃ z, z = spareF (loadF (log0 D)) := ⟨_, rfl⟩
    have hspec := spare_spec (loadF (log0 D))
    rw [← hspe] at hsp hspec
    have hbn : D.now[sp]? = some (D.now[sp]'hsp) := List.getElem?_eq_getElem hsp
    generalize D.now[sp]'hsp = bs at hbn
    have hbl : (loadF (log0 D)).blocks[sp]? = some (scanF bs) := by show (D.now.map scanF)[sp]? = _; rw [List.getElem?_map, hbn]; rfl
    have hp := power_on h1 h2
    obtain ⟨D2, hD2⟩ : ∃ z, z = ({ D with now := D.now.set sp (eraseB bs), durable := D.now.set sp (eraseB bs), pending := [] } : Dev) := ⟨_, rfl⟩
    have hop : openF D = (0, some (loadF (log0 D2)), D2) := by
      rw [openF_erase hn hf, ← hspe, eraseD_ok hbn (by rw [hp])]
      simp only [hp]
      rw [syncD_ok (by rw [power_on (by exact h1) (by exact h2)])]
      simp only
      rw [power_on (by exact h1) (by exact h2), hD2]
      rfl
    -- values
    have hrep0 : Rep T (loadF (log0 D)).blocks := h.rep
    have hpg : ∀ e ∈ T, 1 ≤ e.pages := fun e he => by
      obtain ⟨i, j, hij⟩ := mem_eat hrep0 he
      exact (hij.ok hl.inv.wf).pg.1
    have hcnt : ∀ (j : Nat) (b : LB), (loadF (log0 D)).blocks[j]? = some b → (spareCount (loadF (log0 D)) j b = 0 ↔ NoCount T b.segment) := fun j b hb => by
      rw [spare_eq hrep0 h.pw hb, pagesOf_zero (fun e he => hpg e (List.mem_filter.1 (List.mem_filter.1 he).1).1)]
      rw [List.filter_eq_nil_iff]
      constructor
      · intro hx e he hs hlv
        have := hx e (List.mem_filter.2 ⟨he, decide_eq_true hs⟩)
        rw [hlv] at this
        simpa using this
      · intro hx e he
        obtain ⟨he1, he2⟩ := List.mem_filter.1 he
        cases hlv : liveT T e with
        | false => simp
        | true => rw [hx e he1 (of_decide_eq_true he2) hlv]; simp
    have hval : ∀ k, may k (valK (without T (scanF bs).segment) k) := by
      rcases hspec with ⟨b, hb, hc⟩ | ⟨hall, hmax⟩
      · rw [hbl] at hb
        cases hb
        intro k
        rw [((hcnt sp _ hbl).1 hc).val h.pw k]
        exact hv k
      · rcases hm with ⟨j, b, hj, hj0⟩ | ⟨j, b, hj, hnc⟩ | ⟨j, b, hj, hbig, hmv⟩
        · exact absurd hf ((free_iff _).2 ⟨j, scanF b, by show (D.now.map scanF)[j]? = _; rw [List.getElem?_map, hj]; rfl, hj0⟩)
        · have hbj : (loadF (log0 D)).blocks[j]? = some (scanF b) := by show (D.now.map scanF)[j]? = _; rw [List.getElem?_map, hj]; rfl
          exact absurd ((hcnt j _ hbj).2 hnc) (hall j _ hbj)
        · have hbj : (loadF (log0 D)).blocks[j]? = some (scanF b) := by show (D.now.map scanF)[j]? = _; rw [List.getElem?_map, hj]; rfl
          by_cases hjs : j = sp
          · subst hjs
            rw [hbn] at hj
            cases hj
            exact hmv
          · have h3 := hbig sp bs hbn (Ne.symm hjs)
            have h4 := hmax j (List.getElem?_eq_some_iff.1 hbj).1
            rw [segOf_at hbj, segOf_at hbl] at h4
            omega
    -- the device without the block
    have her := eraseB_at D.npages (h.dev.now bs (List.mem_of_getElem? hbn)) 0
    have hnow : D2.now = D.now.set sp (eraseB bs) := by rw [hD2]
    have hdok : DevOk D2 ∧ D2.npages = D.npages := h.dev.of (by
        rw [hnow]
        intro b hb
        rcases mem_set_or hb with h3 | h3
        · exact h.dev.now b h3
        · rw [h3]; exact her.1.ok) (by
        rw [show D2.durable = D2.now by rw [hD2], hnow]
        intro b hb
        rcases mem_set_or hb with h3 | h3
        · exact h.dev.now b h3
        · rw [h3]; exact her.1.ok) (by rw [hnow, List.length_set]) (by rw [show D2.durable = D2.now by rw [hD2], hnow, List.length_set]) (fun o ho => by rw [show D2.pending = [] by rw [hD2]] at ho; cases ho)
    have her0 : scanF (eraseB bs) = ⟨0, (scanF (eraseB bs)).segment, (scanF (eraseB bs)).number, []⟩ ∧ (scanF (eraseB bs)).segment = 0 := by
      have h3 := her.1.entries
      have h4 := her.2
      rcases her.1.seg with ⟨h5, -⟩ | ⟨h5, -⟩
      · refine ⟨?_, h5⟩
        conv => lhs; rw [scanF_eq]
        rw [scanF_eq] at h3
        simp only at h3
        rw [h3, h4]
        rfl
      · refine ⟨?_, h5⟩
        conv => lhs; rw [scanF_eq]
        rw [scanF_eq] at h3
        simp only at h3
        rw [h3, h4]
        rfl
    have hgetn : ∀ (j : Nat) (b : Blk), D2.now[j]? = some b → (j = sp ∧ b = eraseB bs) ∨ (j ≠ sp ∧ D.now[j]? = some b) := fun j b hj => by
      rw [hnow] at hj
      by_cases hjs : j = sp
      · subst hjs
        rw [List.getElem?_set_self hsp] at hj
        cases hj
        exact .inl ⟨rfl, rfl⟩
      · rw [List.getElem?_set_ne (Ne.symm hjs)] at hj
        exact .inr ⟨hjs, hj⟩
    have hposT : ∀ x ∈ T, x.segment ≠ 0 := fun x hx => by have := h.rep.pos x hx; omega
    have hfr : Fresh D2 (without T (scanF bs).segment) := by
      refine ⟨hdok.1, by rw [hnow, List.length_set]; exact h.n3, by rw [hD2], by rw [hD2], ⟨fun j b hb => ?_, fun x hx => ?_, fun x hx => h.rep.pos x (mem_without.1 hx).1, fun i j b c hb hc he hn => ?_⟩, h.pw.sublist List.filter_sublist, fun j b hj => ?_⟩
      · rw [List.getElem?_map, Option.map_eq_some_iff] at hb
        obtain ⟨c, hc, rfl⟩ := hb
        rcases hgetn j c hc with ⟨-, rfl⟩ | ⟨hjs, hc0⟩
        · rw [her.1.entries, her0.2]
          exact (inSeg_nil (T := without T (scanF bs).segment) (s := 0) (fun x hx => hposT x (mem_without.1 hx).1)).symm
        · have hcm : (D.now.map scanF)[j]? = some (scanF c) := by rw [List.getElem?_map, hc0]; rfl
          rw [h.rep.ents j _ hcm]
          by_cases hs : (scanF c).segment = (scanF bs).segment
          · have hz : (scanF c).segment = 0 := by
              rcases Nat.decEq (scanF c).segment 0 with h3 | h3
              · exact absurd (h.rep.inj j sp _ _ hcm (by rw [List.getElem?_map, hbn]; rfl) hs h3) hjs
              · exact h3
            rw [hz]
            exact (inSeg_nil (T := T) (s := 0) hposT).trans (inSeg_nil (T := without T (scanF bs).segment) (s := 0) (fun x hx => hposT x (mem_without.1 hx).1)).symm
          · exact (inSeg_without hs).symm
      · obtain ⟨hx1, hx2⟩ := mem_without.1 hx
        obtain ⟨j, b, hb, hbs⟩ := h.rep.cover x hx1
        have hb0 := hb
        rw [List.getElem?_map, Option.map_eq_some_iff] at hb
        obtain ⟨c, hc, rfl⟩ := hb
        have hjs : j ≠ sp := fun hjs => by
          subst hjs
          rw [hbn] at hc
          cases hc
          exact hx2 hbs.symm
        exact ⟨j, scanF c, by rw [List.getElem?_map, hnow, List.getElem?_set_ne (Ne.symm hjs), hc]; rfl, hbs⟩
      · rw [List.getElem?_map, Option.map_eq_some_iff] at hb hc
        obtain ⟨b1, hb1, rfl⟩ := hb
        obtain ⟨c1, hc1, rfl⟩ := hc
        rcases hgetn i b1 hb1 with ⟨-, rfl⟩ | ⟨hi, hb2⟩
        · exact absurd her0.2 hn
        · rcases hgetn j c1 hc1 with ⟨-, rfl⟩ | ⟨hj, hc2⟩
          · rw [he] at hn; exact absurd her0.2 hn
          · exact h.rep.inj i j _ _ (by rw [List.getElem?_map, hb2]; rfl) (by rw [List.getElem?_map, hc2]; rfl) he hn
      · rw [hdok.2]
        rcases hgetn j b hj with ⟨-, rfl⟩ | ⟨-, hj0⟩
        · exact her.1.scanned
        · exact h.blk j b hj0
    refine ⟨_, D2, _, hop, rfl, ⟨hfr.load, (free_iff _).2 ⟨sp, scanF (eraseB bs), ?_, her.2⟩, rfl, rfl⟩, hval, by rw [hD2]; exact h1, by rw [hD2]; exact h2⟩
    show (D2.now.map scanF)[sp]? = _
    rw [hnow, List.getElem?_map, List.getElem?_set_self hsp]
    rfl
  · exact ⟨_, _, T, openF_free hn hf, rfl, ⟨hl, hf, rfl, rfl⟩, hv, h1, h2⟩
end Go.Proofs.Ytepigkjgjlibcaa
