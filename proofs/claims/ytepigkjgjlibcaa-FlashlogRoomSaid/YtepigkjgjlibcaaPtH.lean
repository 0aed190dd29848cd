/- Chapter 23, plain: begin, sync, erase; what may be read after a crash. -/
import Derived.Test.YtepigkjgjlibcaaPtG
namespace Go.Proofs.Ytepigkjgjlibcaa
open Go.RowKit Go.Deep Go.Proofs.Ytepigkjgjlibcaa.FL
theorem BlkSt.begin_ {np j : Nat} {bd bn : Blk} {ops : List FL.Oper} {s : Nat} {old : Option (Nat × List Ent)} {e0 ep : List Ent} {al : Bool} (h : BlkSt np j bd bn ops s old e0 ep [] al) (h0 : nextF bn = 0) (s' : Nat) : BlkSt np j bd bn ops s' old [] [] [] true := by
  obtain ⟨q1, q2, -, -, -⟩ := h.empty h0
  obtain ⟨b0, c0, r0, qs, hok, h1, h2, h3, h4, h5, h6, h7, h8, h9⟩ := h.base
  have hnx := pages_next hok h6 h9
  have hq : qs = [] := List.eq_nil_of_length_eq_zero (by omega)
  subst hq
  have hz : nextF b0 = 0 := by simp only [List.length_nil] at hnx; omega
  have hcells : b0.pages.map readPage = [] ++ List.replicate np none := by
    rw [List.nil_append, List.eq_replicate_iff, List.length_map]
    refine ⟨hok.len, fun x hx => ?_⟩
    obtain ⟨i, hi⟩ := List.getElem?_of_mem hx
    exact hok.cells_none (by omega) hi
  refine ⟨⟨b0, [], np, [], ?_, h2, hcells, .nil, fun _ => by rw [hz]; rfl, h6, h7, rfl, h9⟩, h.okd, fun e he => (by cases he), .inl rfl⟩
  cases old with
  | none => exact h1
  | some o => exact ⟨h1.1, rfl, h1.2.2⟩
theorem set_cases {α : Type} {l : List α} {i : Nat} {x : α} (hi : i < l.length) {j : Nat} {c : α} (hc : (l.set i x)[j]? = some c) : (j = i ∧ c = x) ∨ (j ≠ i ∧ l[j]? = some c) := by
  by_cases hj : j = i
  · subst hj; rw [List.getElem?_set_self hi] at hc; cases hc; exact .inl ⟨rfl, rfl⟩
  · rw [List.getElem?_set_ne (Ne.symm hj)] at hc; exact .inr ⟨hj, hc⟩
theorem Rep.fresh {T : List Ent} {bs : List LB} (h : Rep T bs) {i : Nat} {b nb : LB} (hb : bs[i]? = some b) (h1 : b.entries = []) (h2 : nb.entries = []) (h3 : ∀ x ∈ T, x.segment ≠ nb.segment) (h4 : ∀ c ∈ bs, c.segment = nb.segment → nb.segment = 0) : Rep T (bs.set i nb) := by
  have hi := (List.getElem?_eq_some_iff.1 hb).1
  refine ⟨fun j c hc => ?_, fun x hx => ?_, h.pos, fun j k c d hj hk he hn => ?_⟩
  · rcases set_cases hi hc with ⟨-, rfl⟩ | ⟨-, hc0⟩
    · rw [h2]; exact (inSeg_nil h3).symm
    · exact h.ents j c hc0
  · obtain ⟨j, c, hc, hcs⟩ := h.cover x hx
    have hji : j ≠ i := fun hji => by
      subst hji
      rw [hb] at hc
      cases hc
      have : x ∈ b.entries := by rw [h.ents j b hb]; exact List.mem_filter.2 ⟨hx, decide_eq_true hcs.symm⟩
      rw [h1] at this
      cases this
    exact ⟨j, c, by rw [List.getElem?_set_ne (Ne.symm hji)]; exact hc, hcs⟩
  · rcases set_cases hi hj with ⟨rfl, rfl⟩ | ⟨hji, hj0⟩
    · rcases set_cases hi hk with ⟨rfl, rfl⟩ | ⟨hki, hk0⟩
      · rfl
      · exact absurd (h4 d (List.mem_of_getElem? hk0) he.symm) hn
    · rcases set_cases hi hk with ⟨rfl, rfl⟩ | ⟨hki, hk0⟩
      · rw [he] at hn; exact absurd (h4 c (List.mem_of_getElem? hj0) he) hn
      · exact h.inj j k c d hj0 hk0 he hn
theorem Core.begin_ {L : Log} {TD P : List Ent} {er : Option (Nat × Nat)} (h : Core L TD P er []) {i : Nat} {b : LB} (hb : L.blocks[i]? = some b) (hf : b.next = 0) (hs : L.segment ≤ far) : Core (beginF L i) TD P er [] := by
  obtain ⟨h1, e1⟩ := beginF_inv h.inv hb hs
  have hi := (List.getElem?_eq_some_iff.1 hb).1
  obtain ⟨bn, hbn, hnx⟩ := h.inv.blk hb
  have hbe : b.entries = [] := ((h.open_le hb hbn).free (by rw [← hnx]; exact hf)).1
  have hnew : ∀ x ∈ TD ++ P, x.segment ≠ L.segment := fun x hx => by have := (h.nums x hx).2.1; omega
  have hnewT : ∀ x ∈ nowT TD er ++ P, x.segment ≠ L.segment := fun x hx => hnew x (((nowT_sub TD er).append (List.Sublist.refl P)).subset hx)
  rw [e1] at h1 ⊢
  refine ⟨h1, ?_, h.pw, fun x hx => ?_, fun c hc => ?_, fun o ho => ?_, fun j c bd bn2 hc hd hn2 => ?_, fun o ho c hc => ?_⟩
  · exact h.rep.fresh hb hbe hbe hnewT (fun c hc he => by have h3 : c.segment = L.segment := he; have := h.bseg c hc; omega)
  · have := h.nums x hx; simp only; omega
  · simp only at hc ⊢
    rcases mem_set_or hc with h3 | h3
    · have := h.bseg c h3; omega
    · rw [h3]; simp only; omega
  · obtain ⟨q1, q2, q3, ⟨z, q4, q6, q7⟩, q5⟩ := h.olds o ho
    refine ⟨by simp only [List.length_set]; exact q1, q2, q3, ⟨z, q4, q6, q7⟩, fun c hc he => ?_⟩
    rcases mem_set_or hc with h3 | h3
    · exact q5 c h3 he
    · have hz := (h.nums z (List.mem_append_left _ ((nowT_sub TD er).subset q4))).2.1
      rw [h3] at he
      simp only at he
      omega
  · simp only at hc hd hn2 ⊢
    rcases set_cases hi hc with ⟨rfl, rfl⟩ | ⟨hji, hc0⟩
    · rw [hbn] at hn2
      cases hn2
      have h3 := h.blk j b bd bn hb hd hbn
      rw [show (if (j : Int) = L.open_ then ([] : List Pg) else []) = [] by split <;> rfl] at h3
      have h4 := h3.begin_ (by rw [← hnx]; exact hf) L.segment
      rw [if_pos rfl, decide_eq_true rfl, inSeg_nil (T := nowT TD er) (fun x hx => hnewT x (List.mem_append_left _ hx)), inSeg_nil (T := P) (fun x hx => hnewT x (List.mem_append_right _ hx))]
      exact h4
    · have h3 := h.blk j c bd bn2 hc0 hd hn2
      rw [show (if (j : Int) = L.open_ then ([] : List Pg) else []) = [] by split <;> rfl] at h3
      rw [if_neg (by omega), decide_eq_false (by omega)]
      exact h3.loose
  · simp only at ho hc ⊢
    obtain rfl : o = i := by omega
    rw [List.getElem?_set_self hi] at hc
    cases hc
    exact ⟨h.inv.wf.seg.1, rfl⟩
theorem BlkSt.synced {np j : Nat} {bd bn : Blk} {ops : List FL.Oper} {s : Nat} {old : Option (Nat × List Ent)} {e0 ep : List Ent} {al : Bool} (h : BlkSt np j bd bn ops s old e0 ep [] al) : BlkSt np j bn bn [] s none (e0 ++ ep) [] [] al := by
  obtain ⟨h1, h2⟩ := h.now
  cases al with
  | false => exact h1.st
  | true =>
    obtain ⟨c, r, h3, h4, h5⟩ := h2 rfl (.inl rfl)
    obtain ⟨b0, c0, r0, qs, g1, g2, -, -, -, g6, g7, g8, g9⟩ := (h1.st (j := j)).ex
    simp only at g1
    subst g1
    have hq : qs = [] := by
      have := congrArg List.length g8
      simp only [List.flatMap_nil, List.nil_append, List.length_map, List.length_nil] at this
      exact List.eq_nil_of_length_eq_zero this
    subst hq
    exact ⟨⟨b0, c, r, [], rfl, g2, h3, h4, fun _ => h5, g6, g7, rfl, g9⟩, h1.ok, fun e he => (by cases he), .inl rfl⟩
theorem Core.sync {L : Log} {TD P : List Ent} {er : Option (Nat × Nat)} (h : Core L TD P er []) {c : Nat} {D' : Dev} (hs : syncD L.d = (c, D')) : (c = 0 → Core { L with d := D' } (nowT TD er ++ P) [] none []) ∧ (c ≠ 0 → Core { L with d := D', broken := true } TD P er []) := by
  obtain ⟨s1, s2, s3, s4⟩ := sync_cases h.inv.dev hs
  have hsub : (nowT TD er ++ P).Sublist (TD ++ P) := (nowT_sub TD er).append (List.Sublist.refl P)
  constructor
  · intro hc
    rcases s4 with ⟨h4, -⟩ | ⟨-, h5, h6⟩
    · exact absurd hc h4
    refine ⟨h.inv.dev_ s1 s3 s2 L.broken, by rw [List.append_nil]; exact h.rep, by rw [List.append_nil]; exact h.pw.sublist hsub, fun x hx => ?_, h.bseg, fun o ho => (by cases ho), fun j b bd bn hb hd hn => ?_, h.opn⟩
    · rw [List.append_nil] at hx; exact h.nums x (hsub.subset hx)
    · simp only at hd hn hb ⊢
      rw [h5] at hd
      rw [s3] at hn
      rw [hn] at hd
      cases hd
      have hj := (List.getElem?_eq_some_iff.1 hb).1
      have hd0 : L.d.durable[j]? = some (L.d.durable[j]'(by rw [h.inv.dev.lens, ← h.inv.wf.bl]; exact hj)) := List.getElem?_eq_getElem _
      have h7 := h.blk j b _ _ hb hd0 hn
      rw [show (if (j : Int) = L.open_ then ([] : List Pg) else []) = [] by split <;> rfl] at h7 ⊢
      have h8 := h7.synced
      rw [← inSeg_append] at h8
      rw [h6, s2]
      exact h8
  · intro hc
    rcases s4 with ⟨-, h5, h6⟩ | ⟨h4, -⟩
    · exact h.same (h.inv.dev_ s1 s3 s2 true) rfl rfl (Nat.le_refl _) rfl h5 s3 h6 s2
    · exact absurd h4 hc
theorem BlkSt.erased {np j : Nat} {bd bn : Blk} {ops : List FL.Oper} {s : Nat} {e0 : List Ent} {al : Bool} (h : BlkSt np j bd bn ops s none e0 [] [] al) : BlkSt np j bd (eraseB bn) (ops ++ [⟨j, 0, none⟩]) 0 (some (s, e0)) [] [] [] false := by
  obtain ⟨b0, c0, r0, qs, hok, h1, h2, h3, h4, h5, h6, h7, h8, h9⟩ := h.base
  simp only at h1 h2
  subst h1
  have hq : qs = [] := by
    have := congrArg List.length h8
    simp only [List.flatMap_nil, List.nil_append, List.length_map, List.length_nil] at this
    exact List.eq_nil_of_length_eq_zero this
  subst hq
  have he := erase_ok hok
  have hb := h.now.1
  rw [List.append_nil] at hb
  have hcn : ∀ x ∈ (eraseB b0).pages.map readPage, x = none := fun x hx => by
    obtain ⟨i, hi⟩ := List.getElem?_of_mem hx
    exact he.1.cells_none (by rw [he.2]; omega) hi
  refine ⟨⟨eraseB b0, [], np, [], ⟨rfl, rfl, ⟨hok, c0, r0, h3, h4⟩⟩, ?_, ?_, .nil, fun _ => by rw [he.2]; rfl, by rw [he.2]; exact Nat.zero_le _, fun q hq => (by cases hq), rfl, ?_⟩, hok, fun e he => (by cases he), .inl rfl⟩
  · rw [h2]; unfold progs progsFrom; rfl
  · rw [List.nil_append, List.eq_replicate_iff, List.length_map]; exact ⟨he.1.len, hcn⟩
  · rw [he.2]
    have e1 : (eraseB bn).pages = List.replicate np none := by unfold eraseB; simp only; rw [hb.ok.len]
    rw [e1, List.take_zero]
    simp
theorem Rep.gone {T : List Ent} {bs : List LB} (h : Rep T bs) {i : Nat} {b z : LB} (hb : bs[i]? = some b) (h1 : z.segment = 0) (h2 : z.entries = []) : Rep (without T b.segment) (bs.set i z) := by
  have hi := (List.getElem?_eq_some_iff.1 hb).1
  have hpos : ∀ x ∈ T, x.segment ≠ 0 := fun x hx => by have := h.pos x hx; omega
  have hposw : ∀ x ∈ without T b.segment, x.segment ≠ 0 := fun x hx => hpos x (mem_without.1 hx).1
  refine ⟨fun j c hc => ?_, fun x hx => ?_, fun x hx => h.pos x (mem_without.1 hx).1, fun j k c d hj hk he hn => ?_⟩
  · rcases set_cases hi hc with ⟨-, rfl⟩ | ⟨hji, hc0⟩
    · rw [h1, h2]; exact (inSeg_nil hposw).symm
    · rw [h.ents j c hc0]
      by_cases hs : c.segment = b.segment
      · have hz : c.segment = 0 := by
          rcases Nat.decEq c.segment 0 with h3 | h3
          · exact absurd (h.inj j i c b hc0 hb hs h3) hji
          · exact h3
        rw [hz]
        exact (inSeg_nil hpos).trans (inSeg_nil hposw).symm
      · exact (inSeg_without hs).symm
  · obtain ⟨hx1, hx2⟩ := mem_without.1 hx
    obtain ⟨j, c, hc, hcs⟩ := h.cover x hx1
    have hji : j ≠ i := fun hji => by
      subst hji
      rw [hb] at hc
      cases hc
      exact hx2 hcs.symm
    exact ⟨j, c, by rw [List.getElem?_set_ne (Ne.symm hji)]; exact hc, hcs⟩
  · rcases set_cases hi hj with ⟨rfl, rfl⟩ | ⟨hji, hj0⟩
    · exact absurd h1 hn
    · rcases set_cases hi hk with ⟨rfl, rfl⟩ | ⟨hki, hk0⟩
      · rw [he] at hn; exact absurd h1 hn
      · exact h.inj j k c d hj0 hk0 he hn
theorem Core.erase {L : Log} {TD : List Ent} (h : Core L TD [] none []) {i : Nat} {b : LB} (hb : L.blocks[i]? = some b) (hio : L.open_ ≠ (i : Int)) (hdead : Dead TD b.segment) (htop : ∃ x ∈ without TD b.segment, b.segment ≤ x.segment ∧ ∀ y ∈ TD, y.number ≤ x.number ∧ y.segment ≤ x.segment)
    {D' : Dev} (hs : eraseD L.d i = (0, D')) : Core { L with d := D', blocks := L.blocks.set i ⟨0, 0, 0, []⟩ } TD [] (some (i, b.segment)) [] := by
  have hi := (List.getElem?_eq_some_iff.1 hb).1
  obtain ⟨bn, hbn, hnx⟩ := h.inv.blk hb
  obtain ⟨r1, r2, r3, r4⟩ := erase_cases h.inv.dev hbn hs
  rcases r4 with ⟨h4, -⟩ | ⟨-, h5, h6⟩
  · exact absurd rfl h4
  have he := erase_ok (h.inv.dev.now bn (List.mem_of_getElem? hbn))
  have hinv : LogInv { L with d := D', blocks := L.blocks.set i ⟨0, 0, 0, []⟩ } :=
    ⟨h.inv.wf.upd (nb := ⟨0, 0, 0, []⟩) (D' := D') hb hbn (p' := eraseB bn) h5 r2 he.2.symm (Nat.zero_le _) (Nat.zero_le _) ⟨Nat.zero_le _, Nat.zero_le _, fun x hx => (by cases hx)⟩ L.broken, r1⟩
  have hrep : Rep TD L.blocks := by have := h.rep; rwa [List.append_nil] at this
  have hposD : ∀ x ∈ TD, x.segment ≠ 0 := fun x hx => by have := (h.nums x (List.mem_append_left _ hx)).2.2; omega
  refine ⟨hinv, by rw [List.append_nil]; exact hrep.gone hb rfl rfl, h.pw, h.nums, fun c hc => ?_, fun o ho => ?_, fun j c bd bn2 hc hd hn2 => ?_, fun o ho c hc => ?_⟩
  · rcases mem_set_or hc with h3 | h3
    · exact h.bseg c h3
    · rw [h3]; have := h.inv.wf.seg.1; simp only; omega
  · cases ho
    refine ⟨by simp only [List.length_set]; exact hi, fun x hx => (by cases hx), hdead, htop, fun c hc he2 => ?_⟩
    rcases mem_set_or hc with h3 | h3
    · obtain ⟨j, hj⟩ := List.getElem?_of_mem hc
      rcases set_cases hi hj with ⟨-, rfl⟩ | ⟨hji, hj0⟩
      · exact he2.symm
      · rcases Nat.decEq b.segment 0 with h7 | h7
        · exact absurd (h.rep.inj j i c b hj0 hb he2 (by rw [he2]; exact h7)) hji
        · exact h7
    · rw [h3] at he2; exact he2.symm
  · simp only at hc hd hn2 ⊢
    rw [r3] at hd
    rw [h5] at hn2
    rw [h6, onB_append, r2]
    rcases set_cases hi hc with ⟨rfl, rfl⟩ | ⟨hji, hc0⟩
    · rw [List.getElem?_set_self (List.getElem?_eq_some_iff.1 hbn).1] at hn2
      cases hn2
      have h7 := h.blk j b bd bn hb hd hbn
      rw [if_neg (by omega), decide_eq_false (by omega)] at h7 ⊢
      have h8 := h7.erased
      have e1 : onB j [(⟨j, 0, none⟩ : FL.Oper)] = [⟨j, 0, none⟩] := by unfold onB; simp
      have e2 : oldOf TD (some (j, b.segment)) j = some (b.segment, inSeg TD b.segment) := by unfold oldOf; simp
      rw [e1, e2, inSeg_nil (T := nowT TD (some (j, b.segment))) (s := 0) (fun x hx => hposD x (mem_without.1 hx).1)]
      exact h8
    · rw [List.getElem?_set_ne (Ne.symm hji)] at hn2
      have h7 := h.blk j c bd bn2 hc0 hd hn2
      have e1 : onB j [(⟨i, 0, none⟩ : FL.Oper)] = [] := by unfold onB; simp [Ne.symm hji]
      have e2 : oldOf TD (some (i, b.segment)) j = none := by unfold oldOf; simp [Ne.symm hji]
      have e3 : inSeg (nowT TD (some (i, b.segment))) c.segment = inSeg TD c.segment := by
        by_cases hs2 : c.segment = b.segment
        · have hz : c.segment = 0 := by
            rcases Nat.decEq c.segment 0 with h3 | h3
            · exact absurd (h.rep.inj j i c b hc0 hb hs2 h3) hji
            · exact h3
          rw [hz]
          exact (inSeg_nil (T := nowT TD (some (i, b.segment))) (fun x hx => hposD x (mem_without.1 hx).1)).trans (inSeg_nil hposD).symm
        · exact inSeg_without hs2
      rw [e1, e2, e3, List.append_nil]
      exact h7
  · simp only at ho hc ⊢
    rcases set_cases hi hc with ⟨rfl, -⟩ | ⟨-, hc0⟩
    · exact absurd ho hio
    · exact h.opn o ho c hc0
/-! what may be read after a crash -/
structure Hist (TD P : List Ent) (may : Bs → Option Bs → Prop) : Prop where
  dur : ∀ k, may k (valK TD k)
  pen : ∀ p ∈ P, may p.key (valOf p)
theorem Hist.val {TD P : List Ent} {may : Bs → Option Bs → Prop} (h : Hist TD P may) {X Q : List Ent} (hX : ∀ k, valK X k = valK TD k) (hQ : Q.Sublist P) (k : Bs) : may k (valK (X ++ Q) k) := by
  unfold valK
  rw [lastK_append]
  cases hl : lastK Q k with
  | some e =>
    have := lastK_mem hl
    have h2 := h.pen e (hQ.subset this.1)
    rw [this.2] at h2
    exact h2
  | none =>
    have h1 := hX k
    have h2 := h.dur k
    rw [← h1] at h2
    exact h2
theorem now_val {L : Log} {TD P : List Ent} {er : Option (Nat × Nat)} {pt : List Pg} (h : Core L TD P er pt) (k : Bs) : valK (nowT TD er) k = valK TD k := by
  cases er with
  | none => rfl
  | some o => exact (h.olds o rfl).2.2.1.val (List.pairwise_append.1 h.pw).1 k
/-- every crash leaves a device that opens, with values that may be -/
def Safe (D : Dev) (may : Bs → Option Bs → Prop) : Prop := ∀ keep, ∃ L D' T, openF (crashD D keep) = (0, some L, D') ∧ L.d = D' ∧ Opened L T ∧ (∀ k, may k (valK T k)) ∧ D'.off = false ∧ D'.planned = false
theorem Core.safe {L : Log} {TD P : List Ent} {er : Option (Nat × Nat)} {pt : List Pg} (h : Core L TD P er pt) {may : Bs → Option Bs → Prop} (hh : Hist TD P may)
    (hc : freeF L ≠ [] ∨ (∃ (o : Nat) (b : LB), L.open_ = (o : Int) ∧ L.blocks[o]? = some b ∧ ∀ x ∈ TD, x.segment ≠ b.segment) ∨ (er = none ∧ P = [] ∧ ∃ (i : Nat) (b : LB), L.blocks[i]? = some b ∧ Dead TD b.segment)) : Safe L.d may := by
  intro keep
  obtain ⟨X, Q, hQ, hX, hF, hA⟩ := h.crash keep
  have hXv : ∀ k, valK X k = valK TD k := fun k => by
    rcases hX with rfl | rfl
    · exact now_val h k
    · rfl
  refine hF.open_ rfl rfl (fun k => hh.val hXv hQ k) ?_
  rcases hA with ⟨j, b, h1, h2⟩ | hall
  · exact .inr (.inl ⟨j, b, h1, h2⟩)
  · rcases hc with hf | ⟨o, b, ho, hb, hno⟩ | ⟨her, hP, i, b, hb, hdd⟩
    · obtain ⟨j, b, hb, h0⟩ := (free_iff L).1 hf
      obtain ⟨c, hc, h1, -⟩ := hall j b hb
      exact .inl ⟨j, c, hc, h1 h0⟩
    · obtain ⟨c, hc, -, hs⟩ := hall o b hb
      have hob := h.opn o ho b hb
      rcases hs with hs | hs
      · right; right
        refine ⟨o, c, hc, fun i d hd hio => ?_, fun k => ?_⟩
        · have hi : i < L.blocks.length := by
            have := (List.getElem?_eq_some_iff.1 hd).1
            rw [crash_len, h.inv.dev.lens, ← h.inv.wf.bl] at this
            exact this
          obtain ⟨d2, hd2, -, hs2⟩ := hall i _ (List.getElem?_eq_getElem hi)
          rw [hd] at hd2
          cases hd2
          have hbi := h.bseg _ (List.getElem_mem hi)
          rw [hs]
          rcases hs2 with hs2 | hs2
          · rcases Nat.lt_or_ge (scanF d).segment b.segment with h3 | h3
            · exact h3
            · exact absurd (h.rep.inj i o _ b (List.getElem?_eq_getElem hi) hb (by omega) (by omega)) hio
          · omega
        · rw [hs]
          have e1 : without (X ++ Q) b.segment = without X b.segment ++ without Q b.segment := List.filter_append ..
          have e2 : without X b.segment = X := by
            unfold without
            rw [List.filter_eq_self]
            intro x hx
            refine decide_eq_true (hno x ?_)
            rcases hX with rfl | rfl
            · exact (nowT_sub TD er).subset hx
            · exact hx
          rw [e1, e2]
          exact hh.val hXv (List.filter_sublist.trans hQ) k
      · right; left
        refine ⟨o, c, hc, ?_⟩
        rw [hs]
        intro e he h0
        have := hF.rep.pos e he
        omega
    · obtain ⟨c, hc, -, hs⟩ := hall i b hb
      right; left
      refine ⟨i, c, hc, ?_⟩
      have e1 : X ++ Q = TD := by
        subst hP
        rw [List.sublist_nil.1 hQ, List.append_nil]
        rcases hX with rfl | rfl
        · rw [her]; rfl
        · rfl
      rcases hs with hs | hs
      · rw [hs, e1]; exact hdd.count
      · rw [hs]
        intro e he h0
        have := hF.rep.pos e he
        omega
end Go.Proofs.Ytepigkjgjlibcaa
