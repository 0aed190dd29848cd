/- Chapter 23, plain: program, begin, sync, erase keep what is known of a log. -/
import Derived.Test.YtepigkjgjlibcaaPtF
namespace Go.Proofs.Ytepigkjgjlibcaa
open Go.RowKit Go.Deep Go.Proofs.Ytepigkjgjlibcaa.FL
/-- the pages of an entry, as bytes -/
def pgB (e : Ent) (seg n : Nat) : Nat → List Bs → List Bs
  | _, [] => []
  | i, x :: r => pageF e seg i n x :: pgB e seg n (i + 1) r
theorem pgB_len (e : Ent) (seg n : Nat) : ∀ (l : List Bs) (i : Nat), (pgB e seg n i l).length = l.length
  | [], _ => rfl
  | x :: r, i => by rw [show pgB e seg n i (x :: r) = pageF e seg i n x :: pgB e seg n (i + 1) r from rfl, List.length_cons, List.length_cons, pgB_len]
theorem pgB_get {e : Ent} {seg n : Nat} : ∀ {l : List Bs} {i j : Nat} {x : Bs}, l[j]? = some x → (pgB e seg n i l)[j]? = some (pageF e seg (i + j) n x)
  | [], _, _, _, h => by simp at h
  | y :: r, i, 0, x, h => by cases h; rfl
  | y :: r, i, j + 1, x, h => by
    have := pgB_get (e := e) (seg := seg) (n := n) (l := r) (i := i + 1) (j := j) (x := x) h
    rw [show i + (j + 1) = i + 1 + j by omega]
    exact this
theorem progPages_pend {e : Ent} {seg o n : Nat} : ∀ (ps : List Bs) (i next : Nat) (D : Dev) (b : Blk), DevOk D → D.now[o]? = some b → nextF b = next → (∀ j x, ps[j]? = some x → (pageF e seg (i + j) n x).length = 512) →
    ∀ {c : Nat} {D' : Dev} {nx : Nat}, progPages e seg o n ps i next D = (c, D', nx) → D'.pending = D.pending ++ progs o next ((pgB e seg n i ps).take (nx - next)) ∧ (c ≠ 0 → nx < next + ps.length) := by
  intro ps
  induction ps with
  | nil =>
    intro i next D b hD hb hn hl c D' nx hr
    unfold progPages at hr
    cases hr
    exact ⟨by unfold pgB progs; simp [progsFrom], fun h => absurd rfl h⟩
  | cons x r ih =>
    intro i next D b hD hb hn hl c D' nx hr
    rw [progPages_cons] at hr
    have hx0 := hl 0 x rfl
    rw [Nat.add_zero] at hx0
    rcases hp : programD D o next (pageF e seg i n x) with ⟨cd, D1⟩
    rw [hp] at hr
    obtain ⟨h1, h2, h3, h4⟩ := program_cases hD hb (by omega) hp
    have hbo := hD.now b (List.mem_of_getElem? hb)
    have hob := (List.getElem?_eq_some_iff.1 hb).1
    rcases h4 with ⟨hc, h5, h6⟩ | ⟨hc, h5, h6, h7, h8⟩
    · cases cd with
      | zero => exact absurd rfl hc
      | succ cd =>
        cases hr
        exact ⟨by rw [h6, Nat.sub_self, List.take_zero]; unfold progs progsFrom; rw [List.append_nil], fun _ => by rw [List.length_cons]; omega⟩
    · subst hc
      simp only at hr
      rw [filled_full hx0] at h7 h8
      have hput := hbo.put (x := pageF e seg i n x) (by rw [hn]; exact h6) hx0
      rw [hn] at hput
      have hD1 : D1.now[o]? = some (setPage b next (some (pageF e seg i n x))) := by rw [h7]; exact List.getElem?_set_self hob
      have hl1 : ∀ j y, r[j]? = some y → (pageF e seg (i + 1 + j) n y).length = 512 := fun j y hy => by have := hl (j + 1) y hy; rw [show i + (j + 1) = i + 1 + j by omega] at this; exact this
      obtain ⟨g1, g2⟩ := ih (i + 1) (next + 1) D1 _ h1 hD1 hput.2 hl1 hr
      obtain ⟨-, -, -, -, k1, k2, -⟩ := progPages_cases r (i + 1) (next + 1) D1 _ h1 hD1 hput.2 hl1 hr
      refine ⟨?_, fun hc => by rw [List.length_cons]; have := g2 hc; omega⟩
      rw [g1, h8, List.append_assoc]
      congr 1
      rw [show nx - next = (nx - (next + 1)) + 1 by omega, show pgB e seg n i (x :: r) = pageF e seg i n x :: pgB e seg n (i + 1) r from rfl, List.take_succ_cons]
      have := progs_append o next [pageF e seg i n x] ((pgB e seg n (i + 1) r).take (nx - (next + 1)))
      rw [List.singleton_append] at this
      rw [this]
      rfl
theorem pages_next {np : Nat} {b0 bn : Blk} {qs : List Bs} (hok : BlkOk np b0) (h6 : nextF b0 + qs.length ≤ np) (h9 : bn.pages = b0.pages.take (nextF b0) ++ (qs.map some ++ List.replicate (np - nextF b0 - qs.length) none)) : nextF bn = nextF b0 + qs.length := by
  have hbl := hok.len
  have hnb := nextF_le b0
  have hlen : bn.pages.length = np := by rw [h9]; simp only [List.length_append, List.length_take, List.length_map, List.length_replicate]; omega
  refine next_eq (by rw [hlen]; exact h6) (fun k hk => ?_) (fun hk => ?_)
  · rw [h9]
    by_cases k1 : k < nextF b0
    · rw [List.getElem?_append_left (by rw [List.length_take]; omega), List.getElem?_take, if_pos k1]; exact next_some k1
    · rw [List.getElem?_append_right (by rw [List.length_take]; omega), List.length_take, Nat.min_eq_left (by omega), List.getElem?_append_left (by rw [List.length_map]; omega), List.getElem?_map]
      exact ⟨qs[k - nextF b0]'(by omega), by rw [List.getElem?_eq_getElem (by omega)]; rfl⟩
  · rw [h9, List.getElem?_append_right (by rw [List.length_take]; omega), List.length_take, Nat.min_eq_left (by omega), List.getElem?_append_right (by rw [List.length_map]; omega), List.length_map, List.getElem?_replicate, if_pos (by omega)]
theorem pgsOf_stamp (s : Nat) (e : Ent) : pgsOf s (stamp s e) = pgsOf s e := rfl
theorem stamp_ok {s : Nat} {e : Ent} (h : EW e) : EW (stamp s e) := ⟨⟨h.arg.kind, h.arg.num, h.arg.key, h.arg.val⟩, h.del⟩
/-- pages of an entry are programmed behind what there is -/
theorem BlkSt.prog {np j : Nat} {bd bn bn' : Blk} {ops : List FL.Oper} {s : Nat} {old : Option (Nat × List Ent)} {e0 ep : List Ent} (h : BlkSt np j bd bn ops s old e0 ep [] true) {e : Ent} (he : EW e) (hs : s ≤ far) {t : Nat} (ht : t ≤ (partsF e.key e.value).length) (hok' : BlkOk np bn') (hn' : nextF bn' = nextF bn + t)
    (hsame : ∀ k, k < nextF bn → bn'.pages[k]? = bn.pages[k]?) (hnew : ∀ k x, (partsF e.key e.value)[k]? = some x → k < t → bn'.pages[nextF bn + k]? = some (some (pageF e s k (partsF e.key e.value).length x))) :
    BlkSt np j bd bn' (ops ++ progs j (nextF bn) ((pgB e s (partsF e.key e.value).length 0 (partsF e.key e.value)).take t)) s old e0 (if t = (partsF e.key e.value).length then ep ++ [stamp s e] else ep) (if t = (partsF e.key e.value).length then [] else (pgsOf s e).take t) true := by
  obtain ⟨b0, c0, r0, qs, hok, h1, h2, h3, h4, h5, h6, h7, h8, h9⟩ := h.base
  obtain ⟨n, hn⟩ : ∃ z, z = (partsF e.key e.value).length := ⟨_, rfl⟩
  rw [← hn] at ht hnew ⊢
  have hparts := he.arg.parts
  rw [← hn] at hparts
  have hbn := h.next
  have hbl := hok.len
  have hnb := nextF_le b0
  have hnx := pages_next hok h6 h9
  have hn'le := nextF_le bn'
  rw [hok'.len, hn'] at hn'le
  have hq2l : ((pgB e s n 0 (partsF e.key e.value)).take t).length = t := by rw [List.length_take, pgB_len, ← hn]; omega
  have hq2 : ∀ k x, (partsF e.key e.value)[k]? = some x → k < t → ((pgB e s n 0 (partsF e.key e.value)).take t)[k]? = some (pageF e s k n x) := fun k x hx hk => by
    rw [List.getElem?_take, if_pos hk, pgB_get hx, Nat.zero_add]
  have hrd : ∀ k x, (partsF e.key e.value)[k]? = some x → (pageF e s k n x).length = 512 ∧ readF (pageF e s k n x) = some ⟨e.kind, e.number, s, k, n, x⟩ := fun k x hx => by
    have h10 := (List.getElem?_eq_some_iff.1 hx).1
    have h11 := partsF_le x (List.mem_of_getElem? hx)
    refine ⟨?_, read_page he.arg hs (by omega) (by omega) h11.1⟩
    have := page_enc (kind := e.kind) (number := e.number) (seg := s) (i := k) (n := n) (x := x) he.arg.num hs (by omega) (by omega) h11.1
    exact pageF_len (by omega)
  have hx : ∀ k, k < t → ∃ x, (partsF e.key e.value)[k]? = some x := fun k hk => ⟨_, List.getElem?_eq_getElem (by omega)⟩
  refine ⟨⟨b0, c0, r0, qs ++ (pgB e s n 0 (partsF e.key e.value)).take t, h1, ?_, h3, h4, fun _ => h5 (.inl rfl), ?_, fun q hq => ?_, ?_, ?_⟩, h.okd, ?_, ?_⟩
  · rw [h2, List.append_assoc, progs_append, hnx]
  · rw [List.length_append, hq2l]; omega
  · rcases List.mem_append.1 hq with hq | hq
    · exact h7 q hq
    · obtain ⟨k, hk⟩ := List.getElem?_of_mem hq
      have hkt : k < t := by rw [← hq2l]; exact (List.getElem?_eq_some_iff.1 hk).1
      obtain ⟨x, hxk⟩ := hx k hkt
      rw [hq2 k x hxk hkt] at hk
      cases hk
      exact (hrd k x hxk).1
  · have hpg : ((pgB e s n 0 (partsF e.key e.value)).take t).map (fun q => readPage (some q)) = ((pgsOf s e).take t).map some := by
      refine List.ext_getElem? (fun k => ?_)
      rw [List.getElem?_map, List.getElem?_map]
      by_cases hkt : k < t
      · obtain ⟨x, hxk⟩ := hx k hkt
        rw [hq2 k x hxk hkt, List.getElem?_take, if_pos hkt, pgsOf_at hxk, ← hn]
        exact congrArg some (hrd k x hxk).2
      · rw [List.getElem?_eq_none_iff.2 (by omega), List.getElem?_eq_none_iff.2 (by rw [List.length_take]; omega)]
        rfl
    rw [List.map_append, h8, hpg, List.append_nil, ← List.map_append]
    by_cases htn : t = n
    · rw [if_pos htn, if_pos htn, List.append_nil, List.flatMap_append, List.flatMap_cons, List.flatMap_nil, List.append_nil, pgsOf_stamp, List.take_of_length_le (by rw [pgsOf_len]; omega)]
    · rw [if_neg htn, if_neg htn]
  · refine List.ext_getElem? (fun k => ?_)
    by_cases k1 : k < nextF bn
    · rw [hsame k k1, h9]
      by_cases k0 : k < nextF b0
      · rw [List.getElem?_append_left (by rw [List.length_take]; omega), List.getElem?_append_left (by rw [List.length_take]; omega)]
      · have eL : (b0.pages.take (nextF b0) ++ (qs.map some ++ List.replicate (np - nextF b0 - qs.length) none))[k]? = (qs.map some)[k - nextF b0]? := by
          rw [List.getElem?_append_right (by rw [List.length_take]; omega), List.length_take, Nat.min_eq_left (by omega), List.getElem?_append_left (by rw [List.length_map]; omega)]
        have eR : (b0.pages.take (nextF b0) ++ ((qs ++ (pgB e s n 0 (partsF e.key e.value)).take t).map some ++ List.replicate (np - nextF b0 - (qs ++ (pgB e s n 0 (partsF e.key e.value)).take t).length) none))[k]? = (qs.map some)[k - nextF b0]? := by
          rw [List.getElem?_append_right (by rw [List.length_take]; omega), List.length_take, Nat.min_eq_left (by omega), List.getElem?_append_left (by rw [List.length_map, List.length_append]; omega), List.map_append, List.getElem?_append_left (by rw [List.length_map]; omega)]
        exact eL.trans eR.symm
    · by_cases k2 : k < nextF bn + t
      · obtain ⟨x, hxk⟩ := hx (k - nextF bn) (by omega)
        have h10 := hnew (k - nextF bn) x hxk (by omega)
        rw [show nextF bn + (k - nextF bn) = k by omega] at h10
        rw [h10, List.getElem?_append_right (by rw [List.length_take]; omega), List.length_take, Nat.min_eq_left (by omega), List.getElem?_append_left (by rw [List.length_map, List.length_append, hq2l]; omega), List.map_append,
          List.getElem?_append_right (by rw [List.length_map]; omega), List.length_map, List.getElem?_map, show k - nextF b0 - qs.length = k - nextF bn by omega, hq2 _ x hxk (by omega)]
        rfl
      · rw [List.getElem?_append_right (by rw [List.length_take]; omega), List.length_take, Nat.min_eq_left (by omega), List.getElem?_append_right (by rw [List.length_map, List.length_append, hq2l]; omega), List.length_map, List.length_append, hq2l, List.getElem?_replicate]
        by_cases k3 : k < np
        · rw [if_pos (by omega), hok'.rest k (by omega) k3]
        · rw [if_neg (by omega), List.getElem?_eq_none_iff.2 (by rw [hok'.len]; omega)]
  · intro x hxe
    by_cases htn : t = n
    · rw [if_pos htn] at hxe
      rcases List.mem_append.1 hxe with h10 | h10
      · exact h.ew x h10
      · rw [List.mem_singleton] at h10; subst h10; exact ⟨stamp_ok he, rfl⟩
    · rw [if_neg htn] at hxe; exact h.ew x hxe
  · by_cases htn : t = n
    · rw [if_pos htn]; exact .inl rfl
    · rw [if_neg htn]; exact .inr ⟨e, t, he, by rw [pgsOf_len]; omega, rfl⟩
theorem Rep.snoc {T : List Ent} {bs : List LB} (h : Rep T bs) {o : Nat} {b nb : LB} (hb : bs[o]? = some b) {e : Ent} (h1 : nb.entries = b.entries ++ [e]) (h2 : nb.segment = b.segment) (h3 : e.segment = b.segment) (h4 : 1 ≤ b.segment) : Rep (T ++ [e]) (bs.set o nb) := by
  have ho := (List.getElem?_eq_some_iff.1 hb).1
  have hget : ∀ (j : Nat) (c : LB), (bs.set o nb)[j]? = some c → (j = o ∧ c = nb) ∨ (j ≠ o ∧ bs[j]? = some c) := fun j c hc => by
    by_cases hjo : j = o
    · subst hjo; rw [List.getElem?_set_self ho] at hc; cases hc; exact .inl ⟨rfl, rfl⟩
    · rw [List.getElem?_set_ne (Ne.symm hjo)] at hc; exact .inr ⟨hjo, hc⟩
  have hseg : ∀ (j : Nat) (c : LB), (bs.set o nb)[j]? = some c → ∃ c', bs[j]? = some c' ∧ c'.segment = c.segment := fun j c hc => by
    rcases hget j c hc with ⟨rfl, rfl⟩ | ⟨-, h5⟩
    · exact ⟨b, hb, h2.symm⟩
    · exact ⟨c, h5, rfl⟩
  refine ⟨fun j c hc => ?_, fun x hx => ?_, fun x hx => ?_, fun i j c d hi hj he hn => ?_⟩
  · rw [List.filter_append]
    rcases hget j c hc with ⟨rfl, rfl⟩ | ⟨hjo, h5⟩
    · rw [h1, h2, h.ents j b hb]
      congr 1
      simp [h3]
    · rw [h.ents j c h5]
      have : e.segment ≠ c.segment := fun h6 => hjo (h.inj j o c b h5 hb (by rw [← h6, h3]) (by omega))
      simp [this]
  · rcases List.mem_append.1 hx with h5 | h5
    · obtain ⟨j, c, hc, hcs⟩ := h.cover x h5
      by_cases hjo : j = o
      · subst hjo; rw [hb] at hc; cases hc; exact ⟨j, nb, List.getElem?_set_self ho, by rw [h2]; exact hcs⟩
      · exact ⟨j, c, by rw [List.getElem?_set_ne (Ne.symm hjo)]; exact hc, hcs⟩
    · rw [List.mem_singleton] at h5; subst h5; exact ⟨o, nb, List.getElem?_set_self ho, by rw [h2, h3]⟩
  · rcases List.mem_append.1 hx with h5 | h5
    · exact h.pos x h5
    · rw [List.mem_singleton] at h5; subst h5; omega
  · obtain ⟨c', h5, h6⟩ := hseg i c hi
    obtain ⟨d', h7, h8⟩ := hseg j d hj
    exact h.inj i j c' d' h5 h7 (by rw [h6, h8, he]) (by rw [h6]; exact hn)
/-- other things of a log change -/
theorem Core.same {L L' : Log} {TD P : List Ent} {er : Option (Nat × Nat)} {pt : List Pg} (h : Core L TD P er pt) (hi : LogInv L') (e1 : L'.blocks = L.blocks) (e2 : L'.open_ = L.open_) (e3 : L.number ≤ L'.number) (e4 : L'.segment = L.segment) (e5 : L'.d.durable = L.d.durable) (e6 : L'.d.now = L.d.now) (e7 : L'.d.pending = L.d.pending) (e8 : L'.d.npages = L.d.npages) : Core L' TD P er pt := by
  refine ⟨hi, by rw [e1]; exact h.rep, h.pw, fun x hx => by have := h.nums x hx; rw [e4]; omega, fun b hb => by rw [e4]; exact h.bseg b (by rw [← e1]; exact hb), fun o ho => by rw [e1]; exact h.olds o ho, fun j b bd bn hb hd hn => ?_, fun o ho b hb => by rw [e4]; exact h.opn o (by rw [← e2]; exact ho) b (by rw [← e1]; exact hb)⟩
  rw [e2, e7, e8]
  exact h.blk j b bd bn (by rw [← e1]; exact hb) (by rw [← e5]; exact hd) (by rw [← e6]; exact hn)
theorem Core.ents {L : Log} {TD P : List Ent} {er : Option (Nat × Nat)} {pt : List Pg} (h : Core L TD P er pt) {x : Ent} (hx : x ∈ nowT TD er ++ P) : EW x ∧ stamp x.segment x = x := by
  obtain ⟨j, b, hb, hbs⟩ := h.rep.cover x hx
  have hj : j < L.d.now.length := by rw [← h.inv.wf.bl]; exact (List.getElem?_eq_some_iff.1 hb).1
  have h1 := h.open_le hb (List.getElem?_eq_getElem hj)
  have h2 := h1.ent x (by rw [h.rep.ents j b hb]; exact List.mem_filter.2 ⟨hx, decide_eq_true hbs.symm⟩)
  exact ⟨h2.1, by rw [← hbs]; exact h2.2.1⟩
theorem onB_append (j : Nat) (a b : List FL.Oper) : onB j (a ++ b) = onB j a ++ onB j b := List.filter_append ..
theorem onB_progs (j o p0 : Nat) (qs : List Bs) : onB j (progs o p0 qs) = if j = o then progs o p0 qs else [] := by
  unfold onB
  by_cases h : j = o
  · rw [if_pos h, List.filter_eq_self]
    intro x hx
    rw [progs_block hx]
    exact decide_eq_true h.symm
  · rw [if_neg h, List.filter_eq_nil_iff]
    intro x hx
    rw [progs_block hx]
    simpa using Ne.symm h
/-- what may be written behind the others -/
structure Behind (T : List Ent) (s n : Nat) (e : Ent) : Prop where
  ew : EW e
  num : e.number < n
  rel : ∀ x ∈ T, x.key = e.key → x.number ≤ e.number ∧ (x.number = e.number → x.segment < s ∧ x.kind = e.kind ∧ x.value = e.value)
theorem Core.program {L : Log} {TD P : List Ent} {er : Option (Nat × Nat)} (h : Core L TD P er []) {o : Nat} {b : LB} (ho : L.open_ = (o : Int)) (hb : L.blocks[o]? = some b) {e : Ent} (he : Behind (TD ++ P) b.segment L.number e) :
    ((programF L e).1 = 0 → Core (programF L e).2 TD (P ++ [stamp b.segment e]) er []) ∧ ((programF L e).1 ≠ 0 → ∃ pt, Core (programF L e).2 TD P er pt) := by
  obtain ⟨p, hp, hn⟩ := h.inv.blk hb
  have hbm := List.mem_of_getElem? hb
  have hob := (List.getElem?_eq_some_iff.1 hb).1
  have hseg := (h.inv.wf.ok b hbm).1
  have hopn := h.opn o ho b hb
  have hparts := he.ew.arg.parts
  have hlens : ∀ j x, (partsF e.key e.value)[j]? = some x → (pageF e b.segment (0 + j) (partsF e.key e.value).length x).length = 512 := fun j x hx => by
    have h1 := partsF_le x (List.mem_of_getElem? hx)
    have h2 := (List.getElem?_eq_some_iff.1 hx).1
    exact pageF_len (by
      have := page_enc (kind := e.kind) (number := e.number) (seg := b.segment) (i := 0 + j) (n := (partsF e.key e.value).length) (x := x) he.ew.arg.num hseg (by omega) (by omega) h1.1
      omega)
  rcases hr : progPages e b.segment o (partsF e.key e.value).length (partsF e.key e.value) 0 b.next L.d with ⟨c, D', nx⟩
  obtain ⟨g1, g2, g3, -, g5, g6, g7, p', g8, g9, g10, -, g12, g13, g14⟩ := progPages_cases _ 0 b.next L.d p h.inv.dev hp hn.symm hlens hr
  obtain ⟨k1, k2⟩ := progPages_pend _ 0 b.next L.d p h.inv.dev hp hn.symm hlens hr
  have hout := programF_out h.inv ho hb he.ew.arg
  have hpf := programF_at ho hb e
  rw [hr] at hpf
  have hd : L.d.durable[o]? = some (L.d.durable[o]'(by rw [h.inv.dev.lens, ← h.inv.wf.bl]; exact hob)) := List.getElem?_eq_getElem _
  generalize L.d.durable[o]'(by rw [h.inv.dev.lens, ← h.inv.wf.bl]; exact hob) = bd at hd
  have hst := h.blk o b bd p hb hd hp
  rw [ho, if_pos rfl, decide_eq_true rfl] at hst
  have hst' := hst.prog he.ew hseg (t := nx - b.next) (bn' := p') (by omega) g9 (by rw [g10, ← hn]; omega) (fun k hk => g12 k (by rw [hn]; exact hk)) (fun k x hx hk => by
    have := g13 k x hx (by omega)
    rw [Nat.zero_add, hn] at this
    exact this)
  rw [← hn] at hst'
  have hposs : ∀ o', er = some o' → b.segment ≠ o'.2 := fun o' ho' hbs => by have := (h.olds o' ho').2.2.2.2 b hbm hbs; omega
  have hpw : (TD ++ (P ++ [stamp b.segment e])).Pairwise Rel := by
    rw [← List.append_assoc, List.pairwise_append]
    refine ⟨h.pw, List.pairwise_singleton _ _, fun x hx y hy => ?_⟩
    rw [List.mem_singleton] at hy
    subst hy
    have h1 := h.nums x hx
    refine ⟨by show x.segment ≤ b.segment; omega, fun hk => he.rel x hx hk⟩
  -- the other blocks
  have hoth : ∀ (j : Nat) (c : LB) (bd2 bn2 : Blk), j ≠ o → L.blocks[j]? = some c → L.d.durable[j]? = some bd2 → D'.now[j]? = some bn2 → ∀ pt2 pt3 : List Pg, BlkSt L.d.npages j bd2 bn2 (onB j D'.pending) c.segment (oldOf TD er j) (inSeg (nowT TD er) c.segment) (inSeg P c.segment) (if (j : Int) = L.open_ then pt2 else []) (decide ((j : Int) = L.open_)) := fun j c bd2 bn2 hjo hc hd2 hn2 pt2 _ => by
    rw [g8, List.getElem?_set_ne (Ne.symm hjo)] at hn2
    have h1 := h.blk j c bd2 bn2 hc hd2 hn2
    rw [k1, onB_append, onB_progs, if_neg hjo, List.append_nil]
    rw [ho, if_neg (by omega)] at h1 ⊢
    exact h1
  cases c with
  | zero =>
    refine ⟨fun _ => ?_, fun h => by rw [hpf] at h; exact absurd rfl h⟩
    have hnx := g7 rfl
    rw [hpf]
    rw [hpf] at hout
    refine ⟨hout.inv, ?_, hpw, fun x hx => ?_, fun c hc => ?_, fun o' ho' => ?_, fun j c bd2 bn2 hc hd2 hn2 => ?_, fun j hj c hc => ?_⟩
    · rw [← List.append_assoc]
      exact h.rep.snoc hb rfl rfl rfl (by omega)
    · rw [← List.append_assoc] at hx
      rcases List.mem_append.1 hx with h1 | h1
      · exact h.nums x h1
      · rw [List.mem_singleton] at h1; subst h1; exact ⟨he.num, by show b.segment < L.segment; omega, by show 1 ≤ b.segment; omega⟩
    · rcases mem_set_or hc with h1 | h1
      · exact h.bseg c h1
      · rw [h1]; exact h.bseg b hbm
    · obtain ⟨q1, q2, q3, q4, q5⟩ := h.olds o' ho'
      refine ⟨by simp only [List.length_set]; exact q1, fun x hx => ?_, q3, q4, fun c hc => ?_⟩
      · rcases List.mem_append.1 hx with h1 | h1
        · exact q2 x h1
        · rw [List.mem_singleton] at h1; subst h1; exact hposs o' ho'
      · rcases mem_set_or hc with h1 | h1
        · exact q5 c h1
        · rw [h1]; exact fun h2 => absurd h2 (hposs o' ho')
    · simp only at hd2 hn2 hc ⊢
      rw [g3] at hd2
      rw [g2]
      by_cases hjo : j = o
      · subst hjo
        rw [List.getElem?_set_self hob] at hc
        rw [hd] at hd2
        rw [g8, List.getElem?_set_self (List.getElem?_eq_some_iff.1 hp).1] at hn2
        cases hc
        cases hd2
        cases hn2
        rw [k1, onB_append, onB_progs, if_pos rfl, ho, if_pos rfl, decide_eq_true rfl]
        rw [if_pos (by omega), if_pos (by omega)] at hst'
        have e1 : inSeg (P ++ [stamp b.segment e]) b.segment = inSeg P b.segment ++ [stamp b.segment e] := by rw [inSeg_append]; congr 1; unfold inSeg stamp; simp
        rw [e1]
        exact hst'
      · rw [List.getElem?_set_ne (Ne.symm hjo)] at hc
        have e1 : inSeg (P ++ [stamp b.segment e]) c.segment = inSeg P c.segment := by
          rw [inSeg_append, inSeg_nil (T := [stamp b.segment e]) (fun x hx => ?_), List.append_nil]
          rw [List.mem_singleton] at hx
          subst hx
          exact fun h1 => hjo (h.rep.inj j o c b hc hb h1.symm (by rw [← h1]; show b.segment ≠ 0; omega))
        rw [e1]
        exact hoth j c bd2 bn2 hjo hc hd2 hn2 [] []
    · simp only at hj hc
      rw [ho] at hj
      have : j = o := by omega
      subst this
      rw [List.getElem?_set_self hob] at hc
      cases hc
      exact hopn
  | succ c =>
    refine ⟨fun h => (by rw [hpf] at h; cases h), fun _ => ⟨(pgsOf b.segment e).take (nx - b.next), ?_⟩⟩
    have hnx := k2 (Nat.succ_ne_zero c)
    rw [hpf]
    rw [hpf] at hout
    refine ⟨hout.inv, ?_, h.pw, h.nums, fun c hc => ?_, fun o' ho' => ?_, fun j c bd2 bn2 hc hd2 hn2 => ?_, fun j hj c hc => ?_⟩
    · refine h.rep.weaken (by simp only [List.length_set]) (fun j c c' hc hc' => ?_)
      simp only at hc'
      by_cases hjo : j = o
      · subst hjo; rw [List.getElem?_set_self hob] at hc'; rw [hb] at hc; cases hc; cases hc'; exact ⟨rfl, .inl rfl⟩
      · rw [List.getElem?_set_ne (Ne.symm hjo), hc] at hc'; cases hc'; exact ⟨rfl, .inl rfl⟩
    · rcases mem_set_or hc with h1 | h1
      · exact h.bseg c h1
      · rw [h1]; exact h.bseg b hbm
    · obtain ⟨q1, q2, q3, q4, q5⟩ := h.olds o' ho'
      refine ⟨by simp only [List.length_set]; exact q1, q2, q3, q4, fun c hc => ?_⟩
      rcases mem_set_or hc with h1 | h1
      · exact q5 c h1
      · rw [h1]; exact fun h2 => absurd h2 (hposs o' ho')
    · simp only at hd2 hn2 hc ⊢
      rw [g3] at hd2
      rw [g2]
      by_cases hjo : j = o
      · subst hjo
        rw [List.getElem?_set_self hob] at hc
        rw [hd] at hd2
        rw [g8, List.getElem?_set_self (List.getElem?_eq_some_iff.1 hp).1] at hn2
        cases hc
        cases hd2
        cases hn2
        rw [k1, onB_append, onB_progs, if_pos rfl, ho, if_pos rfl, decide_eq_true rfl]
        rw [if_neg (by omega), if_neg (by omega)] at hst'
        exact hst'
      · rw [List.getElem?_set_ne (Ne.symm hjo)] at hc
        exact hoth j c bd2 bn2 hjo hc hd2 hn2 _ []
    · simp only at hj hc
      rw [ho] at hj
      have : j = o := by omega
      subst this
      rw [List.getElem?_set_self hob] at hc
      cases hc
      exact hopn
end Go.Proofs.Ytepigkjgjlibcaa
