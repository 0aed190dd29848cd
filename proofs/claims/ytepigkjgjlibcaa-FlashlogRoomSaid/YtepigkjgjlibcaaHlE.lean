/- Chapter 23, plain: which keys are in a log; what a put of a new key does; a log above a world. -/
import Derived.Test.YtepigkjgjlibcaaHlC
namespace Go.Proofs.Ytepigkjgjlibcaa
open Go.RowKit Go.Deep Go.Proofs.Ytepigkjgjlibcaa.FL
def KeysIn (L : Log) (K : Bs → Prop) : Prop := ∀ b ∈ L.blocks, ∀ e ∈ b.entries, K e.key
theorem KeysIn.setLB {L : Log} {K : Bs → Prop} (h : KeysIn L K) (i : Nat) (f : LB → LB) (hf : ∀ b ∈ L.blocks, ∀ e ∈ (f b).entries, K e.key) : KeysIn (setLB L i f) K := by
  unfold FL.setLB
  cases hb : L.blocks[i]? with
  | none => exact h
  | some b =>
    intro c hc
    rcases mem_set_or hc with h1 | h1
    · exact h c h1
    · rw [h1]; exact hf b (List.mem_of_getElem? hb)
theorem programF_keys {L : Log} {K : Bs → Prop} (h : KeysIn L K) {e : Ent} (he : K e.key) : KeysIn (programF L e).2 K := by
  unfold programF
  split
  · exact h
  · simp only
    split
    · refine KeysIn.setLB (L := L) h _ _ (fun b hb x hx => ?_)
      rcases List.mem_append.1 hx with h1 | h1
      · exact h b hb x h1
      · rw [List.mem_singleton] at h1; subst h1; exact he
    · exact KeysIn.setLB (L := L) h _ _ (fun b hb x hx => h b hb x hx)
theorem progAll_keys {K : Bs → Prop} : ∀ (es : List Ent) {L : Log}, KeysIn L K → (∀ e ∈ es, K e.key) → KeysIn (progAll es L).2 K
  | [], _, h, _ => h
  | e :: r, L, h, he => by
    rw [progAll_cons]
    have h1 := programF_keys h (he e (List.mem_cons_self ..))
    rcases hp : programF L e with ⟨c, L1⟩
    rw [hp] at h1
    cases c with
    | zero => exact progAll_keys r h1 (fun x hx => he x (List.mem_cons_of_mem _ hx))
    | succ c => exact h1
theorem beginF_keys {L : Log} {K : Bs → Prop} (h : KeysIn L K) (i : Nat) : KeysIn (beginF L i) K := KeysIn.setLB (L := L) h i _ (fun b hb x hx => h b hb x hx)
theorem lives_keys {L : Log} {K : Bs → Prop} (h : KeysIn L K) (i : Nat) (key : Bs) : ∀ e ∈ livesF L i key, K e.key := by
  intro e he
  unfold livesF at he
  split at he
  · cases he
  · rename_i b hb
    obtain ⟨p, hp, rfl⟩ := List.mem_map.1 he
    exact h b (List.mem_of_getElem? hb) _ (List.fst_mem_of_mem_zipIdx (List.mem_filter.1 hp).1)
theorem cleanF_keys {L : Log} {K : Bs → Prop} (h : KeysIn L K) (i tb : Nat) {e : Ent} (he : K e.key) : KeysIn (cleanF L i tb e).2 K := by
  have h1 : KeysIn { beginF L tb with number := L.number + 1 } K := beginF_keys h tb
  have h2 := progAll_keys (livesF L i e.key ++ [e]) h1 (fun x hx => by
    rcases List.mem_append.1 hx with h3 | h3
    · exact lives_keys h i e.key x h3
    · rw [List.mem_singleton] at h3; rw [h3]; exact he)
  unfold cleanF
  simp only
  rcases hp : progAll (livesF L i e.key ++ [e]) { beginF L tb with number := L.number + 1 } with ⟨c, l2⟩
  rw [hp] at h2
  cases c with
  | succ c => exact h2
  | zero =>
    simp only
    rcases hs : syncD l2.d with ⟨c3, d3⟩
    cases c3 with
    | succ c => exact h2
    | zero =>
      simp only
      rcases her : eraseD d3 i with ⟨c4, d4⟩
      cases c4 with
      | succ c => exact h2
      | zero => exact KeysIn.setLB (L := l2) h2 i _ (fun b hb x hx => (by cases hx))
theorem writeF_keys {L : Log} {K : Bs → Prop} (h : KeysIn L K) (kind : Nat) {key : Bs} (value : Bs) (hk : K key) : KeysIn (writeF L kind key value).2 K := by
  unfold writeF
  simp only
  split
  · exact h
  · split
    · exact programF_keys (L := { L with number := L.number + 1 }) h hk
    · split
      · exact h
      · split
        · exact programF_keys (L := { beginF L (youngestF L (freeF L)) with number := L.number + 1 }) (beginF_keys h _) hk
        · split
          · exact h
          · split
            · exact h
            · exact cleanF_keys h _ _ hk
theorem putF_keys {L : Log} {K : Bs → Prop} (h : KeysIn L K) {key : Bs} (value : Bs) (hk : K key) : KeysIn (putF L key value).2 K := by
  unfold putF
  split
  · exact h
  · split
    · exact h
    · split
      · exact h
      · exact writeF_keys h 1 value hk
theorem deleteF_keys {L : Log} {K : Bs → Prop} (h : KeysIn L K) {key : Bs} (hk : K key) : KeysIn (deleteF L key).2 K := by
  unfold deleteF
  split
  · exact h
  · exact writeF_keys h 2 [] hk
theorem MInv.npages {L : Log} {n np : Nat} (h : MInv L n np) : 1 ≤ np ∧ np ≤ 32 := by rw [← h.np]; exact h.inv.wf.np
/-- a Put of a new key -/
theorem MInv.fresh {L : Log} {n np : Nat} (h : MInv L n np) (hn : n ≤ 1000000) {key : Bs} (hky : key.length = 3) (hkey : KeysIn L (fun k => k ≠ key)) {v : Bs} (hv : v.length ≤ 16384) :
    freeBytes L % 480 = 0 ∧ freeBytes L ≤ 480 * np ∧ ((putF L key v).1 = 0 ↔ 4 + v.length ≤ freeBytes L) ∧ ((putF L key v).1 = 0 ∨ (putF L key v).1 = 10 ∨ ((putF L key v).1 = 5 ∧ 480 * np < 4 + v.length)) := by
  obtain ⟨TD, P, er, hs⟩ := h.sess
  have hnf : L.number ≤ far := by have := h.num; unfold far; omega
  have hk2 : ∀ e ∈ nowT TD er ++ P, e.key ≠ key := fun e he => by
    obtain ⟨i, j, b, hb, hbe⟩ := mem_eat hs.core.rep he
    exact hkey b (List.mem_of_getElem? hb) e (List.mem_of_getElem? hbe)
  have hnp := h.npages
  have hr0 := room0_bd hs.core.inv.wf
  have hr0p : room0 L ≤ L.d.npages := by
    unfold room0
    split
    · unfold openRoom
      split
      · omega
      · omega
    · omega
  have hr1 : 0 ≤ room1 L ∧ room1 L ≤ L.d.npages := by
    unfold room1
    split
    · omega
    · split
      · split
        · omega
        · omega
      · omega
  have hfb : freeBytes L = (480 * room1 L).toNat := freeBytes_eq (by rw [hs.unb]; unfold far at hnf; simp; omega)
  have hnpe := h.np
  have hpl : (partsF key v).length = (4 + v.length + 479) / 480 := by
    rw [partsF_len, hky]
    have : (numF 3).length = 1 := by rw [numF_small (by omega)]; rfl
    rw [this]
  refine ⟨by rw [hfb]; omega, by rw [hfb]; omega, ?_⟩
  by_cases hbig : L.d.npages < (partsF key v).length
  · have e1 : putF L key v = (5, L) := by
      unfold putF
      rw [hs.unb, if_neg (by simp), if_neg (by omega), if_pos (.inr hbig)]
    rw [e1]
    refine ⟨⟨fun h9 => (by cases h9), fun h9 => ?_⟩, .inr (.inr ⟨rfl, by omega⟩)⟩
    rw [hfb] at h9
    omega
  · have e1 : putF L key v = writeF L 1 key v := by
      unfold putF
      rw [hs.unb, if_neg (by simp), if_neg (by omega), if_neg (fun h9 => h9.elim (fun h8 => by omega) hbig)]
    have hfit := hs.fit_free hnf hk2 (k := (partsF key v).length) (by omega) (by omega)
    rw [e1]
    rcases hw : writeF L 1 key v with ⟨c, L'⟩
    rcases hs.write_on h.on (.inl rfl) (by omega) hv (fun h9 => by cases h9) (by omega) hnf hw with ⟨h1, h2, -⟩ | ⟨h1, h2, -⟩
    · rw [hfit] at h1
      simp only
      refine ⟨⟨fun _ => by omega, fun _ => h2⟩, .inl h2⟩
    · rw [hfit] at h1
      simp only
      refine ⟨⟨fun h9 => by omega, fun h9 => ?_⟩, .inr (.inl h2)⟩
      rw [hfb] at h1 h9
      omega
theorem MInv.free_none {L : Log} {n np : Nat} (h : MInv L n np) (hn : n ≤ 1000000) (hall : ∀ k, valL L k = none) : freeBytes L = 480 * np ∧ keysF L = [] := by
  obtain ⟨TD, P, er, hs⟩ := h.sess
  refine ⟨by rw [← h.np]; exact hs.free_all (by have := h.num; unfold far; omega) (by have := h.seg; unfold far; omega) hall, ?_⟩
  cases hk : keysF L with
  | nil => rfl
  | cons k r =>
    obtain ⟨v, hv⟩ := (hs.keys k).1 (by rw [hk]; simp)
    rw [hall k] at hv
    cases hv
/-- a log on a device, above a world -/
structure LU (W wr : World) (d l np n : Nat) (L : Log) : Prop where
  ext : Ext W wr
  log : ∃ S, LogOn wr S l d L ∧ (∀ x, S x → W.heap.size ≤ x)
  inv : MInv L n np
theorem LU.step {W wr w' : World} {d l np n m : Nat} {L L' : Log} {S : Nat → Prop} (h : LU W wr d l np n L) (hS : ∀ x, S x → W.heap.size ≤ x) (hs : LogStep wr w' S l d L') (hi : MInv L' m np) : LU W w' d l np m L' := by
  obtain ⟨S', h1, h2, h3⟩ := hs
  exact ⟨ext_step h.ext hS h2, ⟨S', h1, from_step h.ext hS h3⟩, hi⟩
theorem LU.grow {W wr w' : World} {d l np n : Nat} {L : Log} (h : LU W wr d l np n L) (hx : Ext wr w') : LU W w' d l np n L := by
  obtain ⟨S, h1, h2⟩ := h.log
  exact ⟨h.ext.trans hx, ⟨S, h1.ext hx, h2⟩, h.inv⟩
theorem LU.mono {W wr : World} {d l np n m : Nat} {L : Log} (h : LU W wr d l np n L) (hnm : n ≤ m) : LU W wr d l np m L := ⟨h.ext, h.log, h.inv.mono hnm⟩
section
variable {W wr : World} {d l np n : Nat} {L : Log} (h : LU W wr d l np n L) (hn : n ≤ 500)
include h
include hn in
theorem LU.put {key value : Bs} (hkl : key.length ≤ 100000) (hvl : value.length ≤ 100000) {v : Value} (hv : BS wr v value) : Calls Try.prog 16 #[.pointer (some ⟨l, 0, none⟩), .string (st key), v] wr fun e w' => e = .returned (codeV (putF L key value).1) ∧ LU W w' d l np (n + 1) (putF L key value).2 := by
  obtain ⟨S, ⟨F, SD, G, hdv, hl⟩, hS⟩ := h.log
  have h0 := put_any hl h.inv.inv hkl hvl hv (by have := h.inv.pend; omega)
  rw [hdv] at h0
  refine h0.mono ?_
  rintro e w' ⟨rfl, hs⟩
  exact ⟨rfl, h.step hS hs (minv_put h.inv key value)⟩
include hn in
theorem LU.delete {key : Bs} : Calls Try.prog 12 #[.pointer (some ⟨l, 0, none⟩), .string (st key)] wr fun e w' => e = .returned (codeV (deleteF L key).1) ∧ LU W w' d l np (n + 1) (deleteF L key).2 := by
  obtain ⟨S, ⟨F, SD, G, hdv, hl⟩, hS⟩ := h.log
  have h0 := delete_any hl h.inv.inv (key := key) (by have := h.inv.pend; omega)
  rw [hdv] at h0
  refine h0.mono ?_
  rintro e w' ⟨rfl, hs⟩
  exact ⟨rfl, h.step hS hs (minv_delete hn h.inv key)⟩
theorem LU.keys : Calls Try.prog 17 #[.pointer (some ⟨l, 0, none⟩)] wr fun e w' => ∃ v, e = .returned v ∧ Ext wr w' ∧ KsAt w' wr.heap.size v (keysF L) := by
  obtain ⟨S, ⟨F, SD, G, hdv, hl⟩, hS⟩ := h.log
  exact keys_any hl h.inv.inv
theorem LU.freeb : Calls Try.prog 15 #[.pointer (some ⟨l, 0, none⟩)] wr fun e w' => e = .returned (.int .i64 (freeBytes L)) ∧ Ext wr w' := by
  obtain ⟨S, ⟨F, SD, G, hdv, hl⟩, hS⟩ := h.log
  exact freeb_any hl h.inv.inv.wf
theorem LU.pages : Calls Try.prog 19 #[.pointer (some ⟨d, 0, none⟩)] wr fun e w' => e = .returned (.int .i64 np) ∧ wr = w' := by
  obtain ⟨S, ⟨F, SD, G, hdv, hl⟩, hS⟩ := h.log
  have h0 := pages_any hl.dev
  rw [hdv, h.inv.np] at h0
  exact h0
end
end Go.Proofs.Ytepigkjgjlibcaa
