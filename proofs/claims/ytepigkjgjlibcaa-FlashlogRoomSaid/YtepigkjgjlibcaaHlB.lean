/- Chapter 23, plain: a log while the power is on; a map beside it. -/
import Derived.Test.YtepigkjgjlibcaaHlA
namespace Go.Proofs.Ytepigkjgjlibcaa
open Go.RowKit Go.Deep Go.Proofs.Ytepigkjgjlibcaa.FL
structure MInv (L : Log) (n np : Nat) : Prop where
  sess : ∃ TD P er, Sess L TD P er
  on : On L.d
  cap : Cap L
  num : L.number ≤ n
  seg : L.segment ≤ n
  pend : L.d.pending.length ≤ 1288 * n
  np : L.d.npages = np
theorem MInv.inv {L : Log} {n np : Nat} (h : MInv L n np) : LogInv L := by obtain ⟨TD, P, er, hs⟩ := h.sess; exact hs.core.inv
theorem MInv.mono {L : Log} {n m np : Nat} (h : MInv L n np) (hnm : n ≤ m) : MInv L m np := ⟨h.sess, h.on, h.cap, Nat.le_trans h.num hnm, Nat.le_trans h.seg hnm, Nat.le_trans h.pend (Nat.mul_le_mul_left _ hnm), h.np⟩
theorem MInv.put {L : Log} {n np : Nat} (h : MInv L n np) {k v : Bs} {c : Nat} {L' : Log} (hr : putF L k v = (c, L')) :
    (c = 0 ∧ MInv L' (n + 1) np ∧ ∀ k', valL L' k' = if k' = k then some v else valL L k') ∨ ((c = 5 ∨ c = 8 ∨ c = 10) ∧ L' = L) := by
  obtain ⟨TD, P, er, hs⟩ := h.sess
  have hto := putF_to hs.core.inv k v
  rw [hr] at hto
  rcases hs.put hr with ⟨h1, TD', P', er', h2⟩ | h1 | ⟨-, h1⟩
  · refine .inl ⟨h1, ⟨⟨TD', P', er', h2.sess⟩, h2.on h.on, h2.cap.cap h.cap, by have := h2.cap.num; have := h.num; omega, by have := h2.cap.seg; have := h.seg; omega, by have := hto.pend; have := h.pend; simp only at *; omega, by rw [← h.np]; exact hto.np⟩, fun k' => ?_⟩
    rw [h2.val k']
    rfl
  · exact .inr h1
  · exact absurd h.on h1.off
theorem MInv.delete {L : Log} {n np : Nat} (h : MInv L n np) (hn : n ≤ 1000000) {k : Bs} {c : Nat} {L' : Log} (hr : deleteF L k = (c, L')) :
    (valL L k = none ∧ c = 3 ∧ L' = L) ∨ (∃ v, valL L k = some v ∧ c = 0 ∧ MInv L' (n + 1) np ∧ ∀ k', valL L' k' = if k' = k then none else valL L k') := by
  obtain ⟨TD, P, er, hs⟩ := h.sess
  have hto := deleteF_to hs.core.inv k
  rw [hr] at hto
  rcases hs.delete hr with h1 | ⟨v, hv, h1⟩
  · exact .inl h1
  · right
    refine ⟨v, hv, ?_⟩
    have hnf : L.number ≤ far := by have := h.num; unfold far; omega
    have hsf : L.segment ≤ far := by have := h.seg; unfold far; omega
    rcases h1 with ⟨h1, TD', P', er', h2⟩ | ⟨-, -, hw⟩ | ⟨-, h1⟩
    · refine ⟨h1, ⟨⟨TD', P', er', h2.sess⟩, h2.on h.on, h2.cap.cap h.cap, by have := h2.cap.num; have := h.num; omega, by have := h2.cap.seg; have := h.seg; omega, by have := hto.pend; have := h.pend; simp only at *; omega, by rw [← h.np]; exact hto.np⟩, fun k' => ?_⟩
      rw [h2.val k']
      rfl
    · exfalso
      obtain ⟨hf, hpg⟩ := hs.fit_delete hsf hv
      obtain ⟨e, he, -, hek, -, -⟩ := hs.entry hv
      have hky := (hs.core.ents he).1.arg.key
      rw [hek] at hky
      rcases hs.write_on h.on (.inr rfl) hky (Nat.zero_le _) (fun _ => rfl) hpg hnf hw with ⟨-, h9, -⟩ | ⟨h9, -⟩
      · cases h9
      · exact h9 hf
    · exact absurd h.on h1.off
theorem MInv.reopen {L : Log} {n np : Nat} (h : MInv L n np) : ∃ L', openF L.d = (0, some L', L.d) ∧ L'.d = L.d ∧ MInv L' n np ∧ ∀ k, valL L' k = valL L k := by
  obtain ⟨TD, P, er, hs⟩ := h.sess
  obtain ⟨h1, h2, h3⟩ := hs.reopen
  obtain ⟨g1, g2, g3⟩ := h.cap.reload hs.core.inv
  exact ⟨_, h1, rfl, ⟨⟨TD, P, er, h2⟩, h.on, g1, Nat.le_trans g2 h.num, Nat.le_trans g3 h.seg, h.pend, h.np⟩, h3⟩
theorem MInv.keys {L : Log} {n np : Nat} (h : MInv L n np) (k : Bs) : k ∈ keysF L ↔ ∃ v, valL L k = some v := by obtain ⟨TD, P, er, hs⟩ := h.sess; exact hs.keys k
theorem MInv.get {L : Log} {n np : Nat} (h : MInv L n np) (k : Bs) : getF L k = (match valL L k with | some v => .inl v | none => .inr 3) := by obtain ⟨TD, P, er, hs⟩ := h.sess; exact hs.getv k
theorem MInv.new {n m : Nat} (hn : 3 ≤ n ∧ n ≤ 64) (hm : 1 ≤ m ∧ m ≤ 32) : ∃ L, openF (newDev n m) = (0, some L, newDev n m) ∧ MInv L 1 m ∧ (∀ k, valL L k = none) := by
  obtain ⟨L, h1, -, h3, h4, h5, h6, h7, h8, h9, h10⟩ := newDev_open hn hm
  exact ⟨L, h1, ⟨⟨_, _, _, h3⟩, h5, h7, by omega, by omega, by rw [h4]; exact Nat.zero_le _, h10⟩, h6⟩
/-! a map beside the log -/
theorem st_inj {a b : Bs} : st a = st b ↔ a = b := by
  constructor
  · intro h
    have := congrArg (fun x : ByteArray => x.data.toList) h
    simpa [st] using this
  · rintro rfl; rfl
theorem st_of (x : ByteArray) : ∃ a : Bs, x = st a := ⟨x.data.toList, by unfold st; cases x; simp⟩
theorem mget_mput (l : List (ByteArray × Value)) (k k' : ByteArray) (v : Value) : mget (mput l k v) k' = if k' = k then some v else mget l k' := by
  unfold mput
  by_cases hany : l.any (fun p => decide (p.1 = k)) = true
  · rw [if_pos hany]
    induction l with
    | nil => simp at hany
    | cons x r ih =>
      unfold mget at ih ⊢
      rw [List.map_cons]
      by_cases hx : x.1 = k
      · rw [if_pos hx]
        by_cases hk : k' = k
        · rw [if_pos hk, List.find?_cons_of_pos (by simp [hk])]; rfl
        · rw [if_neg hk, List.find?_cons_of_neg (by simpa using Ne.symm hk), List.find?_cons_of_neg (by rw [hx]; simpa using Ne.symm hk)]
          by_cases hany2 : r.any (fun p => decide (p.1 = k)) = true
          · have := ih hany2
            rw [if_neg hk] at this
            exact this
          · have e : r.map (fun p => if p.1 = k then (k, v) else p) = r := by
              have : ∀ p ∈ r, p.1 ≠ k := fun p hp h9 => hany2 (List.any_eq_true.2 ⟨p, hp, decide_eq_true h9⟩)
              conv => rhs; rw [← List.map_id r]
              refine List.map_congr_left (fun p hp => ?_)
              rw [if_neg (this p hp)]
              rfl
            rw [e]
      · rw [if_neg hx]
        have hany2 : r.any (fun p => decide (p.1 = k)) = true := by
          rw [List.any_cons, decide_eq_false hx, Bool.false_or] at hany
          exact hany
        have := ih hany2
        by_cases hxk : x.1 = k'
        · rw [List.find?_cons_of_pos (by simpa using hxk), List.find?_cons_of_pos (by simpa using hxk), if_neg (by rw [← hxk]; exact hx)]
        · rw [List.find?_cons_of_neg (by simpa using hxk), List.find?_cons_of_neg (by simpa using hxk)]
          exact this
  · rw [if_neg hany]
    have hno : ∀ p ∈ l, p.1 ≠ k := fun p hp h9 => hany (List.any_eq_true.2 ⟨p, hp, decide_eq_true h9⟩)
    unfold mget
    rw [List.find?_append]
    by_cases hk : k' = k
    · rw [if_pos hk, List.find?_eq_none.2 (fun p hp => by rw [hk]; simpa using hno p hp)]
      simp [hk]
    · rw [if_neg hk, List.find?_cons_of_neg (by simpa using Ne.symm hk)]
      simp
theorem mget_mdel (l : List (ByteArray × Value)) (k k' : ByteArray) : mget (mdel l k) k' = if k' = k then none else mget l k' := by
  unfold mdel mget
  induction l with
  | nil => simp
  | cons x r ih =>
    rw [List.filter_cons]
    by_cases hx : x.1 = k
    · rw [if_neg (by simp [hx]), ih]
      by_cases hk : k' = k
      · rw [if_pos hk, if_pos hk]
      · rw [if_neg hk, if_neg hk, List.find?_cons_of_neg (by rw [hx]; simpa using Ne.symm hk)]
    · rw [if_pos (by simpa using hx)]
      by_cases hxk : x.1 = k'
      · rw [List.find?_cons_of_pos (by simpa using hxk), List.find?_cons_of_pos (by simpa using hxk), if_neg (by rw [← hxk]; exact hx)]
      · rw [List.find?_cons_of_neg (by simpa using hxk), List.find?_cons_of_neg (by simpa using hxk)]
        exact ih
/-- the map holds the values of the log -/
def Same (lst : List (ByteArray × Value)) (L : Log) : Prop := ∀ k : Bs, mget lst (st k) = (valL L k).map fun v => .string (st v)
theorem Same.empty {L : Log} (h : ∀ k, valL L k = none) : Same [] L := fun k => by rw [h k]; rfl
theorem Same.put {lst : List (ByteArray × Value)} {L L' : Log} (h : Same lst L) {k v : Bs} (hv : ∀ k', valL L' k' = if k' = k then some v else valL L k') : Same (mput lst (st k) (.string (st v))) L' := fun k' => by
  rw [mget_mput, hv k']
  by_cases hk : k' = k
  · rw [if_pos (st_inj.2 hk), if_pos hk]; rfl
  · rw [if_neg (fun h9 => hk (st_inj.1 h9)), if_neg hk]; exact h k'
theorem Same.del {lst : List (ByteArray × Value)} {L L' : Log} (h : Same lst L) {k : Bs} (hv : ∀ k', valL L' k' = if k' = k then none else valL L k') : Same (mdel lst (st k)) L' := fun k' => by
  rw [mget_mdel, hv k']
  by_cases hk : k' = k
  · rw [if_pos (st_inj.2 hk), if_pos hk]; rfl
  · rw [if_neg (fun h9 => hk (st_inj.1 h9)), if_neg hk]; exact h k'
theorem Same.of {lst : List (ByteArray × Value)} {L L' : Log} (h : Same lst L) (hv : ∀ k', valL L' k' = valL L k') : Same lst L' := fun k' => by rw [hv k']; exact h k'
theorem mget_mem {l : List (ByteArray × Value)} {k : ByteArray} : (∃ v, mget l k = some v) ↔ k ∈ l.map (·.1) := by
  unfold mget
  constructor
  · rintro ⟨v, hv⟩
    rw [Option.map_eq_some_iff] at hv
    obtain ⟨p, hp, -⟩ := hv
    have h1 := List.mem_of_find?_eq_some hp
    have h2 := List.find?_some hp
    simp at h2
    exact List.mem_map.2 ⟨p, h1, h2⟩
  · intro h
    obtain ⟨p, hp, hk⟩ := List.mem_map.1 h
    cases hf : l.find? (fun p => decide (p.1 = k)) with
    | none => rw [List.find?_eq_none] at hf; exact absurd hk (by simpa using hf p hp)
    | some q => exact ⟨q.2, rfl⟩
/-- as many keys as there are in the map -/
theorem Same.len {lst : List (ByteArray × Value)} {L : Log} (h : Same lst L) (hd : lst.Pairwise (fun a b => a.1 ≠ b.1)) {n np : Nat} (hi : MInv L n np) : (keysF L).length = lst.length := by
  have h1 : ((keysF L).map st).Nodup := by
    have := keysF_nodup L
    rw [List.Nodup, List.pairwise_map]
    exact this.imp (fun h9 h8 => h9 (st_inj.1 h8))
  have h2 : (lst.map (·.1)).Nodup := by rw [List.Nodup, List.pairwise_map]; exact hd
  have h3 : ((keysF L).map st).Perm (lst.map (·.1)) := by
    rw [List.perm_ext_iff_of_nodup h1 h2]
    intro x
    obtain ⟨a, rfl⟩ := st_of x
    rw [← mget_mem]
    constructor
    · intro hx
      obtain ⟨b, hb, e⟩ := List.mem_map.1 hx
      rw [st_inj] at e
      subst e
      obtain ⟨v, hv⟩ := (hi.keys b).1 hb
      exact ⟨_, by rw [h b, hv]; rfl⟩
    · rintro ⟨v, hv⟩
      rw [h a] at hv
      refine List.mem_map.2 ⟨a, (hi.keys a).2 ?_, rfl⟩
      cases hva : valL L a with
      | none => rw [hva] at hv; cases hv
      | some y => exact ⟨y, rfl⟩
  have := h3.length_eq
  rwa [List.length_map, List.length_map] at this
end Go.Proofs.Ytepigkjgjlibcaa
