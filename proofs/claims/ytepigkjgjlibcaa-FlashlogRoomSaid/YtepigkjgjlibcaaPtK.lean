/- Chapter 23, plain: room: when a write fits, what Free tells, keys. -/
import Derived.Test.YtepigkjgjlibcaaPtJ
namespace Go.Proofs.Ytepigkjgjlibcaa
open Go.RowKit Go.Deep Go.Proofs.Ytepigkjgjlibcaa.FL
/-- an entry of k pages fits -/
def Fit (L : Log) (key : Bs) (k : Nat) : Prop := (0 ≤ L.open_ ∧ (k : Int) ≤ openRoom L) ∨ (L.segment ≤ far ∧ (2 ≤ (freeF L).length ∨ ∃ i n, victimF L key = some (i, n) ∧ n + k ≤ L.d.npages))
theorem Sess.write_on {L : Log} {TD P : List Ent} {er : Option (Nat × Nat)} (h : Sess L TD P er) (hon : On L.d) {kind : Nat} {key value : Bs} (hk : kind = 1 ∨ kind = 2) (hky : 1 ≤ key.length ∧ key.length ≤ 2048) (hvl : value.length ≤ 16384) (hdel : kind = 2 → value = []) (hpg : (partsF key value).length ≤ L.d.npages) (hn : L.number ≤ far) {c : Nat} {L' : Log} (hr : writeF L kind key value = (c, L')) :
    (Fit L key (partsF key value).length ∧ c = 0 ∧ ∃ TD' P' er', Grown L L' TD P er TD' P' er' ⟨kind, L.number, 0, 0, key, value⟩) ∨ (¬ Fit L key (partsF key value).length ∧ c = 10 ∧ L' = L) := by
  have hw := h.write hk hky hvl hdel hpg hr
  have hn' : ¬ 1099511627776 < L.number := by unfold far at hn; omega
  by_cases hf : Fit L key (partsF key value).length
  · left
    rcases hw with ⟨h1, h2⟩ | ⟨h1, h2⟩ | ⟨h1, h2⟩
    · exact ⟨hf, h1, h2⟩
    · exfalso
      -- a write that fits does not answer 10
      have key10 : ∀ (L1 : Log) (e : Ent) (o : Nat) (b : LB), LogInv L1 → L1.open_ = (o : Int) → L1.blocks[o]? = some b → EArg e → b.next + (partsF e.key e.value).length ≤ L1.d.npages → (programF L1 e).1 ≠ 10 := fun L1 e o b a1 a2 a3 a4 a5 h9 => by
        have := (programF_code a1 a2 a3 a4 a5).1
        omega
      have he : EW ⟨kind, L.number, 0, 0, key, value⟩ := ⟨⟨hk, hn, hky, hvl⟩, hdel⟩
      by_cases hroom : 0 ≤ L.open_ ∧ ((partsF key value).length : Int) ≤ openRoom L
      · rw [writeF_room kind key value hn' hroom] at hr
        have hop := h.core.inv.wf.op
        obtain ⟨o, ho⟩ : ∃ o : Nat, L.open_ = (o : Int) := ⟨L.open_.toNat, by omega⟩
        have hol : o < L.blocks.length := by omega
        have hb := List.getElem?_eq_getElem hol
        generalize L.blocks[o]'hol = b at hb
        have hor : openRoom L = (L.d.npages : Int) - b.next := by unfold openRoom; rw [show L.open_.toNat = o by rw [ho]; rfl, hb]
        refine key10 { L with number := L.number + 1 } _ o b (h.core.inv.number ⟨by omega, by omega⟩) ho hb he.arg (by have := hroom.2; rw [hor] at this; simp only; omega) (by rw [hr]; exact h1)
      · rw [writeF_rest kind key value hn' hroom] at hr
        have hfit : L.segment ≤ far ∧ (2 ≤ (freeF L).length ∨ ∃ i n, victimF L key = some (i, n) ∧ n + (partsF key value).length ≤ L.d.npages) := hf.resolve_left hroom
        have hfn := h.hasFree
        have hseg := hfit.1
        unfold writeG at hr
        rw [if_neg (by intro h9; rcases h9 with h9 | h9; unfold far at hseg; omega; exact hfn h9)] at hr
        by_cases h2 : 2 ≤ (freeF L).length
        · rw [if_pos h2] at hr
          have hym := young_mem (L := L) hfn
          obtain ⟨hyl, by_, hyb, hy0⟩ := free_lt hym
          obtain ⟨i1, e1⟩ := beginF_inv h.core.inv hyb hseg
          refine key10 { beginF L (youngestF L (freeF L)) with number := L.number + 1 } _ (youngestF L (freeF L)) { by_ with segment := L.segment } (i1.number ⟨by omega, by omega⟩) (by rw [e1]) (by rw [e1]; exact List.getElem?_set_self hyl) he.arg ?_ (by rw [hr]; exact h1)
          rw [e1]
          show by_.next + _ ≤ L.d.npages
          rw [hy0]
          simp only
          omega
        · rw [if_neg h2] at hr
          obtain ⟨i, n, hv, hfi⟩ := hfit.2.resolve_left h2
          rw [hv] at hr
          simp only at hr
          rw [if_neg (by omega)] at hr
          obtain ⟨⟨bi, hbi, hbi0⟩, hvn, -⟩ := victim_spec hv
          have htm : (freeF L).headD 0 ∈ freeF L := by
            rcases hfl : freeF L with _ | ⟨a, r⟩
            · exact absurd hfl hfn
            · simp
          obtain ⟨htl, bt, htb, ht0⟩ := free_lt htm
          rcases h.core.clean hbi htb hbi0 ht0 hseg he rfl (by rw [← hvn]; simp only; omega) hr with ⟨h3, -⟩ | ⟨h3, -⟩ <;> omega
    · exact absurd hon h2.off
  · right
    refine ⟨hf, ?_⟩
    have hroom : ¬ (0 ≤ L.open_ ∧ ((partsF key value).length : Int) ≤ openRoom L) := fun h9 => hf (.inl h9)
    have h0 := hr
    rw [writeF_rest kind key value hn' hroom] at hr
    unfold writeG at hr
    split at hr
    · cases hr; exact ⟨rfl, rfl⟩
    · rename_i hc
      have hseg : L.segment ≤ far := by unfold far; omega
      split at hr
      · rename_i h2; exact absurd (.inr ⟨hseg, .inl h2⟩) hf
      · split at hr
        · cases hr; exact ⟨rfl, rfl⟩
        · rename_i i n hv
          split at hr
          · cases hr; exact ⟨rfl, rfl⟩
          · exact absurd (.inr ⟨hseg, .inr ⟨i, n, hv, by omega⟩⟩) hf
theorem pagesOf_part (l : List Ent) (p : Ent → Bool) (e : Ent) (he : e ∈ l) (hp : p e = false) : pagesOf (l.filter p) + e.pages ≤ pagesOf l := by
  induction l with
  | nil => cases he
  | cons x r ih =>
    rw [List.filter_cons]
    have h0 := pagesOf_filter r p
    unfold pagesOf at ih h0 ⊢
    rcases List.mem_cons.1 he with h | h
    · subst h
      rw [if_neg (by rw [hp]; simp)]
      simp only [List.map_cons, List.sum_cons]
      omega
    · have := ih h
      split <;> simp only [List.map_cons, List.sum_cons] <;> omega
theorem three_free {L : Log} {TD P : List Ent} {er : Option (Nat × Nat)} (h : Sess L TD P er) (hall : ∀ (j : Nat) (b : LB), L.blocks[j]? = some b → b.next = 0) : 2 ≤ (freeF L).length := by
  have : freeF L = List.range L.blocks.length := by
    rw [freeF_eq, List.filter_eq_self]
    intro i hi
    rw [List.mem_range] at hi
    unfold freeP
    rw [List.getElem?_eq_getElem hi]
    exact decide_eq_true (hall i _ (List.getElem?_eq_getElem hi))
  rw [this, List.length_range]
  have := h.core.inv.wf.nb.1
  omega
/-- the delete of a key that is there fits -/
theorem Sess.fit_delete {L : Log} {TD P : List Ent} {er : Option (Nat × Nat)} (h : Sess L TD P er) (hs : L.segment ≤ far) {k v : Bs} (hv : valL L k = some v) : Fit L k (partsF k []).length ∧ (partsF k []).length ≤ L.d.npages := by
  obtain ⟨e, he, hl, hek, -, -⟩ := h.entry hv
  obtain ⟨ew, es⟩ := h.core.ents he
  have h1 : e.pages = (partsF e.key e.value).length := (congrArg Ent.pages es).symm
  have hle : (partsF k []).length ≤ e.pages := by
    rw [h1, partsF_len, partsF_len, ← hek]
    simp only [List.length_nil]
    omega
  obtain ⟨i, j, b, hb, hbe⟩ := mem_eat h.core.rep he
  have hbm := List.mem_of_getElem? hb
  have hee := List.mem_of_getElem? hbe
  have h2 := h.core.inv.wf.el b hbm
  have h3 := h.core.inv.wf.nl b hbm
  have h4 := pagesOf_part b.entries (fun _ => false) e hee rfl
  have hep := (h.core.inv.wf.ok b hbm).2.2 e hee
  refine ⟨?_, by omega⟩
  right
  refine ⟨hs, ?_⟩
  by_cases h5 : 2 ≤ (freeF L).length
  · exact .inl h5
  · right
    cases hvi : victimF L k with
    | none => exact absurd (three_free h (victim_none hvi)) h5
    | some y =>
      obtain ⟨i2, n⟩ := y
      refine ⟨i2, n, rfl, ?_⟩
      have hpos := hep.pg.1
      have h6 := (victim_spec hvi).2.2 i b hb (by omega)
      rw [lives_eq h.core.rep h.pw hb, ← h.core.rep.ents i b hb] at h6
      have h7 := pagesOf_part b.entries (fun e => decide (e.key ≠ k) && liveT (nowT TD er ++ P) e) e hee (by simp [hek])
      omega
/-- what Free tells: an entry of k pages of a new key fits -/
theorem Sess.fit_free {L : Log} {TD P : List Ent} {er : Option (Nat × Nat)} (h : Sess L TD P er) (hn : L.number ≤ far) {key : Bs} (hkey : ∀ e ∈ nowT TD er ++ P, e.key ≠ key) {k : Nat} (hk : 1 ≤ k) (hkp : k ≤ L.d.npages) : Fit L key k ↔ k * 480 ≤ freeBytes L := by
  have hfn := h.hasFree
  have hnil : ∀ e ∈ nowT TD er ++ P, e.key ≠ [] := fun e he h9 => by have := (h.core.ents he).1.arg.key; rw [h9] at this; simp at this
  have hlv : ∀ i, livesF L i [] = livesF L i key := fun i => by
    cases hb : L.blocks[i]? with
    | none => unfold livesF; rw [hb]
    | some b =>
      rw [lives_eq h.core.rep h.pw hb, lives_eq h.core.rep h.pw hb]
      refine List.filter_congr (fun e he => ?_)
      have hm := (List.mem_filter.1 he).1
      rw [decide_eq_true (hnil e hm), decide_eq_true (hkey e hm)]
  have hvi : victimF L [] = victimF L key := by
    unfold victimF
    have : victimStep L [] = victimStep L key := by
      funext s p
      unfold victimStep
      rw [hlv]
    rw [this]
  have hr0 := room0_bd h.core.inv.wf
  have hr0p : room0 L ≤ L.d.npages := by
    unfold room0
    split
    · rename_i ho
      unfold openRoom
      split
      · omega
      · omega
    · omega
  rw [freeBytes_eq (by rw [h.unb]; unfold far at hn; simp; omega)]
  have hopen : (0 ≤ L.open_ ∧ (k : Int) ≤ openRoom L) ↔ (k : Int) ≤ room0 L := by
    unfold room0
    by_cases ho : 0 ≤ L.open_
    · rw [if_pos ho]; exact ⟨fun h => h.2, fun h => ⟨ho, h⟩⟩
    · rw [if_neg ho]; exact ⟨fun h => absurd h.1 ho, fun h => by omega⟩
  have hfl : (freeF L).length ≠ 0 := fun h9 => hfn (List.eq_nil_of_length_eq_zero h9)
  unfold Fit room1
  rw [hopen]
  by_cases hs : L.segment ≤ 1099511627776
  · have hsf : L.segment ≤ far := hs
    by_cases h2 : 2 ≤ (freeF L).length
    · rw [if_pos ⟨hs, h2⟩]
      exact ⟨fun _ => by omega, fun _ => .inr ⟨hsf, .inl h2⟩⟩
    · rw [if_neg (fun h9 => h2 h9.2), if_pos ⟨hs, by omega⟩, hvi]
      cases hv : victimF L key with
      | none => exact absurd (three_free h (victim_none hv)) h2
      | some y =>
        obtain ⟨i, n⟩ := y
        simp only
        constructor
        · rintro (h3 | ⟨-, h3 | ⟨i', n', h4, h5⟩⟩)
          · omega
          · exact absurd h3 h2
          · cases h4; omega
        · intro h3
          by_cases h4 : (k : Int) ≤ room0 L
          · exact .inl h4
          · exact .inr ⟨hsf, .inr ⟨i, n, rfl, by omega⟩⟩
  · rw [if_neg (fun h9 => hs h9.1), if_neg (fun h9 => hs h9.1)]
    constructor
    · rintro (h3 | ⟨h3, -⟩)
      · omega
      · exact absurd h3 hs
    · intro h3; left; omega
/-- if no key has a value, a whole block is free -/
theorem Sess.free_all {L : Log} {TD P : List Ent} {er : Option (Nat × Nat)} (h : Sess L TD P er) (hn : L.number ≤ far) (hs : L.segment ≤ far) (hall : ∀ k, valL L k = none) : freeBytes L = 480 * L.d.npages := by
  have hfn := h.hasFree
  have hfl : (freeF L).length ≠ 0 := fun h9 => hfn (List.eq_nil_of_length_eq_zero h9)
  have hr0 := room0_bd h.core.inv.wf
  have hr0p : room0 L ≤ L.d.npages := by
    unfold room0
    split
    · unfold openRoom
      split
      · omega
      · omega
    · omega
  have hs2 : L.segment ≤ 1099511627776 := hs
  rw [freeBytes_eq (by rw [h.unb]; unfold far at hn; simp; omega)]
  unfold room1
  by_cases h2 : 2 ≤ (freeF L).length
  · rw [if_pos ⟨hs2, h2⟩]; omega
  · rw [if_neg (fun h9 => h2 h9.2), if_pos ⟨hs2, by omega⟩]
    cases hv : victimF L [] with
    | none => exact absurd (three_free h (victim_none hv)) h2
    | some y =>
      obtain ⟨i, n⟩ := y
      simp only
      obtain ⟨⟨bi, hbi, hbi0⟩, hvn, hmin⟩ := victim_spec hv
      -- the oldest block has nothing that is live
      have hold : ∀ s, ∀ (j : Nat) (b : LB), L.blocks[j]? = some b → b.next ≠ 0 → b.segment = s → ∃ (j' : Nat) (b' : LB), L.blocks[j']? = some b' ∧ b'.next ≠ 0 ∧ livesF L j' [] = [] := by
        intro s
        induction s using Nat.strongRecOn with
        | _ s ih =>
          intro j b hb hb0 hbs
          cases hlv : livesF L j [] with
          | nil => exact ⟨j, b, hb, hb0, hlv⟩
          | cons x r =>
            have hx : x ∈ livesF L j [] := by rw [hlv]; simp
            rw [lives_eq h.core.rep h.pw hb, List.mem_filter, List.mem_filter] at hx
            obtain ⟨⟨hxT, hxs⟩, hx2⟩ := hx
            simp only [Bool.and_eq_true] at hx2
            have hl := hx2.2
            unfold liveT at hl
            simp only [Bool.and_eq_true, decide_eq_true_eq, Bool.or_eq_true] at hl
            have hval := hall x.key
            rw [h.val x.key, valK_some hl.1] at hval
            have hk1 : x.kind ≠ 1 := fun h9 => by unfold valOf at hval; rw [if_pos h9] at hval; cases hval
            rcases hl.2 with h9 | h9
            · exact absurd h9 hk1
            · rw [List.any_eq_true] at h9
              obtain ⟨y, hy, h8⟩ := h9
              obtain ⟨h5, h6, h7⟩ := of_decide_eq_true h8
              have hyx : Rel y x := by
                rcases lastK_rel h.pw hl.1 y hy h6 with h9 | h9
                · subst h9; exact absurd h7 hk1
                · exact h9
              have hlt : y.segment < x.segment := by have := hyx.1; omega
              obtain ⟨j', b', hb', hbs'⟩ := h.core.rep.cover y hy
              have hb0' : b'.next ≠ 0 := fun h9 => by
                obtain ⟨bn, hbn, hnx⟩ := h.core.inv.blk hb'
                have := ((h.core.open_le hb' hbn).free (by rw [← hnx]; exact h9)).1
                have hm : y ∈ b'.entries := by rw [h.core.rep.ents j' b' hb']; exact List.mem_filter.2 ⟨hy, decide_eq_true hbs'.symm⟩
                rw [this] at hm
                cases hm
              have hxs' := of_decide_eq_true hxs
              exact ih b'.segment (by omega) j' b' hb' hb0' rfl
      obtain ⟨j', b', hb', hb0', hl'⟩ := hold _ i bi hbi hbi0 rfl
      have := hmin j' b' hb' hb0'
      rw [hl'] at this
      have hn0 : n = 0 := by unfold pagesOf at this; simp at this; exact this
      rw [hn0]
      omega
/-! keys -/
theorem compact_mem {zs : List Bs} {x : Bs} (h : x ∈ zs) : x ∈ Lib.compact zs := by
  obtain ⟨j, hj⟩ := List.getElem?_of_mem h
  have hget : ∀ j : Nat, zs.toArray[j]! = zs[j]?.getD default := fun j => by rw [List.getElem!_toArray, List.getElem!_eq_getElem?_getD]
  induction j with
  | zero =>
    unfold Lib.compact Lib.compactUpTo
    rw [List.mem_map]
    exact ⟨0, List.mem_filter.2 ⟨List.mem_range.2 (List.getElem?_eq_some_iff.1 hj).1, by simp [Lib.keeps]⟩, by rw [hget, hj]; rfl⟩
  | succ j ih =>
    by_cases he : zs[j]? = some x
    · exact ih he
    · unfold Lib.compact Lib.compactUpTo
      rw [List.mem_map]
      have hjl := (List.getElem?_eq_some_iff.1 hj).1
      refine ⟨j + 1, List.mem_filter.2 ⟨List.mem_range.2 hjl, ?_⟩, by rw [hget, hj]; rfl⟩
      refine Lib.keeps_pos ?_
      rw [hget, hget, Nat.add_sub_cancel, hj, List.getElem?_eq_getElem (show j < zs.length by omega)]
      intro h9
      simp only [Option.getD_some] at h9
      exact he (by rw [List.getElem?_eq_getElem (show j < zs.length by omega), h9])
theorem of_compact {zs : List Bs} {x : Bs} (h : x ∈ Lib.compact zs) : x ∈ zs := by
  unfold Lib.compact Lib.compactUpTo at h
  obtain ⟨i, hi, e⟩ := List.mem_map.1 h
  have hi2 := (List.mem_filter.1 hi).1
  rw [List.mem_range] at hi2
  rw [← e, List.getElem!_toArray, List.getElem!_eq_getElem?_getD, List.getElem?_eq_getElem hi2]
  exact List.getElem_mem _
theorem compact_sorted {zs : List Bs} (h : zs.Pairwise (· ≤ ·)) : (Lib.compact zs).Pairwise (· < ·) := by
  have hget : ∀ j : Nat, (hj : j < zs.length) → zs.toArray[j]! = zs[j] := fun j hj => by rw [List.getElem!_toArray, List.getElem!_eq_getElem?_getD, List.getElem?_eq_getElem hj]; rfl
  unfold Lib.compact Lib.compactUpTo
  rw [List.pairwise_map]
  have h1 : ((List.range zs.length).filter (Lib.keeps zs.toArray)).Pairwise (· < ·) := List.pairwise_lt_range.filter _
  refine h1.imp_of_mem (fun {i j} hi hj hij => ?_)
  obtain ⟨hi1, -⟩ := List.mem_filter.1 hi
  obtain ⟨hj1, hj2⟩ := List.mem_filter.1 hj
  rw [List.mem_range] at hi1 hj1
  have hkj : zs.toArray[j]! ≠ zs.toArray[j - 1]! := by
    have := of_decide_eq_true hj2
    exact this.resolve_left (by omega)
  rw [hget j hj1, hget (j - 1) (by omega)] at hkj
  rw [hget i hi1, hget j hj1]
  rw [List.pairwise_iff_getElem] at h
  have h2 : zs[i] ≤ zs[j - 1]'(by omega) := by
    by_cases h9 : i = j - 1
    · subst h9; exact List.le_refl _
    · exact h i (j - 1) hi1 (by omega) (by omega)
  have h3 := h (j - 1) j (by omega) hj1 (by omega)
  have h4 : zs[j - 1]'(by omega) < zs[j] := by
    by_cases h9 : zs[j - 1]'(by omega) < zs[j]
    · exact h9
    · exact absurd (List.le_antisymm h3 (List.not_lt.1 h9)).symm hkj
  exact List.lt_of_le_of_lt h2 h4
theorem keysF_sorted (L : Log) : (keysF L).Pairwise (· < ·) := by
  unfold keysF
  split
  · exact List.Pairwise.nil
  · refine compact_sorted ?_
    have := List.pairwise_mergeSort (le := fun x y : Bs => decide (x ≤ y)) (fun a b c h1 h2 => decide_eq_true (List.le_trans (of_decide_eq_true h1) (of_decide_eq_true h2))) (fun a b => by
      rcases List.le_total a b with h | h
      · simp [h]
      · simp [h]) (rawKeys L)
    exact this.imp (fun h => of_decide_eq_true h)
theorem keysF_nodup (L : Log) : (keysF L).Nodup := (keysF_sorted L).imp (fun {a b} h e => by subst e; exact List.lt_irrefl _ h)
theorem Sess.keys {L : Log} {TD P : List Ent} {er : Option (Nat × Nat)} (h : Sess L TD P er) (k : Bs) : k ∈ keysF L ↔ ∃ v, valL L k = some v := by
  constructor
  · intro hk
    obtain ⟨v, hv⟩ := keysF_get hk
    exact ⟨v, by unfold valL; rw [hv]⟩
  · rintro ⟨v, hv⟩
    obtain ⟨e, he, -, hek, -, -⟩ := h.entry hv
    obtain ⟨i, j, hij⟩ := mem_eat h.core.rep he
    have hm := allEnts_mem hij
    unfold keysF
    rw [h.unb, if_neg (by simp)]
    refine compact_mem ?_
    rw [List.mem_mergeSort]
    unfold rawKeys
    rw [List.mem_filterMap]
    refine ⟨_, hm, ?_⟩
    unfold keyOf
    simp only
    rw [h.getv e.key, hek, hv]
/-- the same values, the same keys -/
theorem sorted_ext : ∀ {a b : List Bs}, a.Pairwise (· < ·) → b.Pairwise (· < ·) → (∀ x, x ∈ a ↔ x ∈ b) → a = b
  | [], [], _, _, _ => rfl
  | [], y :: b, _, _, h => absurd ((h y).2 (List.mem_cons_self ..)) (by simp)
  | x :: a, [], _, _, h => absurd ((h x).1 (List.mem_cons_self ..)) (by simp)
  | x :: a, y :: b, ha, hb, h => by
    rw [List.pairwise_cons] at ha hb
    have hxy : x = y := by
      rcases List.mem_cons.1 ((h x).1 (List.mem_cons_self ..)) with h1 | h1
      · exact h1
      · rcases List.mem_cons.1 ((h y).2 (List.mem_cons_self ..)) with h2 | h2
        · exact h2.symm
        · exact absurd (List.lt_trans (ha.1 y h2) (hb.1 x h1)) (List.lt_irrefl _)
    subst hxy
    rw [sorted_ext ha.2 hb.2 (fun z => by
      constructor
      · intro hz
        rcases List.mem_cons.1 ((h z).1 (List.mem_cons_of_mem _ hz)) with h1 | h1
        · subst h1; exact absurd (ha.1 z hz) (List.lt_irrefl _)
        · exact h1
      · intro hz
        rcases List.mem_cons.1 ((h z).2 (List.mem_cons_of_mem _ hz)) with h1 | h1
        · subst h1; exact absurd (hb.1 z hz) (List.lt_irrefl _)
        · exact h1)]
theorem keys_same {L M : Log} {TD P TE Q : List Ent} {er es : Option (Nat × Nat)} (h : Sess L TD P er) (g : Sess M TE Q es) (hv : ∀ k, valL L k = valL M k) : keysF L = keysF M :=
  sorted_ext (keysF_sorted L) (keysF_sorted M) (fun k => by rw [h.keys, g.keys, hv k])
/-- a new device -/
theorem newDev_fresh {n m : Nat} (hn : 3 ≤ n ∧ n ≤ 64) (hm : 1 ≤ m ∧ m ≤ 32) : Fresh (newDev n m) [] := by
  obtain ⟨h1, h2, h3⟩ := newDev_ok (n := n) (m := m) (by omega) hm
  have hb : ∀ b ∈ (newDev n m).now, b = zeroB m := fun b hb => by unfold newDev at hb; simp only at hb; exact List.eq_of_mem_replicate hb
  have hz : BlkAt m (zeroB m) 0 [] := by
    refine BlkAt.none_ ⟨by unfold zeroB; simp, fun x hx => (by unfold zeroB at hx; simp only at hx; have := List.eq_of_mem_replicate hx; cases this), fun j _ hj => by unfold zeroB; simp only; rw [List.getElem?_replicate, if_pos hj]⟩ (fun x hx => ?_) 0
    unfold zeroB at hx
    simp only [List.map_replicate] at hx
    rw [List.eq_of_mem_replicate hx]
    exact readPage_none
  have hs : (scanF (zeroB m)).segment = 0 := by rcases hz.seg with ⟨h, -⟩ | ⟨h, -⟩ <;> exact h
  have hg : ∀ (j : Nat) (c : LB), ((newDev n m).now.map scanF)[j]? = some c → c = scanF (zeroB m) := fun j c hc => by
    rw [List.getElem?_map, Option.map_eq_some_iff] at hc
    obtain ⟨b, hbj, rfl⟩ := hc
    rw [hb b (List.mem_of_getElem? hbj)]
  refine ⟨h1, by rw [h3]; exact hn.1, rfl, rfl, ⟨fun j c hc => ?_, fun x hx => (by cases hx), fun x hx => (by cases hx), fun i j b c hi hj he hne => ?_⟩, List.Pairwise.nil, fun j b hj => ?_⟩
  · rw [hg j c hc, hz.entries]; rfl
  · rw [hg i b hi, hs] at hne; exact absurd rfl hne
  · rw [hb b (List.mem_of_getElem? hj), h2]; exact hz.scanned
theorem newDev_open {n m : Nat} (hn : 3 ≤ n ∧ n ≤ 64) (hm : 1 ≤ m ∧ m ≤ 32) : ∃ L, openF (newDev n m) = (0, some L, newDev n m) ∧ L = loadF (log0 (newDev n m)) ∧ Sess L [] [] none ∧ L.d = newDev n m ∧ On L.d ∧ (∀ k, valL L k = none) ∧ Cap L ∧ L.number = 1 ∧ L.segment = 1 ∧ L.d.npages = m := by
  have hf := newDev_fresh hn hm
  obtain ⟨h1, h2, h3⟩ := newDev_ok (n := n) (m := m) (by omega) hm
  have hb : ∀ b ∈ (newDev n m).now, b = zeroB m := fun b hb => by unfold newDev at hb; simp only at hb; exact List.eq_of_mem_replicate hb
  have hl := hf.load
  have hn0 : 0 < (newDev n m).now.length := by omega
  have hz0 : nextF (zeroB m) = 0 := next_eq (Nat.zero_le _) (fun k hk => absurd hk (by omega)) (fun hk => by unfold zeroB at hk ⊢; simp only [List.length_replicate] at hk; simp only; rw [List.getElem?_replicate, if_pos hk])
  have hcell : ∀ b ∈ (newDev n m).now, ∀ p, some p ∉ b.pages.map readPage := fun b hbm p hp => by
    rw [hb b hbm] at hp
    unfold zeroB at hp
    simp only [List.map_replicate] at hp
    have := List.eq_of_mem_replicate hp
    rw [readPage_none] at this
    cases this
  have hscan : ∀ c ∈ (newDev n m).now.map scanF, c.number = 0 ∧ c.segment = 0 := fun c hc => by
    obtain ⟨b, hbm, rfl⟩ := List.mem_map.1 hc
    rw [(scan_segP b).1, (scan_segP b).2]
    constructor <;>
    · refine Nat.le_antisymm (maxL_le (fun x hx => ?_)) (Nat.zero_le _)
      obtain ⟨y, hy, rfl⟩ := List.mem_map.1 hx
      cases y with
      | none => exact Nat.le_refl _
      | some p => exact absurd hy (hcell b hbm p)
  have hfold : ∀ (l : List LB) (f : LB → Nat), (∀ c ∈ l, f c = 0) → l.foldl (fun n b => max n (f b + 1)) 1 = 1 := by
    intro l f
    induction l with
    | nil => intro _; rfl
    | cons x r ih => intro hx; rw [List.foldl_cons, hx x (List.mem_cons_self ..)]; exact ih (fun c hc => hx c (List.mem_cons_of_mem _ hc))
  have hfree : freeF (loadF (log0 (newDev n m))) ≠ [] := (free_iff _).2 ⟨0, scanF ((newDev n m).now[0]'hn0), by
    show ((newDev n m).now.map scanF)[0]? = _
    rw [List.getElem?_map, List.getElem?_eq_getElem hn0]; rfl, by
    show nextF ((newDev n m).now[0]'hn0) = 0
    rw [hb _ (List.getElem_mem hn0)]; exact hz0⟩
  have hs : Sess (loadF (log0 (newDev n m))) [] [] none := Opened.sess ⟨hl, hfree, rfl, rfl⟩
  refine ⟨_, openF_free (by omega) hfree, rfl, hs, rfl, ⟨rfl, rfl⟩, fun k => by rw [hs.val k]; rfl, fun b hbm p hp => absurd hp (hcell b hbm p), ?_, ?_, h2⟩
  · exact hfold _ LB.number (fun c hc => (hscan c hc).1)
  · exact hfold _ LB.segment (fun c hc => (hscan c hc).2)
/-- a log that is read again knows no newer pages -/
theorem Cap.reload {L : Log} (h : Cap L) (hi : LogInv L) : Cap (loadF (log0 L.d)) ∧ (loadF (log0 L.d)).number ≤ L.number ∧ (loadF (log0 L.d)).segment ≤ L.segment := by
  have hge : ∀ b ∈ L.d.now, ∀ p, some p ∈ b.pages.map readPage → p.number ≤ (scanF b).number ∧ p.segment ≤ (scanF b).segment := fun b hb p hp => by
    rw [(scan_segP b).1, (scan_segP b).2]
    exact ⟨maxL_ge (List.mem_map.2 ⟨_, hp, rfl⟩), maxL_ge (List.mem_map.2 ⟨_, hp, rfl⟩)⟩
  have hfold : ∀ (l : List LB) (f : LB → Nat) (a n : Nat), a ≤ n → (∀ c ∈ l, f c + 1 ≤ n) → l.foldl (fun n b => max n (f b + 1)) a ≤ n := by
    intro l f
    induction l with
    | nil => intro a n ha _; exact ha
    | cons x r ih => intro a n ha hx; rw [List.foldl_cons]; exact ih _ n (by have := hx x (List.mem_cons_self ..); omega) (fun c hc => hx c (List.mem_cons_of_mem _ hc))
  refine ⟨fun b hb p hp => ?_, ?_, ?_⟩
  · have h1 := hge b hb p hp
    have hm : scanF b ∈ L.d.now.map scanF := List.mem_map_of_mem hb
    have h2 := fold_num (f := LB.number) hm
    have h3 := fold_num (f := LB.segment) hm
    show p.number < (L.d.now.map scanF).foldl (fun n b => max n (b.number + 1)) 1 ∧ p.segment < (L.d.now.map scanF).foldl (fun n b => max n (b.segment + 1)) 1
    omega
  · refine hfold _ LB.number 1 _ hi.wf.num.1 (fun c hc => ?_)
    obtain ⟨b, hb, rfl⟩ := List.mem_map.1 hc
    rw [(scan_segP b).2]
    have : maxL ((b.pages.map readPage).map numP) ≤ L.number - 1 := maxL_le (fun x hx => by
      obtain ⟨y, hy, rfl⟩ := List.mem_map.1 hx
      cases y with
      | none => exact Nat.zero_le _
      | some p => have := (h b hb p hy).1; show p.number ≤ _; omega)
    have := hi.wf.num.1
    omega
  · refine hfold _ LB.segment 1 _ hi.wf.seg.1 (fun c hc => ?_)
    obtain ⟨b, hb, rfl⟩ := List.mem_map.1 hc
    rw [(scan_segP b).1]
    have : maxL ((b.pages.map readPage).map segP) ≤ L.segment - 1 := maxL_le (fun x hx => by
      obtain ⟨y, hy, rfl⟩ := List.mem_map.1 hx
      cases y with
      | none => exact Nat.zero_le _
      | some p => have := (h b hb p hy).2; show p.segment ≤ _; omega)
    have := hi.wf.seg.1
    omega
end Go.Proofs.Ytepigkjgjlibcaa
