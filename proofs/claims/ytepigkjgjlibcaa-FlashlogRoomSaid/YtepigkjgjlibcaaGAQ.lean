/- Chapter 23, plain: clean, write, Put, Delete, Open keep the bounds of a log. Chapter 23: the example. Chapter 23: Program of data that can be read, whatever block it lies in (printed by mkT23.py). Chapter 23: law FlashlogOpens. -/
import Derived.Test.YtepigkjgjlibcaaGAP
import Derived.Lib.SlBytesConst
namespace Go.Proofs.Ytepigkjgjlibcaa
open Go.RowKit Go.Deep Go.Proofs.Ytepigkjgjlibcaa.FL
/-- a log that has come from a log by calls that left at most n operations pending -/
structure InvTo (L L' : Log) (n : Nat) : Prop where
  inv : LogInv L'
  pend : L'.d.pending.length ≤ L.d.pending.length + n
  np : L'.d.npages = L.d.npages
  len : L'.blocks.length = L.blocks.length
theorem InvTo.refl {L : Log} (h : LogInv L) (n : Nat) : InvTo L L n := ⟨h, Nat.le_add_right _ _, rfl, rfl⟩
theorem InvTo.trans {A B C : Log} {m n : Nat} (h : InvTo A B m) (k : InvTo B C n) : InvTo A C (m + n) := ⟨k.inv, by have := h.pend; have := k.pend; omega, k.np.trans h.np, k.len.trans h.len⟩
theorem InvTo.mono {A B : Log} {m n : Nat} (h : InvTo A B m) (hn : m ≤ n) : InvTo A B n := ⟨h.inv, by have := h.pend; omega, h.np, h.len⟩
theorem ProgOut.to {L L' : Log} {o c : Nat} {e : Ent} (h : ProgOut L o e c L') : InvTo L L' 39 := ⟨h.inv, h.pend, h.npages, h.len⟩
theorem programF_to {L : Log} (h : LogInv L) {o : Nat} (ho : L.open_ = (o : Int)) (hl : o < L.blocks.length) {e : Ent} (he : EArg e) : InvTo L (programF L e).2 39 ∧ (programF L e).2.open_ = L.open_ := by
  have := programF_out h ho (List.getElem?_eq_getElem hl) he
  exact ⟨this.to, this.open_⟩
theorem progAll_to {o : Nat} : ∀ (es : List Ent) {L : Log}, LogInv L → L.open_ = (o : Int) → o < L.blocks.length → (∀ e ∈ es, EArg e) → InvTo L (progAll es L).2 (39 * es.length) ∧ (progAll es L).2.open_ = L.open_
  | [], L, h, _, _, _ => ⟨InvTo.refl h _, rfl⟩
  | e :: r, L, h, ho, hl, ha => by
    have h1 := programF_to h ho hl (ha e (List.mem_cons_self ..))
    rw [progAll_cons]
    rcases hp : programF L e with ⟨c, L'⟩
    rw [hp] at h1
    cases c with
    | zero =>
      have h2 := progAll_to r h1.1.inv (by rw [h1.2]; exact ho) (by rw [h1.1.len]; exact hl) (fun x hx => ha x (List.mem_cons_of_mem _ hx))
      exact ⟨(h1.1.trans h2.1).mono (by rw [List.length_cons]; omega), h2.2.trans h1.2⟩
    | succ c => exact ⟨h1.1.mono (by rw [List.length_cons]; omega), h1.2⟩
theorem lives_arg {L : Log} (h : LogInv L) (i : Nat) (key : Bs) : (livesF L i key).length ≤ 32 ∧ ∀ e ∈ livesF L i key, EArg e := by
  unfold livesF
  cases hb : L.blocks[i]? with
  | none => exact ⟨Nat.zero_le _, fun e he => (by cases he)⟩
  | some b =>
    have h1 := h.wf.ents hb
    constructor
    · simp only [List.length_map]
      refine Nat.le_trans (List.length_filter_le _ _) ?_
      rw [List.length_zipIdx]
      exact h1.1
    · intro e he
      obtain ⟨p, hp, rfl⟩ := List.mem_map.1 he
      have h2 := (List.mem_filter.1 hp).1
      have h3 : p.1 ∈ b.entries := List.fst_mem_of_mem_zipIdx h2
      exact ((h.wf.ok b (List.mem_of_getElem? hb)).2.2 _ h3).arg
theorem cleanF_to {L : Log} (h : LogInv L) {i tb : Nat} (hi : i < L.blocks.length) (ht : tb < L.blocks.length) (hs : L.segment ≤ far) (hn : L.number ≤ far) {e : Ent} (he : EArg e) : InvTo L (cleanF L i tb e).2 1288 := by
  obtain ⟨h1, e1⟩ := beginF_inv h (List.getElem?_eq_getElem ht) hs
  have h2 := h1.number (n := L.number + 1) ⟨by omega, by omega⟩
  have hla := lives_arg h i e.key
  have h3 := progAll_to (o := tb) (livesF L i e.key ++ [e]) h2 (by rw [e1]) (by rw [e1]; simp only [List.length_set]; exact ht) (fun x hx => by
    rcases List.mem_append.1 hx with h4 | h4
    · exact hla.2 x h4
    · rw [List.mem_singleton] at h4; rw [h4]; exact he)
  have h0 : InvTo L { beginF L tb with number := L.number + 1 } 0 := ⟨h2, by rw [e1]; exact Nat.le_refl _, by rw [e1], by rw [e1]; simp only [List.length_set]⟩
  have h4 := (h0.trans h3.1).mono (n := 1287) (by rw [List.length_append, List.length_singleton]; have := hla.1; omega)
  unfold cleanF
  simp only
  rcases hp : progAll (livesF L i e.key ++ [e]) { beginF L tb with number := L.number + 1 } with ⟨c, l2⟩
  rw [hp] at h4
  cases c with
  | succ c => exact h4.mono (by omega)
  | zero =>
    simp only
    rcases hsy : syncD l2.d with ⟨c3, d3⟩
    obtain ⟨s1, s2, s3, s4⟩ := sync_cases h4.inv.dev hsy
    have hp3 : d3.pending.length ≤ l2.d.pending.length := by
      rcases s4 with h5 | h5
      · rw [h5.2.2]; exact Nat.le_refl _
      · rw [h5.2.2]; exact Nat.zero_le _
    cases c3 with
    | succ c3 => exact ⟨h4.inv.dev_ s1 s3 s2 true, by have := h4.pend; simp only at this ⊢; omega, s2.trans h4.np, h4.len⟩
    | zero =>
      simp only
      obtain ⟨p, hp4, hp5⟩ := h4.inv.blk (o := i) (List.getElem?_eq_getElem (by rw [h4.len]; exact hi))
      rcases her : eraseD d3 i with ⟨c4, d4⟩
      obtain ⟨r1, r2, r3, r4⟩ := erase_cases s1 (by rw [s3]; exact hp4) her
      cases c4 with
      | succ c4 =>
        have h6 : d4.now = d3.now ∧ d4.pending = d3.pending := by
          rcases r4 with h7 | h7
          · exact h7.2
          · exact absurd h7.1 (Nat.succ_ne_zero _)
        exact ⟨h4.inv.dev_ r1 (h6.1.trans s3) (r2.trans s2) true, by have := h4.pend; simp only at this ⊢; rw [h6.2]; omega, (r2.trans s2).trans h4.np, h4.len⟩
      | zero =>
        have h6 : d4.now = d3.now.set i (eraseB p) ∧ d4.pending = d3.pending ++ [⟨i, 0, none⟩] := by
          rcases r4 with h7 | h7
          · exact absurd rfl h7.1
          · exact h7.2
        have hpm := h4.inv.dev.now p (List.mem_of_getElem? hp4)
        have he0 := (erase_ok hpm).2
        have hil : i < l2.blocks.length := by rw [h4.len]; exact hi
        have hset : setLB l2 i (fun _ => ⟨0, 0, 0, []⟩) = { l2 with blocks := l2.blocks.set i ⟨0, 0, 0, []⟩ } := setLB_at (List.getElem?_eq_getElem hil)
        simp only
        rw [hset]
        have h8 := h4.inv.wf.upd (nb := ⟨0, 0, 0, []⟩) (D' := d4) (List.getElem?_eq_getElem hil) hp4 (p' := eraseB p) (by rw [h6.1, s3]) (r2.trans s2) he0.symm (Nat.zero_le _) (Nat.zero_le _) ⟨Nat.zero_le _, Nat.zero_le _, fun x hx => (by cases hx)⟩ l2.broken
        have h9 : LogInv { l2 with d := d4, blocks := l2.blocks.set i ⟨0, 0, 0, []⟩ } := ⟨h8, r1⟩
        exact ⟨h9.cleaned _, by have := h4.pend; simp only at this ⊢; rw [h6.2, List.length_append, List.length_singleton]; omega, (r2.trans s2).trans h4.np, by simp only [List.length_set]; exact h4.len⟩
theorem vicF_lt {L : Log} {key : Bs} {i n : Nat} (h : victimF L key = some (i, n)) : i < L.blocks.length := by
  rw [victimF_eq] at h
  have go : ∀ k, k ≤ L.blocks.length → ∀ i n, vicTo L key k = some (i, n) → i < k := by
    intro k
    induction k with
    | zero => intro _ i n h; unfold vicTo at h; simp at h
    | succ k ih =>
      intro hk i n h
      rw [vicTo_succ (List.getElem?_eq_getElem (show k < L.blocks.length by omega)) key] at h
      by_cases hz : (L.blocks[k]'(by omega)).next = 0
      · rw [victimStep_zero hz] at h
        have := ih (by omega) i n h
        omega
      · rw [victimStep_pos hz] at h
        unfold vicPick at h
        cases hv : vicTo L key k with
        | none => rw [hv] at h; simp only at h; cases h; omega
        | some y =>
          have := ih (by omega) y.1 y.2 hv
          rw [hv] at h
          obtain ⟨a, b⟩ := y
          simp only at h this
          split at h <;> (cases h; omega)
  exact go _ (Nat.le_refl _) i n h
theorem writeF_to {L : Log} (h : LogInv L) {kind : Nat} {key value : Bs} (hk : kind = 1 ∨ kind = 2) (hky : 1 ≤ key.length ∧ key.length ≤ 2048) (hvl : value.length ≤ 16384) : InvTo L (writeF L kind key value).2 1288 := by
  by_cases h1 : 1099511627776 < L.number
  · rw [writeF_far kind key value h1]; exact InvTo.refl h _
  · have hnf : L.number ≤ far := by unfold far; omega
    have ha : EArg ⟨kind, L.number, 0, 0, key, value⟩ := ⟨hk, hnf, hky, hvl⟩
    by_cases h2 : 0 ≤ L.open_ ∧ ((partsF key value).length : Int) ≤ openRoom L
    · rw [writeF_room kind key value h1 h2]
      obtain ⟨o, ho⟩ : ∃ o : Nat, L.open_ = (o : Int) := ⟨L.open_.toNat, by have := h2.1; omega⟩
      have h3 := h.number (n := L.number + 1) ⟨by omega, by unfold far; omega⟩
      have h0 : InvTo L { L with number := L.number + 1 } 0 := ⟨h3, Nat.le_refl _, rfl, rfl⟩
      exact (h0.trans (programF_to h3 ho (by have := h.wf.op.2; rw [ho] at this; simp only; omega) ha).1).mono (by omega)
    · rw [writeF_rest kind key value h1 h2]
      unfold writeG
      split
      · exact InvTo.refl h _
      · rename_i h3
        have hs : L.segment ≤ far := by unfold far; by_cases h4 : 1099511627776 < L.segment; exact absurd (.inl h4) h3; omega
        have hfe : freeF L ≠ [] := fun h4 => h3 (.inr h4)
        split
        · obtain ⟨hy1, b, hb, -⟩ := free_lt (young_mem (L := L) hfe)
          obtain ⟨h4, e4⟩ := beginF_inv h hb hs
          have h5 := h4.number (n := L.number + 1) ⟨by omega, by unfold far; omega⟩
          have h0 : InvTo L { beginF L (youngestF L (freeF L)) with number := L.number + 1 } 0 := ⟨h5, by rw [e4]; exact Nat.le_refl _, by rw [e4], by rw [e4]; simp only [List.length_set]⟩
          exact (h0.trans (programF_to (o := youngestF L (freeF L)) h5 (by rw [e4]) (by rw [e4]; simp only [List.length_set]; exact hy1) ha).1).mono (by omega)
        · split
          · exact InvTo.refl h _
          · rename_i i n hv
            split
            · exact InvTo.refl h _
            · have h0 : (freeF L).headD 0 ∈ freeF L := by
                cases hf : freeF L with
                | nil => exact absurd hf hfe
                | cons x r => simp
              exact cleanF_to h (vicF_lt hv) (free_lt h0).1 hs hnf ha
theorem putF_to {L : Log} (h : LogInv L) (key value : Bs) : InvTo L (putF L key value).2 1288 := by
  unfold putF
  split
  · exact InvTo.refl h _
  · split
    · exact InvTo.refl h _
    · rename_i h1
      split
      · exact InvTo.refl h _
      · rename_i h2
        exact writeF_to h (.inl rfl) (by omega) (by have : ¬ 16384 < value.length := fun h => h2 (.inl h); omega)
theorem deleteF_to {L : Log} (h : LogInv L) (key : Bs) : InvTo L (deleteF L key).2 1288 := by
  unfold deleteF
  cases hg : getF L key with
  | inr c => exact InvTo.refl h _
  | inl v =>
    obtain ⟨y, hy1, hy2, -⟩ := get_kind hg
    have hky := (hy1.ok h.wf).key
    rw [hy2] at hky
    exact writeF_to h (.inr rfl) hky (Nat.zero_le _)
theorem power_on {D : Dev} (h1 : D.off = false) (h2 : D.planned = false) : powerF D = (true, D) := by
  unfold powerF
  have e : ¬ (D.planned = true ∧ D.left = 0) := fun h => by rw [h2] at h; cases h.1
  simp only
  rw [if_neg e, h1, h2]
  rfl
/-- what Open leaves -/
theorem openF_log {D D' : Dev} (hd : DevOk D) {c : Nat} {L : Log} (h : openF D = (c, some L, D')) : LogInv L ∧ L.d = D' ∧ L.broken = false ∧ c = 0 ∧ 3 ≤ D.now.length ∧ L.d.pending.length ≤ D.pending.length ∧ L.d.npages = D.npages ∧ L.blocks.length = D.now.length := by
  by_cases h3 : D.now.length < 3
  · rw [openF_small h3] at h; cases h
  · have h0 := loadF_inv (L := log0 D) hd (by show 3 ≤ D.now.length; omega)
    by_cases hf : freeF (loadF (log0 D)) = []
    · rw [openF_erase h3 hf] at h
      have hb : (loadF (log0 D)).blocks.length = D.now.length := by rw [h0.wf.bl]; rfl
      have hsp := spare_lt (L := loadF (log0 D)) (by omega)
      rw [hb] at hsp
      rcases her : eraseD D (spareF (loadF (log0 D))) with ⟨c4, d4⟩
      rw [her] at h
      obtain ⟨r1, r2, r3, r4⟩ := erase_cases hd (List.getElem?_eq_getElem hsp) her
      cases c4 with
      | succ c => cases h
      | zero =>
        simp only at h
        rcases hsy : syncD d4 with ⟨c5, d5⟩
        rw [hsy] at h
        obtain ⟨s1, s2, s3, s4⟩ := sync_cases r1 hsy
        cases c5 with
        | succ c => cases h
        | zero =>
          simp only at h
          have hlen : d5.now.length = D.now.length := by
            rw [s3]
            rcases r4 with h7 | h7
            · rw [h7.2.1]
            · rw [h7.2.1, List.length_set]
          have h1 := loadF_inv (L := { loadF (log0 D) with d := d5 }) s1 (by show 3 ≤ d5.now.length; omega)
          cases h
          refine ⟨h1, rfl, rfl, rfl, by omega, ?_, s2.trans r2, by rw [h1.wf.bl]; exact hlen⟩
          rcases s4 with h7 | h7
          · exact absurd rfl h7.1
          · show D'.pending.length ≤ _
            rw [h7.2.2]
            exact Nat.zero_le _
    · rw [openF_free h3 hf] at h
      cases h
      exact ⟨h0, rfl, rfl, rfl, by omega, Nat.le_refl _, rfl, h0.wf.bl⟩
/-- with the power on Open opens -/
theorem openF_on {D : Dev} (hd : DevOk D) (h3 : 3 ≤ D.now.length) (h1 : D.off = false) (h2 : D.planned = false) : ∃ L D', openF D = (0, some L, D') := by
  have hn : ¬ D.now.length < 3 := by omega
  by_cases hf : freeF (loadF (log0 D)) = []
  · rw [openF_erase hn hf]
    have h0 := loadF_inv (L := log0 D) hd (by show 3 ≤ D.now.length; omega)
    have hb : (loadF (log0 D)).blocks.length = D.now.length := by rw [h0.wf.bl]; rfl
    have hsp := spare_lt (L := loadF (log0 D)) (by omega)
    rw [hb] at hsp
    have hp := power_on h1 h2
    rw [eraseD_ok (List.getElem?_eq_getElem hsp) (by rw [hp])]
    simp only [hp]
    rw [syncD_ok (by rw [power_on (by exact h1) (by exact h2)])]
    exact ⟨_, _, rfl⟩
  · rw [openF_free hn hf]
    exact ⟨_, _, rfl⟩
/-- a key of Keys is there -/
theorem keysF_get {L : Log} {k : Bs} (h : k ∈ keysF L) : ∃ v, getF L k = .inl v := by
  unfold keysF at h
  split at h
  · cases h
  · have h1 : k ∈ (rawKeys L).mergeSort fun x y => decide (x ≤ y) := by
      unfold Lib.compact Lib.compactUpTo at h
      obtain ⟨i, hi, e⟩ := List.mem_map.1 h
      have hi2 := (List.mem_filter.1 hi).1
      rw [List.mem_range] at hi2
      rw [← e, List.getElem!_toArray, List.getElem!_eq_getElem?_getD, List.getElem?_eq_getElem hi2]
      exact List.getElem_mem _
    rw [List.mem_mergeSort] at h1
    unfold rawKeys at h1
    obtain ⟨x, -, hx⟩ := List.mem_filterMap.1 h1
    unfold keyOf at hx
    cases hg : getF L x.2.2.key with
    | inr c => rw [hg] at hx; cases hx
    | inl v => rw [hg] at hx; simp only [Option.some.injEq] at hx; rw [hx] at hg; exact ⟨v, hg⟩
theorem newDev_ok {n m : Nat} (hn : 1 ≤ n ∧ n ≤ 64) (hm : 1 ≤ m ∧ m ≤ 32) : DevOk (newDev n m) ∧ (newDev n m).npages = m ∧ (newDev n m).now.length = n := by
  have hp : (newDev n m).npages = m := npages_any (D' := newDev n m) (by unfold newDev; simp; omega) (fun b hb => by unfold newDev at hb; simp only at hb; rw [List.eq_of_mem_replicate hb]; simp)
  have hb : ∀ b ∈ (newDev n m).now, BlkOk m b := fun b hb => by
    unfold newDev at hb
    simp only at hb
    rw [List.eq_of_mem_replicate hb]
    exact ⟨by simp, fun x hx => (by simp only at hx; have := List.eq_of_mem_replicate hx; cases this), fun j _ hj => by simp only; rw [List.getElem?_replicate, if_pos hj]⟩
  have hl : (newDev n m).now.length = n := by unfold newDev; simp
  exact ⟨⟨by rw [hp]; exact hm, by rw [hl]; exact hn, by rw [hp]; exact hb, by rw [hp]; exact hb, rfl, fun o ho => (by unfold newDev at ho; cases ho)⟩, hp, hl⟩
end Go.Proofs.Ytepigkjgjlibcaa
namespace Go.Proofs.Ytepigkjgjlibcaa
open Go.RowKit Go.Deep Go.Proofs.Ytepigkjgjlibcaa.FL
set_option maxRecDepth 100000
def awL : Log := loadF (log0 (newDev 3 2))
theorem aw_free : freeF awL = [0, 1, 2] := by kernel_rfl
theorem aw_open : openF (newDev 3 2) = (0, some awL, newDev 3 2) := openF_free (by decide) (by rw [show freeF (loadF (log0 (newDev 3 2))) = [0, 1, 2] from aw_free]; decide)
theorem aw_put : (putF awL [97] [120]).1 = 0 := by kernel_rfl
theorem aw_get : getF (putF awL [97] [120]).2 [97] = .inl [120] := by kernel_rfl
/-- what a law makes lies above its own world -/
theorem ext_step {w a b : World} {S : Nat → Prop} (hx : Ext w a) (hs : ∀ x, S x → w.heap.size ≤ x) (hm : Mod S a b) : Ext w b :=
  (Mod.then (Mod.of_ext (fun _ => False) hx) hm (fun i hi => .inr (hs i hi))).ext (fun _ h => h.elim)
theorem from_step {w a : World} {S S' : Nat → Prop} (hx : Ext w a) (hs : ∀ x, S x → w.heap.size ≤ x) (h : ∀ x, S' x → S x ∨ a.heap.size ≤ x) : ∀ x, S' x → w.heap.size ≤ x :=
  fun x hx2 => (h x hx2).elim (hs x) (fun h9 => Nat.le_trans hx.size h9)
theorem bs_laidM (w : World) (l : Bs) (fr : Nat × Nat) : BS (w.alloc (.cells (by8 l).toArray 5 fr)) (.slice (some ⟨w.heap.size, 0, none⟩) l.length l.length) l := by
  refine .inr ⟨w.heap.size, 0, l.length, rfl, Nat.le_refl _, ⟨_, _, heap_alloc_new w _⟩, fun i u hu => ?_⟩
  rw [Nat.zero_add, World.cell?_alloc_mark]
  simpa using hu
set_option maxHeartbeats 4000000 in
theorem awake23 (w : World) : Calls Try.prog 9 #[] w fun e w' => e = .returned (.bool true) ∧ Ext w w' := by
  have HN := Lib.hid (devnew_any 3 2 (by omega) (by omega) w)
  have HOK := Lib.hid (newDev_ok (n := 3) (m := 2) (by omega) (by omega))
  go_enter Try.func9, Try.ntmps9
  go_upto_region 4 with (go_at_call 20; refine HN.out.mono ?_; rintro e w1 ⟨d, S, G, rfl, hx1, hd1, hs1⟩; have HX1 := Lib.hid hx1; have HD1 := Lib.hid hd1; have HS1 := Lib.hid hs1; clear hx1 hd1 hs1)
  have HO := Lib.hid (open_any HD1.out HOK.out.1 (by show ([] : List FL.Oper).length ≤ _; simp))
  rw [aw_open] at HO
  obtain ⟨hi0, -, -, -, -, hp0, -, hb0⟩ := openF_log HOK.out.1 aw_open
  have HI := Lib.hid (And.intro hi0 (And.intro hp0 hb0))
  clear hi0 hp0 hb0
  go_upto_region 5 with (go_at_call 10; refine HO.out.mono ?_; rintro e w2 ⟨l, S2, rfl, hl2, hm2, hs2⟩; have HL2 := Lib.hid hl2; have HM2 := Lib.hid (And.intro hm2 hs2); clear hl2 hm2 hs2)
  obtain ⟨F2, SD2, G2, hdv2, h2⟩ := HL2.out
  have H2 := Lib.hid h2
  have HDV := Lib.hid hdv2
  clear h2 hdv2
  obtain ⟨w3, hw3⟩ : ∃ z, z = w2.alloc (.cells #[.int .u8 120] 5 (1, 2)) := ⟨_, rfl⟩
  have hkc := Lib.run_convert_bytes_const (P := Try.prog) w2 42 5 #[.int .u8 120] 1 1 Try.underlying42 Try.underlying5
  rw [show w2.alloc (.cells #[.int .u8 120] 5 (#[Value.int .u8 120].size, #[Value.int .u8 120].size + 1)) = w3 from hw3.symm] at hkc
  have HX3 := Lib.hid (show Ext w2 w3 by rw [hw3]; exact (Ext.refl w2).alloc _)
  have HV3 : Hid (BS w3 (.slice (some ⟨w2.heap.size, 0, none⟩) 1 1) [120]) := Lib.hid (by rw [hw3]; exact bs_laidM w2 [120] _)
  have HP := Lib.hid (put_any (key := [97]) (value := [120]) (H2.out.ext HX3.out) HI.out.1 (by simp) (by simp) HV3.out (Nat.le_trans HI.out.2.1 (by show ([] : List FL.Oper).length ≤ _; simp)))
  rw [aw_put, codeV_zero, show st [97] = ⟨#[97]⟩ from rfl] at HP
  have HPT := Lib.hid (putF_to HI.out.1 [97] [120])
  go_upto_region 7 with (go_at_call 16; rw [← hw3]; refine HP.out.mono ?_; rintro e w4 ⟨rfl, hl4⟩; have HL4 := Lib.hid hl4; clear hl4)
  obtain ⟨S4, ⟨F4, SD4, G4, hdv4, h4⟩, hm4, hs4⟩ := HL4.out
  have H4 := Lib.hid h4
  have HM4 := Lib.hid (And.intro hm4 hs4)
  have HG := Lib.hid (gett_any h4 HPT.out.inv.wf.nb.2 (by have := HPT.out.inv.wf.nb.1; omega) (wf_ok HPT.out.inv.wf) [97] (fun v hv => by rw [aw_get] at hv; cases hv; simp))
  rw [aw_get, show st [97] = ⟨#[97]⟩ from rfl] at HG
  clear h4 hm4 hs4 hdv4 hkc hw3
  go_upto_region 8 with (go_at_call 18; refine HG.out.mono ?_; rintro e w5 ⟨hx5, u5, rfl, hu5⟩; obtain ⟨A5, c5, rfl, -, -⟩ := hu5.bs.slice; have HU5 := Lib.hid hu5.bs; have HX5 := Lib.hid hx5; clear hx5 hu5)
  have hcv := conv_st (n := 1) HU5.out (by simp)
  rw [show ([120] : Bs).take 1 = [120] from rfl] at hcv
  go_wp2_with fail
  go_ret
  refine ⟨rfl, ?_⟩
  have x2 := ext_step HX1.out HS1.out HM2.out.1
  have s2 := from_step HX1.out HS1.out HM2.out.2
  exact (ext_step (x2.trans HX3.out) s2 HM4.out.1).trans HX5.out
end Go.Proofs.Ytepigkjgjlibcaa
namespace Go.Proofs.Ytepigkjgjlibcaa
open Go.RowKit Go.Deep Go.Proofs.Ytepigkjgjlibcaa.FL
set_option maxRecDepth 100000
def BR (w : World) (v : Value) (l : Bs) : Prop := ∃ A cap, v = .slice A l.length cap ∧ l.length ≤ cap ∧ (l ≠ [] → ∃ g o, A = some ⟨g, o, none⟩ ∧ ∀ i u, (by8 l)[i]? = some u → w.cell? ⟨g, o + i, none⟩ = some u)
theorem BR.ext {w w' : World} {v : Value} {l : Bs} (h : BR w v l) (hx : Ext w w') : BR w' v l := by
  obtain ⟨A, cap, e, hc, hr⟩ := h
  refine ⟨A, cap, e, hc, fun hl => ?_⟩
  obtain ⟨g, o, e2, h2⟩ := hr hl
  exact ⟨g, o, e2, fun i u hu => hx.cell (h2 i u hu)⟩
theorem BR.slice {w : World} {v : Value} {l : Bs} (h : BR w v l) : ∃ A cap, v = .slice A l.length cap ∧ l.length ≤ cap ∧ (l ≠ [] → ∃ g o, A = some ⟨g, o, none⟩) := by
  obtain ⟨A, cap, e, hc, hr⟩ := h
  exact ⟨A, cap, e, hc, fun hl => by obtain ⟨g, o, e2, -⟩ := hr hl; exact ⟨g, o, e2⟩⟩
theorem cell_lt23 {w : World} {g o : Nat} {u : Value} (h : w.cell? ⟨g, o, none⟩ = some u) : g < w.heap.size := by
  by_cases hg : g < w.heap.size
  · exact hg
  · have : w.heap[g]? = none := Array.getElem?_eq_none (by omega)
    unfold World.cell? at h
    simp [this] at h
theorem BR.reads {w : World} {A : Option Addr} {n cap : Nat} {l : Bs} (h : BR w (.slice A n cap) l) : n = l.length ∧ Reads w w.heap.size 1 A n (by8 l) := by
  obtain ⟨A', cap', e, hc, hr⟩ := h
  cases e
  refine ⟨rfl, by rw [by8_length, Nat.mul_one], fun hn => ?_⟩
  obtain ⟨g, o, rfl, h2⟩ := hr (by intro e; rw [e] at hn; simp at hn)
  have h0 : ∃ u, (by8 l)[0]? = some u := ⟨_, List.getElem?_eq_getElem (by rw [by8_length]; omega)⟩
  obtain ⟨u0, hu0⟩ := h0
  refine ⟨_, rfl, cell_lt23 (h2 0 u0 hu0), fun j u hj => ?_⟩
  have := h2 j u hj
  rwa [show (⟨g, o, none⟩ : Addr).add j = ⟨g, o + j, none⟩ by unfold Addr.add; split <;> simp_all]
set_option maxHeartbeats 4000000 in
theorem filled_r {w : World} {v : Value} {l : Bs} (h : BR w v l) (hl : l.length ≤ 512) :
    Calls Try.prog 50 #[v] w fun e w' => ∃ u, e = .returned u ∧ Ext w w' ∧ OB w' w.heap.size u (filled l) := by
  have hmk : ∀ W : World, (Instr.makeSlice 42 (.int .i64 512) (.int .i64 512)).run Try.prog W = .ok (.slice (some ⟨W.heap.size, 0, none⟩) 512 512) (W.alloc (.cells (madeCells #[.int .u8 0] 512) 5)) := fun W => run_make_row' (P := Try.prog) 42 5 (.int .u8 0) 1 Try.underlying42 (by kernel_rfl) rfl .i64 .i64 512 (by omega) (by omega) W
  obtain ⟨A, cap, rfl, -, hne⟩ := h.slice
  have HL := Lib.hid hl
  have HB := Lib.hid h
  obtain ⟨Z, hZ⟩ : ∃ Z : List Value, Z = List.replicate 512 (.int .u8 0) := ⟨_, rfl⟩
  have HZ := Lib.hid hZ
  obtain ⟨C8, hC8⟩ : ∃ C8 : List Value, C8 = by8 l := ⟨_, rfl⟩
  have HC8 := Lib.hid hC8
  obtain ⟨wm, hwm⟩ : ∃ x, x = w.alloc (.cells (madeCells #[.int .u8 0] 512) 5) := ⟨_, rfl⟩
  have HXM : Hid (Ext w wm) := Lib.hid (by rw [hwm]; exact (Ext.refl w).alloc _)
  have HGM : Hid (wm.heap[w.heap.size]? = some (.cells Z.toArray 5 (0, 0))) := Lib.hid (by
    rw [hwm, heap_alloc_new, hZ, ← toList_madeCells_one])
  have HSR := Lib.hid ((HB.out.ext HXM.out).reads.2)
  have hl5 : (l.length : Int) ≤ 512 := by have := HL.out; omega
  have hmn : min l.length 512 = l.length := by have := HL.out; omega
  clear h hl hZ hC8
  go_enter Try.func50, Try.ntmps50
  go_upto_region 2 with fail
  rw [← hwm]
  clear hwm hmk
  go_wp2_with (refine wpList_copy_splice rfl (.tmp 6) (.tmp 7) 42 42 rfl 5 Try.underlying42 (by kernel_rfl) (some ⟨w.heap.size, 0, none⟩) A 512 512 l.length cap rfl rfl w.heap.size 0 Z 5 HGM.out C8 (by rw [HC8.out, by8_length]; exact hmn.symm) (fun h0 => ⟨rfl, by
      obtain ⟨ad, e, -, h1⟩ := HSR.out.2 (by rw [HC8.out, by8_length] at h0; exact h0)
      exact ⟨ad, e, fun j v hv => by rw [HC8.out] at hv; exact h1 j v hv⟩⟩) (by rw [HC8.out, HZ.out, by8_length, List.length_replicate]; have := HL.out; omega) (fun v hv => by rw [HC8.out] at hv; exact by8_one v hv) w.heap.size w HXM.out (Nat.le_refl _) ?_; intro w2 hg2 hb2)
  go_loopw [4] (fun i wr => ∃ (k : Nat) (x : Bs), i = .int .i64 k ∧ l.length ≤ k ∧ k ≤ 512 ∧ Hid (Ext w wr ∧ OB wr w.heap.size (.slice (some ⟨w.heap.size, 0, none⟩) 512 512) x ∧ x.length = 512 ∧ x.take k = (filled l).take k)) (fun i _ => 512 - (intOf i).toNat)
  case atStart =>
    refine ⟨l.length, l ++ List.replicate (512 - l.length) 0, by rw [HC8.out, by8_length], Nat.le_refl _, HL.out, Lib.hid ⟨hb2, ob_of_heap (Nat.le_refl _) hg2.out ?_ ?_ (by decide), ?_, ?_⟩⟩
    · rw [HC8.out, HZ.out]
      unfold splice
      rw [by8_append, List.take_zero, List.nil_append, by8_length, Nat.zero_add, List.drop_replicate]
      congr 1
      unfold by8
      rw [List.map_replicate]
      rfl
    · have := HL.out; simp; omega
    · have := HL.out; simp; omega
    · unfold filled
      rw [List.take_left' rfl, List.take_left' rfl]
  case round =>
    obtain ⟨k, x, rfl, hk1, hk2, hW⟩ := hrel
    by_cases hk : k < 512
    · have hki : (k : Int) < 512 := by omega
      obtain ⟨c, hc⟩ : ∃ c, wr.cell? ⟨w.heap.size, k, none⟩ = some c := by
        obtain ⟨g, o, e, h1⟩ := hW.out.2.1.bs.at k (by rw [hW.out.2.2.1]; exact hk)
        cases e
        rw [Nat.zero_add] at h1
        exact ⟨_, h1⟩
      have hf := hW.out.2.1.froz k
      have HX2 := Lib.hid (hW.out.1.setCell (p := ⟨w.heap.size, k, none⟩) (Nat.le_refl _) (.int .u8 255))
      have HO2 := Lib.hid (hW.out.2.1.set k 255)
      go_wp2_with fail
      exact ⟨⟨k + 1, x.set k 255, by go_num, by omega, by omega, Lib.hid ⟨HX2.out, HO2.out, by rw [List.length_set]; exact hW.out.2.2.1, by
        rw [List.take_add_one, List.take_add_one, List.take_set_of_le (Nat.le_refl _), hW.out.2.2.2, filled_get hk1 hk, List.getElem?_set_self (by rw [hW.out.2.2.1]; exact hk)]⟩⟩, by simp [intOf]; omega⟩
    · have hki : (512 : Int) ≤ (k : Int) := by omega
      obtain rfl : k = 512 := by omega
      go_wp2_with fail
      go_ret
      refine ⟨_, rfl, hW.out.1, ?_⟩
      have h1 := hW.out.2.2.2
      rw [List.take_of_length_le (by rw [hW.out.2.2.1]; exact Nat.le_refl _), List.take_of_length_le (by rw [filled_len HL.out]; exact Nat.le_refl _)] at h1
      rw [← h1]
      exact hW.out.2.1
/-! the least page that is not programmed -/
set_option maxHeartbeats 4000000 in
theorem devprog_r {w : World} {S : Nat → Prop} {d : Nat} {G : DevF} {D : Dev} (h : DevAtF w S d G D) {i k : Nat} {b : Blk} (hb : D.now[i]? = some b) {v : Value} {l : Bs} (hd : BR w v l) (hmd : ∀ W W', Ext w W → Mod (fun x => x = d) W W' → BR W' v l) (hl : l.length ≤ 512) (hpl : D.pending.length ≤ 1000000) (hkl : k ≤ 1000000) :
    Calls Try.prog 21 #[.pointer (some ⟨d, 0, none⟩), .int .i64 i, .int .i64 k, v] w fun e w' => e = .returned (codeV (programD D i k l).1) ∧ DevStep w w' S d (programD D i k l).2 := by
  have hi := (List.getElem?_eq_some_iff.1 hb).1
  have hii : (i : Int) < (D.now.length : Int) := by omega
  obtain ⟨A, cap, rfl, hcap, -⟩ := hd.slice
  have H := Lib.hid h
  have HMD := Lib.hid hmd
  have HL := Lib.hid hl
  have HB := Lib.hid hb
  have hll : (l.length : Int) ≤ 512 := by omega
  obtain ⟨p, pc, hpn, e0, e1, e2, e3, e4⟩ := h.now.cells hb
  have HPN := Lib.hid hpn
  have c1 := h.row.cell (j := 1) rfl
  have HNX := Lib.hid (next_any (cap := pc) e2 (by have := h.np.2; omega) b.worn)
  rw [e3] at HNX
  by_cases hk : D.npages ≤ k
  · have HP := Lib.hid (page_big h i k (by omega) (by omega))
    have HE := Lib.hid (programD_big (l := l) hb hk)
    clear h hb hd hmd hl hcap e2 e3 hk hpn
    go_enter Try.func21, Try.ntmps21
    go_wp2_with (go_at_call 47; refine HP.out.mono ?_; rintro e w1 ⟨rfl, rfl⟩)
    go_ret
    rw [HE.out]
    exact ⟨rfl, S, G, H.out, Mod.refl _ _, fun x hx => .inl hx⟩
  · have hkk : k < D.npages := by omega
    have HP := Lib.hid (page_ok h i k (by omega) (by omega))
    by_cases hn : nextF b = k
    · have HE0 := Lib.hid (programD_down (l := l) hb hkk hl hn)
      have HE1 := Lib.hid (programD_ok (l := l) hb hkk hl hn)
      have hnq : ((nextF b : Int) != (k : Int)) = false := by rw [hn]; simp
      clear h hb hd hmd hl hcap e2 e3 hk hn hpn
      cases hpw : (powerF D).1 with
      | false =>
        have HPW := Lib.hid hpw
        clear hpw
        go_enter Try.func21, Try.ntmps21
        go_wp2_with (first
          | (go_at_call 49; refine (power_any (H.out.ext hx1)).mono ?_; rintro e w2 ⟨rfl, hd2, hm2⟩; rw [HPW.out])
          | (go_at_call 47; refine HP.out.mono ?_; rintro e w1 ⟨rfl, rfl⟩)
          | (go_at_call 48; refine HNX.out.mono ?_; rintro e w1 ⟨rfl, hx1⟩))
        go_ret
        rw [HE0.out HPW.out]
        exact ⟨rfl, S, G, hd2, (Mod.of_ext _ hx1).then hm2 (fun x hx => .inl (by rw [hx]; exact H.out.inS.1)), fun x hx => .inl hx⟩
      | true =>
        have HPW := Lib.hid hpw
        clear hpw
        go_enter Try.func21, Try.ntmps21
        go_upto_region 11 with (first
          | (go_at_call 50; refine (filled_r (HMD.out _ _ hx1 hm2) HL.out).mono ?_; rintro e w3 ⟨u, rfl, hx3, ho3⟩)
          | (go_at_call 49; refine (power_any (H.out.ext hx1)).mono ?_; rintro e w2 ⟨rfl, hd2, hm2⟩; rw [HPW.out])
          | (go_at_call 47; refine HP.out.mono ?_; rintro e w1 ⟨rfl, rfl⟩)
          | (go_at_call 48; refine HNX.out.mono ?_; rintro e w1 ⟨rfl, hx1⟩))
        have HX1 := Lib.hid hx1
        have HM2 := Lib.hid hm2
        have HX3 := Lib.hid hx3
        have HD3 := Lib.hid (hd2.ext hx3)
        obtain ⟨A3, n3, rfl, -, -⟩ := ho3.bs.slice
        have HO3 := Lib.hid ho3.bs
        clear hx1 hm2 hx3 hd2 ho3
        have HS := Lib.hid (powerF_same (D := D))
        obtain ⟨D1, hD1⟩ : ∃ D1, D1 = (powerF D).2 := ⟨_, rfl⟩
        rw [← hD1] at HD3 HS HE1
        have HB1 : Hid (D1.now[i]? = some b) := Lib.hid (by rw [HS.out.1]; exact HB.out)
        have HU : Hid (PgV w3 (.slice A3 (filled l).length n3) (some (filled l))) := Lib.hid ⟨HO3.out, filled_len HL.out⟩
        have HPUT := Lib.hid (HD3.out.put (k := k) HB1.out HPN.out (by rw [HS.out.2.2.2]; exact hkk) HU.out)
        have d1 := HD3.out.row.cell (j := 1) rfl
        rw [HS.out.1] at d1
        obtain ⟨p', pc', hp', d2, -, -, -, -⟩ := HD3.out.now.cells HB1.out
        rw [HPN.out] at hp'
        cases hp'
        rw [HS.out.2.2.2] at d2
        obtain ⟨vs, hvs1, hvs2, -⟩ := (HD3.out.now.pgs i _ _ HPN.out HB1.out).1
        have hkv : k < vs.length := by rw [hvs2]; have := (HD3.out.now.pgs i _ _ HPN.out HB1.out).2.1; rw [HS.out.2.2.2] at this; omega
        obtain ⟨v0, hv0⟩ : ∃ v0, vs[k]? = some v0 := ⟨_, List.getElem?_eq_getElem hkv⟩
        have HVS := Lib.hid hvs1
        have s1 := hvs1.cell hv0
        have s2 := hvs1.frozen hkv
        have hkki : (k : Int) < (D.npages : Int) := by omega
        clear hvs1 hvs2 hkv hv0 hD1
        go_upto_region 12 with fail
        obtain ⟨w4, hw4⟩ : ∃ x, x = w3.setCell ⟨p, k, none⟩ (.slice A3 (filled l).length n3) := ⟨_, rfl⟩
        rw [← hw4] at HPUT
        rw [← hw4]
        have HD4 := Lib.hid HPUT.out.1
        have HM4 := Lib.hid HPUT.out.2
        have HD5 := Lib.hid (HD4.out.ext ((Ext.refl w4).alloc (.cells #[.int .i64 i, .int .i64 k, .slice A3 (filled l).length n3] 103)))
        have hpend := HD5.out.pend
        obtain ⟨rows, hr1, hr2, hr3⟩ := hpend
        have HR1 := Lib.hid hr1
        have HR2 := Lib.hid hr2
        have HR3 := Lib.hid hr3
        have HRL := Lib.hid (show rows.length ≤ 1000000 by rw [hr1]; rw [show ({ D1 with now := D1.now.set i (setPage b k (some (filled l))) } : Dev).pending = D1.pending from rfl, HS.out.2.1]; exact hpl)
        have HRD := Lib.hid (reads_laid w4 103 [.int .i64 i, .int .i64 k, .slice A3 (filled l).length n3] 3 1 rfl)
        obtain ⟨i0, hi0, hz0, hz1, hz2⟩ := info_parts oper_info23
        have c2 := HD4.out.row.cell (j := 2) rfl
        clear hw4 HPUT hr1 hr2 hr3 s1 s2 d1 d2
        go_wp2_with (at_builtin; refine wpList_append_any _ rfl (.tmp 57) (.tmp 62) 97 rfl 0 103 i0 _ 3 40 Try.underlying97 hi0 hz0 hz1 hz2 rfl (by decide) G.pv rows.length rows.flatten rfl HR2.out _ (some ⟨w4.heap.size, 0, none⟩) 1 1 _ rfl HRD.out (by simp [Value.oneCell']) (by have := HRL.out; simp only [maxLen]; omega) (by have := HRL.out; omega) (Nat.zero_le _) ?_; intro v6 w6 ho6 hg6 hb6; obtain ⟨A6, c6, rfl⟩ := own_slice ho6; have hrw6 := (grown_mod hg6).rowB HD5.out.row (fun e => HD5.out.pend.ne e HD5.out.row (by decide) rfl); have u1 := hrw6.cell (j := 2) rfl; have u2 := hrw6.frozen (j := 2) (by simp))
        have HOP := Lib.hid (OpsAt.push (o := ⟨i, k, some (filled l)⟩) HR1.out HR3.out (grown_mod hg6) HD5.out.pend.no8 (HU.out.mod (HM4.out.ext' ((Ext.refl w4).alloc _)) (no8_row HVS.out (by decide))) ho6)
        obtain ⟨hd7, hm7⟩ := HD5.out.pushed (grown_mod hg6) HOP.out ⟨by simp only [List.length_set]; rw [HS.out.1]; exact hi, by rw [npages_set HB1.out (by simp [setPage]), HS.out.2.2.2]; exact hkk⟩
        go_ret
        rw [HE1.out HPW.out]
        have hm4 : Mod S w (w4.alloc (.cells #[.int .i64 i, .int .i64 k, .slice A3 (filled l).length n3] 103)) := by
          refine (((Mod.of_ext S HX1.out).then HM2.out (fun x hx => .inl (by rw [hx]; exact H.out.inS.1))).ext' HX3.out |>.then HM4.out (fun x hx => .inl (by rw [hx]; exact H.out.inS.2.2.2.1 _ (List.mem_append_left _ (List.mem_of_getElem? HPN.out))))).alloc _
        refine ⟨rfl, _, _, hd7, hm4.then hm7 (fun x hx => .inl hx), fun x hx => ?_⟩
        rcases hx with hx | hx
        · exact .inl hx.1
        · rcases hb6 with e | e
          · exact .inl (H.out.inS.2.2.2.2 x (e ▸ hx))
          · right
            have e2 : some (w4.alloc (.cells #[.int .i64 i, .int .i64 k, .slice A3 (filled l).length n3] 103)).heap.size = some x := by rw [← e]; exact hx
            have := hm4.size
            cases e2
            exact this
    · have HE := Lib.hid (programD_state (l := l) hb hkk hl hn)
      have hnq : ((nextF b : Int) != (k : Int)) = true := by rw [bne_iff_ne]; omega
      clear h hb hd hmd hl hcap e2 e3 hk hn hpn
      go_enter Try.func21, Try.ntmps21
      go_wp2_with (first
        | (go_at_call 47; refine HP.out.mono ?_; rintro e w1 ⟨rfl, rfl⟩)
        | (go_at_call 48; refine HNX.out.mono ?_; rintro e w1 ⟨rfl, hx1⟩))
      go_ret
      rw [HE.out]
      exact ⟨rfl, S, G, H.out.ext hx1, Mod.of_ext _ hx1, fun x hx => .inl hx⟩
end Go.Proofs.Ytepigkjgjlibcaa
namespace Go.Proofs.Ytepigkjgjlibcaa
open Go.RowKit Go.Deep Go.Proofs.Ytepigkjgjlibcaa.FL
set_option maxRecDepth 100000
/-- a list of byte slices that comes in -/
def LsIn (w : World) (v : Value) (ls : List Bs) : Prop := ∃ A cap, v = .slice A ls.length cap ∧ ls.length ≤ cap ∧ (0 < ls.length → ∃ g o, A = some ⟨g, o, none⟩ ∧ ∀ i l, ls[i]? = some l → ∃ u, w.cell? ⟨g, o + i, none⟩ = some u ∧ BR w u l)
/-- what stands of the device while the pages are programmed -/
structure DevUp (W wr : World) (d n m k : Nat) : Prop where
  ext : Ext W wr
  dev : ∃ S G D, DevAtF wr S d G D ∧ (∀ x, S x → W.heap.size ≤ x) ∧ DevOk D ∧ D.now.length = n ∧ D.npages = m ∧ D.off = false ∧ D.planned = false ∧ D.pending.length ≤ k
theorem KsAt.le {w : World} {B : Nat} {v : Value} {ks : List Bs} (h : KsAt w B v ks) : ks.length ≤ 9223372036854775807 := by
  rcases h.2 with ⟨-, e⟩ | ⟨g, cap, cur, -, -, -, hn, hm, -, -⟩
  · omega
  · simp only [maxLen] at hm; omega
theorem KsAt.get {w : World} {B n c : Nat} {ad : Option Addr} {ks : List Bs} (h : KsAt w B (.slice ad n c) ks) (hn : n = ks.length) {i : Nat} {x : Bs} (hx : ks[i]? = some x) : ∃ g c', Value.slice ad n c = .slice (some ⟨g, 0, none⟩) n c' ∧ w.cell? ⟨g, i, none⟩ = some (.string (st x)) := by
  have hi := (List.getElem?_eq_some_iff.1 hx).1
  obtain ⟨g, c', e⟩ := own_addr h (by omega)
  subst hn
  rw [e] at h ⊢
  exact ⟨g, c', rfl, (own_row h).1.cell (by rw [List.getElem?_map, hx]; rfl)⟩
theorem programD_pow {D : Dev} (i k : Int) (l : Bs) (h1 : D.off = false) (h2 : D.planned = false) : (programD D i k l).2.off = false ∧ (programD D i k l).2.planned = false := by
  unfold programD
  rw [power_on h1 h2]
  split
  · exact ⟨h1, h2⟩
  · split
    · exact ⟨h1, h2⟩
    · split
      · exact ⟨h1, h2⟩
      · split
        · exact ⟨h1, h2⟩
        · split
          · exact ⟨h1, h2⟩
          · exact ⟨h1, h2⟩
set_option maxHeartbeats 16000000 in
theorem opens23_law {W : World} {x0 x1 : Int} (h0 : 0 ≤ x0 ∧ x0 < 256) (h1 : 0 ≤ x1 ∧ x1 < 256) {v : Value} {ls : List Bs} (hv : LsIn W v ls) :
    Calls Try.prog 5 #[.int .u8 x0, .int .u8 x1, v] W fun e w' => e = .returned (.bool true) ∧ Ext W w' := by
  obtain ⟨A, cap, rfl, hcap, hrd⟩ := hv
  obtain ⟨y0, rfl⟩ := Int.eq_ofNat_of_zero_le h0.1
  obtain ⟨y1, rfl⟩ := Int.eq_ofNat_of_zero_le h1.1
  obtain ⟨n, hn⟩ : ∃ n, n = 1 + y0 % 5 := ⟨_, rfl⟩
  obtain ⟨m, hm⟩ : ∃ m, m = 1 + y1 % 4 := ⟨_, rfl⟩
  have HNM := Lib.hid (show 1 ≤ n ∧ n ≤ 5 ∧ 1 ≤ m ∧ m ≤ 4 by omega)
  have en : (1 : Int) + (y0 : Int) % 5 = (n : Nat) := by omega
  have em : (1 : Int) + (y1 : Int) % 4 = (m : Nat) := by omega
  have HRD := Lib.hid hrd
  obtain ⟨len, hlen⟩ : ∃ z, z = ls.length := ⟨_, rfl⟩
  rw [← hlen]
  have HLN := Lib.hid hlen
  have HAW := Lib.hid (fun w => awake23 w)
  have HN := Lib.hid (fun w => devnew_any n m (by have := HNM.out; omega) (by have := HNM.out; omega) w)
  clear hrd hcap hn hm hlen h0 h1
  by_cases hl : len ≤ 40
  · have hli : ¬ (40 : Int) < (len : Int) := by omega
    go_enter Try.func5, Try.ntmps5
    go_upto_region 4 with (go_at_call 9; refine (HAW.out _).mono ?_; rintro e w1 ⟨rfl, hx1⟩; have HX1 := Lib.hid hx1; clear hx1)
    go_upto_region 8 with (go_at_call 20; refine (HN.out _).mono ?_; rintro e w2 ⟨d, S0, G0, rfl, hx2, hd2, hs2⟩; have HX2 := Lib.hid (HX1.out.trans hx2); have HD2 := Lib.hid hd2; have HS2 := Lib.hid hs2; clear hx2 hd2 hs2)
    have HDU := Lib.hid (show DevUp W w2 d n m 0 by
      have hok := newDev_ok (n := n) (m := m) (by have := HNM.out; omega) (by have := HNM.out; omega)
      exact ⟨HX2.out, S0, G0, _, HD2.out, fun x hx => Nat.le_trans HX1.out.size (HS2.out x hx), hok.1, hok.2.2, hok.2.1, rfl, rfl, Nat.le_refl _⟩)
    clear HD2 HS2 HX2
    obtain ⟨nm, hnm⟩ : ∃ z, z = n * m := ⟨_, rfl⟩
    have enm : (n : Int) * (m : Int) = (nm : Nat) := by rw [hnm]; exact_mod_cast rfl
    have hnm20 : nm ≤ 20 := by rw [hnm]; exact Nat.mul_le_mul (show n ≤ 5 from HNM.out.2.1) (show m ≤ 4 from HNM.out.2.2.2)
    have HNN := Lib.hid hnm
    clear hnm
    go_loopw [11] (fun i wr => ∃ (k : Nat), i = .int .i64 k ∧ k ≤ len ∧ k ≤ nm ∧ Hid (DevUp W wr d n m k)) (fun i _ => len - (intOf i).toNat)
    case atStart => exact ⟨0, rfl, by omega, by omega, HDU⟩
    case round =>
      clear HDU
      obtain ⟨k, rfl, hk1, hk2, hD⟩ := hrel
      obtain ⟨q, hq⟩ : ∃ q, q = decide (k < len ∧ k < nm) := ⟨_, rfl⟩
      have HQ := Lib.hid hq
      clear hq
      go_upto_region 8 with fail
      go_cut [58] (fun v58 wx => v58 = .bool q ∧ wx = wr)
      case first =>
        by_cases hkl : k < len
        · have hki : (k : Int) < (len : Int) := by omega
          by_cases hkn : k < nm
          · have hkni : (k : Int) < (nm : Int) := by omega
            go_wp2_with fail
            go_meet
            exact ⟨by rw [HQ.out, decide_eq_true ⟨hkl, hkn⟩], rfl⟩
          · have hkni : (nm : Int) ≤ (k : Int) := by omega
            go_wp2_with fail
            go_meet
            exact ⟨by rw [HQ.out, decide_eq_false (fun h => hkn h.2)], rfl⟩
        · have hki : (len : Int) ≤ (k : Int) := by omega
          go_wp2_with fail
          go_meet
          exact ⟨by rw [HQ.out, decide_eq_false (fun h => hkl h.1)], rfl⟩
      case rest =>
        obtain ⟨rfl, rfl⟩ := hcut
        generalize wc = wr at *
        cases q with
        | true =>
          obtain ⟨hkl, hkn⟩ := of_decide_eq_true HQ.out.symm
          have hki : (k : Int) < (len : Int) := by omega
          have hkni : (k : Int) < (nm : Int) := by omega
          obtain ⟨l, hl⟩ : ∃ l, ls[k]? = some l := ⟨_, List.getElem?_eq_getElem (by rw [← HLN.out]; exact hkl)⟩
          obtain ⟨g, o, rfl, hcs⟩ := HRD.out (by have := HLN.out; omega)
          obtain ⟨u, hu, hbr⟩ := hcs k l hl
          obtain ⟨Au, cu, rfl, -, -⟩ := hbr.slice
          have HBR := Lib.hid hbr
          have d0 := hD.out.ext.cell hu
          clear hl hu hbr hcs
          obtain ⟨ll, hll⟩ : ∃ z, z = l.length := ⟨_, rfl⟩
          rw [← hll] at d0 HBR
          have HLL := Lib.hid hll
          clear hll
          by_cases h5 : ll ≤ 512
          · have h5i : (ll : Int) ≤ 512 := by omega
            obtain ⟨S, G, D, hdv, hS, hok, hdn, hdm, ho, hp, hpd⟩ := hD.out.dev
            have hm1 : 1 ≤ m := HNM.out.2.2.1
            have hq : k / m < n := Nat.div_lt_of_lt_mul (by rw [Nat.mul_comm]; have := HNN.out; omega)
            have hmi : (m : Int) ≠ 0 := by omega
            have eq1 : (k : Int).tdiv (m : Int) = ((k / m : Nat) : Int) := by rw [Int.ofNat_tdiv]
            have eq2 : (k : Int).tmod (m : Int) = ((k % m : Nat) : Int) := by rw [Int.ofNat_tmod]
            obtain ⟨bi, hbi⟩ : ∃ z, z = k / m := ⟨_, rfl⟩
            obtain ⟨pi, hpi⟩ : ∃ z, z = k % m := ⟨_, rfl⟩
            rw [← hbi] at eq1 hq
            rw [← hpi] at eq2
            have hpm : pi ≤ 1000000 := by have := Nat.mod_lt k (show 0 < m by omega); have := HNM.out; omega
            obtain ⟨b, hb⟩ : ∃ b, D.now[bi]? = some b := ⟨_, List.getElem?_eq_getElem (by omega)⟩
            have HS := Lib.hid hS
            have HP := Lib.hid (fun w' (hX : Ext wr w') => devprog_r (hdv.ext hX) hb (HBR.out.ext (hD.out.ext.trans hX)) (fun W1 W2 h1 h2 => HBR.out.ext (ext_step ((hD.out.ext.trans hX).trans h1) (fun x hx => by rw [show x = d from hx]; exact hS d (hdv.inS.1)) h2)) (by rw [← HLL.out]; exact h5) (by omega) hpm)
            rcases hpr : programD D bi pi l with ⟨c, D'⟩
            simp only [hpr] at HP
            have hcs := program_cases hok hb (by rw [← HLL.out]; exact h5) hpr
            have hpw := programD_pow bi pi l ho hp
            rw [hpr] at hpw
            have HDN := Lib.hid (show DevOk D' ∧ D'.now.length = n ∧ D'.npages = m ∧ D'.off = false ∧ D'.planned = false ∧ D'.pending.length ≤ k + 1 by
              refine ⟨hcs.1, ?_, hcs.2.1.trans hdm, hpw.1, hpw.2, ?_⟩
              · rcases hcs.2.2.2 with h9 | h9
                · rw [h9.2.1]; exact hdn
                · rw [h9.2.2.2.1, List.length_set]; exact hdn
              · rcases hcs.2.2.2 with h9 | h9
                · rw [h9.2.2]; omega
                · rw [h9.2.2.2.2, List.length_append, List.length_singleton]; omega)
            clear hcs hpw hpr hb hpd hp ho hdm hdn hok hS hdv hbi hpi hm1
            go_upto_region 10 with fail
            have g1 : decide ((512 : Int) < (ll : Int)) = false := decide_eq_false (by omega)
            refine wp_region_tail (C := fun W => ∃ n, W = wr.drewN n) 18 (by kernel_rfl) (by kernel_rfl) ⟨1, rfl⟩ ?_
            simp only [List.take_succ_cons, List.take_zero, List.drop_succ_cons, List.drop_zero]
            repeat (go_big_quiet_step (fail))
            refine wpQuiet_nil ?_
            rintro _ ⟨nq7, rfl⟩
            have HP7 := Lib.hid (HP.out _ ((Ext.refl wr).drewN nq7))
            have HX7 := Lib.hid (hD.out.ext.trans ((Ext.refl wr).drewN nq7))
            cases c with
            | zero =>
              rw [codeV_zero] at HP7
              go_wp2_with (go_at_call 21; refine HP7.out.mono ?_; rintro e w8 ⟨rfl, hd8⟩; have HD8 := Lib.hid hd8; clear hd8)
              obtain ⟨S8, G8, h8, hm8, hs8⟩ := HD8.out
              exact ⟨⟨k + 1, by go_num, by omega, by omega, Lib.hid ⟨ext_step HX7.out HS.out hm8, S8, G8, D', h8, from_step HX7.out HS.out hs8, HDN.out⟩⟩, by simp [intOf]; omega⟩
            | succ c =>
              obtain ⟨cn, hcn⟩ : ∃ z : Int, z = ((c + 1 : Nat) : Int) := ⟨_, rfl⟩
              rw [codeV_pos (Nat.succ_ne_zero c), ← hcn] at HP7
              clear hcn
              go_wp2_with (go_at_call 21; refine HP7.out.mono ?_; rintro e w8 ⟨rfl, hd8⟩; have HD8 := Lib.hid hd8; clear hd8)
              go_ret
              obtain ⟨S8, G8, h8, hm8, hs8⟩ := HD8.out
              exact ⟨rfl, ext_step HX7.out HS.out hm8⟩
          · have h5i : (512 : Int) < (ll : Int) := by omega
            go_upto_region 10 with fail
            go_quiet (fail)
            go_wp2_with fail
            go_ret
            exact ⟨rfl, hD.out.ext.trans ((Ext.refl wr).drewN nq)⟩
        | false =>
          clear HQ HRD
          obtain ⟨S, G, D, hdv, hS, hok, hdn, hdm, ho, hp, hpd⟩ := hD.out.dev
          have HO := Lib.hid (open_any hdv hok (by omega))
          have HX := Lib.hid hD.out.ext
          have HS := Lib.hid hS
          have HOK := Lib.hid (And.intro hok (And.intro ho (And.intro hp hpd)))
          have HI3 := Lib.hid (fun w => is_err 3 w (by decide))
          have HI1 := Lib.hid (fun w => is_err 1 w (by decide))
          have HON := Lib.hid (fun w => open_nil w)
          have hke : k ≤ 20 := by omega
          clear hD hdv hS hok ho hp hpd en em enm hnm20 hk1 hk2 hl
          by_cases hn3 : n < 3
          · have hn3i : (n : Int) < 3 := by omega
            rw [openF_small (by rw [hdn]; exact hn3)] at HO
            have HO2 := Lib.hid (show Calls Try.prog 10 #[.pointer (some ⟨d, 0, none⟩)] wr (fun e w' => e = .returned (.tuple #[.pointer none, errV 1]) ∧ DevStep wr w' S d D) from HO.out)
            clear HO hdn hdm hn3
            go_upto_region 13 with (go_at_call 10; refine HO2.out.mono ?_; rintro e w3 ⟨rfl, hd3⟩; have HD3 := Lib.hid hd3; clear hd3)
            go_upto_region 14 with (go_at_call 10; refine (HON.out _).mono ?_; rintro e w4 ⟨rfl, rfl⟩)
            go_upto_region 16 with (go_at_call 13; refine (HI3.out _).mono ?_; rintro e w5 ⟨rfl, rfl⟩)
            go_wp2_with (go_at_call 13; refine (HI1.out _).mono ?_; rintro e w6 ⟨rfl, rfl⟩)
            go_ret
            obtain ⟨S8, G8, h8, hm8, hs8⟩ := HD3.out
            exact ⟨rfl, ext_step HX.out HS.out hm8⟩
          · have hn3i : (3 : Int) ≤ (n : Int) := by omega
            obtain ⟨L, D', hop⟩ := openF_on HOK.out.1 (by omega) HOK.out.2.1 HOK.out.2.2.1
            rw [hop] at HO
            have hlg := openF_log HOK.out.1 hop
            have HI := Lib.hid (And.intro hlg.1 (show L.d.pending.length ≤ 20 by have := hlg.2.2.2.2.2.1; have := HOK.out.2.2.2; omega))
            have HBR := Lib.hid hlg.2.2.1
            have HO2 := Lib.hid (show Calls Try.prog 10 #[.pointer (some ⟨d, 0, none⟩)] wr (fun e w' => ∃ l S', e = .returned (.tuple #[.pointer (some ⟨l, 0, none⟩), .nilIface]) ∧ LogOn w' S' l d L ∧ Mod S wr w' ∧ ∀ x, S' x → S x ∨ wr.heap.size ≤ x) from HO.out)
            clear HO hdn hdm hn3 hop hlg
            go_upto_region 13 with (go_at_call 10; refine HO2.out.mono ?_; rintro e w3 ⟨lg, S3, rfl, hl3, hm3, hs3⟩; have HL3 := Lib.hid hl3; have HX3 := Lib.hid (ext_step HX.out HS.out hm3); have HS3 := Lib.hid (from_step HX.out HS.out hs3); clear hl3 hm3 hs3)
            go_upto_region 14 with (go_at_call 10; refine (HON.out _).mono ?_; rintro e w4 ⟨rfl, rfl⟩)
            go_upto_region 16 with (go_at_call 13; refine (HI3.out _).mono ?_; rintro e w5 ⟨rfl, rfl⟩)
            obtain ⟨F3, SD3, G3, hdv3, h3⟩ := HL3.out
            have H3 := Lib.hid h3
            have HK := Lib.hid (keys_any h3 HI.out.1)
            clear h3 hdv3
            go_upto_region 21 with (go_at_call 17; refine HK.out.mono ?_; rintro e w4 ⟨v4, rfl, hx4, hk4⟩; obtain ⟨A4, c4, rfl⟩ := hk4.slice; have HX4 := Lib.hid hx4; have HK4 := Lib.hid hk4; clear hx4 hk4)
            obtain ⟨nk, hnk⟩ : ∃ z, z = (keysF L).length := ⟨_, rfl⟩
            have hnk4 : nk ≤ 9223372036854775807 := by rw [hnk]; exact HK4.out.le
            have HNK := Lib.hid hnk
            rw [← hnk] at HK4
            rw [← hnk]
            clear hnk
            go_loopw [115] (fun i wr => ∃ (j : Nat), i = .int .i64 j ∧ j ≤ nk ∧ Hid (Ext w4 wr)) (fun i _ => nk - (intOf i).toNat)
            case atStart => exact ⟨0, rfl, by omega, Lib.hid (Ext.refl _)⟩
            case round =>
              obtain ⟨j, rfl, hj, hXr⟩ := hrel
              by_cases hjn : j < nk
              · have hji : (j : Int) < (nk : Int) := by omega
                obtain ⟨key, hkey⟩ : ∃ key, (keysF L)[j]? = some key := ⟨_, List.getElem?_eq_getElem (by rw [← HNK.out]; exact hjn)⟩
                obtain ⟨g9, c9, hee, k0⟩ := HK4.out.get HNK.out hkey
                cases hee
                obtain ⟨vl, hvl⟩ := keysF_get (List.mem_of_getElem? hkey)
                have hvl2 : ∀ v, getF L key = .inl v → v.length ≤ 1000000 := fun v hv => by
                  obtain ⟨y, hy1, hy2, hy3⟩ := get_kind hv
                  have := (hy1.ok HI.out.1.wf).val
                  rw [hy3] at this
                  omega
                have HG := Lib.hid (gett_any (H3.out.ext (HX4.out.trans hXr.out)) HI.out.1.wf.nb.2 (by have := HI.out.1.wf.nb.1; omega) (wf_ok HI.out.1.wf) key hvl2)
                rw [hvl] at HG
                have d0 := hXr.out.cell k0
                clear hkey k0 hvl hvl2
                generalize wr = wo at *
                go_wp2_with (go_at_call 18; refine HG.out.mono ?_; rintro e w5 ⟨hx5, u5, rfl, hu5⟩; have HX5 := Lib.hid hx5; clear hx5 hu5)
                exact ⟨⟨j + 1, by go_num, by omega, Lib.hid (hXr.out.trans HX5.out)⟩, by simp [intOf]; omega⟩
              · have hji : (nk : Int) ≤ (j : Int) := by omega
                have H9 := Lib.hid (H3.out.ext (HX4.out.trans hXr.out))
                have HX9 := Lib.hid (HX3.out.trans (HX4.out.trans hXr.out))
                clear HK HK4 HNK hXr
                generalize wr = wo at *
                obtain ⟨w5, hw5⟩ : ∃ z, z = wo.alloc (.cells #[.int .u8 120] 5 (1, 2)) := ⟨_, rfl⟩
                have hkc := Lib.run_convert_bytes_const (P := Try.prog) wo 42 5 #[.int .u8 120] 1 1 Try.underlying42 Try.underlying5
                rw [show wo.alloc (.cells #[.int .u8 120] 5 (#[Value.int .u8 120].size, #[Value.int .u8 120].size + 1)) = w5 from hw5.symm] at hkc
                have HX5 := Lib.hid (show Ext wo w5 by rw [hw5]; exact (Ext.refl wo).alloc _)
                have HV5 : Hid (BS w5 (.slice (some ⟨wo.heap.size, 0, none⟩) 1 1) [120]) := Lib.hid (by rw [hw5]; exact bs_laidM wo [120] _)
                have HP := Lib.hid (put_any (key := [97]) (value := [120]) (H9.out.ext HX5.out) HI.out.1 (by simp) (by simp) HV5.out (by have := HI.out.2; omega))
                rw [show st [97] = ⟨#[97]⟩ from rfl] at HP
                obtain ⟨pc, hpc⟩ : ∃ z, z = codeV (putF L [97] [120]).1 := ⟨_, rfl⟩
                rw [← hpc] at HP
                clear hpc
                have HPN := Lib.hid (fun k v w => put_nil k v w)
                have HGN := Lib.hid (fun k w => gett_nil k w)
                have HDN := Lib.hid (fun k w => delete_nil k w)
                have HSN := Lib.hid (fun w => sync_nil w)
                go_upto_region 28 with (go_at_call 16; rw [← hw5]; refine HP.out.mono ?_; rintro e w6 ⟨rfl, hl6⟩; have HL6 := Lib.hid hl6; clear hl6)
                obtain ⟨S6, -, hm6, -⟩ := HL6.out
                have HX6 := Lib.hid (ext_step (HX9.out.trans HX5.out) HS3.out hm6)
                clear hkc hw5 hm6
                go_upto_region 30 with (go_at_call 18; refine (HGN.out _ _).mono ?_; rintro e w7 ⟨rfl, rfl⟩)
                go_upto_region 31 with (first
                  | (go_at_call 16; refine (HPN.out _ _ _).mono ?_; rintro e w7 ⟨rfl, rfl⟩)
                  | (go_at_call 12; refine (HDN.out _ _).mono ?_; rintro e w7 ⟨rfl, rfl⟩)
                  | (go_at_call 22; refine (HSN.out _).mono ?_; rintro e w7 ⟨rfl, rfl⟩))
                obtain ⟨we, hwe⟩ : ∃ z, z = w6.alloc (.cells #[errV 3, errV 3, errV 3, errV 3] 30) := ⟨_, rfl⟩
                obtain ⟨ge, hge⟩ : ∃ z, z = w6.heap.size := ⟨_, rfl⟩
                have HXE := Lib.hid (show Ext W we by rw [hwe]; exact HX6.out.trans ((Ext.refl w6).alloc _))
                have HRE : Hid (RowB we ge 30 [errV 3, errV 3, errV 3, errV 3]) := Lib.hid (by rw [hwe, hge]; exact row_laid w6 _ _)
                rw [← hwe, ← hge]
                clear hwe hge
                have HKN := Lib.hid (fun w => keys_nil w)
                have HFN := Lib.hid (fun w => freeb_nil w)
                have HCN := Lib.hid (fun w => cleaned_nil w)
                have HBN := Lib.hid (fun w => broken_nil w)
                go_loopw [146] (fun i wr => ∃ (j : Nat), i = .int .i64 j ∧ j ≤ 4 ∧ Hid (Ext we wr)) (fun i _ => 4 - (intOf i).toNat)
                case atStart => exact ⟨0, rfl, by omega, Lib.hid (Ext.refl _)⟩
                case round =>
                  obtain ⟨j, rfl, hj, hXr⟩ := hrel
                  by_cases hjn : j < 4
                  · have hji : (j : Int) < 4 := by omega
                    have d0 : wr.cell? ⟨ge, j, none⟩ = some (errV 3) := hXr.out.cell (HRE.out.cell (j := j) (by
                      have : j = 0 ∨ j = 1 ∨ j = 2 ∨ j = 3 := by omega
                      rcases this with rfl | rfl | rfl | rfl <;> rfl))
                    go_wp2_with (go_at_call 13; refine (HI3.out _).mono ?_; rintro e w5 ⟨rfl, rfl⟩)
                    exact ⟨⟨j + 1, by go_num, by omega, hXr⟩, by simp [intOf]; omega⟩
                  · have hji : (4 : Int) ≤ (j : Int) := by omega
                    go_wp2_with (first
                      | (go_at_call 17; refine (HKN.out _).mono ?_; rintro e w7 ⟨rfl, rfl⟩)
                      | (go_at_call 15; refine (HFN.out _).mono ?_; rintro e w7 ⟨rfl, rfl⟩)
                      | (go_at_call 23; refine (HCN.out _).mono ?_; rintro e w7 ⟨rfl, rfl⟩)
                      | (go_at_call 24; refine (HBN.out _).mono ?_; rintro e w7 ⟨rfl, rfl⟩))
                    go_ret
                    exact ⟨rfl, HXE.out.trans hXr.out⟩
  · have hli : (40 : Int) < (len : Int) := by omega
    go_enter Try.func5, Try.ntmps5
    go_upto_region 2 with (go_at_call 9; refine (HAW.out _).mono ?_; rintro e w1 ⟨rfl, hx1⟩; have HX1 := Lib.hid hx1; clear hx1)
    go_wp2_with (go_at_call 9; refine (HAW.out _).mono ?_; rintro e w2 ⟨rfl, hx2⟩; have HX2 := Lib.hid (HX1.out.trans hx2); clear hx2)
    go_ret
    exact ⟨rfl, HX2.out⟩
end Go.Proofs.Ytepigkjgjlibcaa
