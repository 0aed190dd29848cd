/- Chapter 23: package flashlog: an append of an entry; lives. Chapter 23: package flashlog: victim. Chapter 23: package flashlog: spare. Chapter 23: package flashlog: get, Get, Free. -/
import Derived.Test.YtepigkjgjlibcaaGAI
namespace Go.Proofs.Ytepigkjgjlibcaa
open Go.RowKit Go.Deep Go.Proofs.Ytepigkjgjlibcaa.FL
set_option maxRecDepth 100000
/-- 'append(out, e)' of one entry -/
theorem wpList_append_ent (w : World) {ops : Array Oper} {rest : List Oper} {o : Oper} {a : Act} {Q : Exit → Act → World → Prop} (hg : o.guard = none) (s x : Operand)
    (ho : o.op = .call { callee := .builtin .append, args := #[s, x], argTypes := #[83, 83] }) (B : Nat) {v : Value} {l : List Ent} (e : Ent) {A : Option Addr} {c : Nat} (hown : EntsAt w B v l) (hu : BS w (.slice A e.value.length c) e.value) (hs : a.eval s = v)
    (hx : a.eval x = .slice (some ⟨w.heap.size, 0, none⟩) 1 1) (hlen : l.length ≤ 1000000) (hB : B ≤ w.heap.size)
    (h : ∀ v' w', EntsAt w' B v' (l ++ [e]) → Mod (fun y => v.ownBlock = some y) w w' → (v'.ownBlock = v.ownBlock ∨ v'.ownBlock = some (w.heap.size + 1)) → wpList Try.prog ops Q rest (a.put o.dst v') w') :
    wpList Try.prog ops Q (o :: rest) a (w.alloc (.cells #[.int .i64 e.kind, .int .i64 e.number, .int .i64 e.segment, .int .i64 e.pages, .string (st e.key), .slice A e.value.length c] 90)) := by
  obtain ⟨i0, hi0, hz0, hz1, hz2⟩ := info_parts ent_info23
  have XA := (Ext.refl w).alloc (.cells #[.int .i64 e.kind, .int .i64 e.number, .int .i64 e.segment, .int .i64 e.pages, .string (st e.key), .slice A e.value.length c] 90)
  have hea := hown.ext XA
  obtain ⟨es, h1, h2, h3⟩ := hea
  have hrd := reads_laid w 90 [.int .i64 e.kind, .int .i64 e.number, .int .i64 e.segment, .int .i64 e.pages, .string (st e.key), .slice A e.value.length c] 6 1 rfl
  refine wpList_append_any _ hg s x 83 ho B 90 i0 _ 6 72 Try.underlying83 hi0 hz0 hz1 hz2 rfl (by decide) v l.length ((l.zip es).flatMap entCells) hs h2 _ (some ⟨w.heap.size, 0, none⟩) 1 1 _ hx hrd (by simp [Value.oneCell']) (by simp only [maxLen]; omega) (by omega) (Nat.le_trans hB XA.size) ?_
  intro v' w' ho' hg' hb'
  refine h v' w' (EntsAt.push h1 h3 (grown_mod hg') (hown.ext XA).no8 (hu.ext XA) ho') ((Mod.of_ext _ XA).trans (grown_mod hg')) ?_
  have hsz : (w.alloc (.cells #[.int .i64 e.kind, .int .i64 e.number, .int .i64 e.segment, .int .i64 e.pages, .string (st e.key), .slice A e.value.length c] 90)).heap.size = w.heap.size + 1 := by simp
  rw [hsz] at hb'
  exact hb'
theorem EntsAt.base {w : World} {B : Nat} {v : Value} {l : List Ent} (h : EntsAt w B v l) : ∀ x, v.ownBlock = some x → B ≤ x := fun _ hx => (h.blk hx).2
def liveP (L : Log) (i : Nat) (key : Bs) (p : Ent × Nat) : Bool := decide (p.1.key ≠ key) && liveF L i p.2 p.1
def livesTo (L : Log) (i : Nat) (key : Bs) (b : LB) (k : Nat) : List Ent := (((b.entries.zipIdx).take k).filter (liveP L i key)).map (·.1)
theorem livesF_eq {L : Log} {i : Nat} {b : LB} (hb : L.blocks[i]? = some b) (key : Bs) : livesF L i key = livesTo L i key b b.entries.length := by
  unfold livesF livesTo
  rw [hb, List.take_of_length_le (by rw [List.length_zipIdx]; exact Nat.le_refl _)]
  rfl
theorem livesTo_succ {L : Log} {i k : Nat} {b : LB} {x : Ent} (hx : b.entries[k]? = some x) (key : Bs) : livesTo L i key b (k + 1) = livesTo L i key b k ++ (if liveP L i key (x, k) then [x] else []) := by
  unfold livesTo
  rw [List.take_add_one, List.getElem?_zipIdx, hx]
  simp only [Option.map_some, Nat.zero_add, Option.toList_some, List.filter_append, List.map_append]
  congr 1
  rw [List.filter_cons, List.filter_nil]
  split <;> rfl
theorem livesTo_len (L : Log) (i : Nat) (key : Bs) (b : LB) (k : Nat) : (livesTo L i key b k).length ≤ b.entries.length := by
  unfold livesTo
  rw [List.length_map]
  refine Nat.le_trans (List.length_filter_le _ _) ?_
  rw [List.length_take, List.length_zipIdx]
  exact Nat.min_le_right _ _
theorem livesTo_mem {L : Log} {i : Nat} {key : Bs} {b : LB} {k : Nat} {e : Ent} (h : e ∈ livesTo L i key b k) : e ∈ b.entries := by
  unfold livesTo at h
  obtain ⟨p, hp, rfl⟩ := List.mem_map.1 h
  have h2 := List.mem_of_mem_take (List.mem_filter.1 hp).1
  obtain ⟨j, hj⟩ := List.getElem?_of_mem h2
  rw [List.getElem?_zipIdx] at hj
  cases hb : b.entries[j]? with
  | none => rw [hb] at hj; cases hj
  | some y => rw [hb] at hj; cases hj; exact List.mem_of_getElem? hb
theorem pagesOf_le {l : List Ent} {n : Nat} (h : ∀ e ∈ l, e.pages ≤ n) : pagesOf l ≤ n * l.length := by
  induction l with
  | nil => simp [pagesOf]
  | cons x r ih =>
    have h1 := ih (fun e he => h e (List.mem_cons_of_mem _ he))
    have h2 := h x (List.mem_cons_self ..)
    unfold pagesOf at h1 ⊢
    rw [List.map_cons, List.sum_cons, List.length_cons, Nat.mul_succ]
    omega
theorem pagesOf_snoc (l : List Ent) (x : Ent) : pagesOf (l ++ [x]) = pagesOf l + x.pages := by
  unfold pagesOf
  rw [List.map_append, List.sum_append]
  simp
/-- the bounds of the entries -/
def EntsOk (L : Log) : Prop := ∀ b ∈ L.blocks, b.entries.length ≤ 32 ∧ ∀ e ∈ b.entries, e.pages ≤ 32
set_option maxHeartbeats 4000000 in
theorem lives_any {w : World} {l g c : Nat} {L : Log} (h : LogV w l g c L) (hb : L.blocks.length ≤ 64) (hok : EntsOk L) {i : Nat} {b : LB} (hi : L.blocks[i]? = some b) (key : Bs) :
    Calls Try.prog 62 #[.pointer (some ⟨l, 0, none⟩), .int .i64 i, .string (st key)] w fun e' w' => ∃ v, e' = .returned (.tuple #[v, .int .i64 (pagesOf (livesF L i key))]) ∧ Ext w w' ∧ EntsAt w' w.heap.size v (livesF L i key) := by
  obtain ⟨n, hn⟩ : ∃ n, n = L.blocks.length := ⟨_, rfl⟩
  have HN := Lib.hid hn
  have HV := Lib.hid h
  have HI := Lib.hid hi
  have hel : ∀ b ∈ L.blocks, b.entries.length ≤ 32 := fun b hb => (hok b hb).1
  have HLF := Lib.hid (livesF_eq hi key)
  have HPG := Lib.hid (hok b (List.mem_of_getElem? hi)).2
  have hn64 : n ≤ 64 := by omega
  have hii : (i : Int) < (n : Int) := by have := (List.getElem?_eq_some_iff.1 hi).1; omega
  have c1 := h.c1
  rw [← hn] at c1
  obtain ⟨m, hm⟩ : ∃ m, m = b.entries.length := ⟨_, rfl⟩
  have hm32 : m ≤ 32 := by rw [hm]; exact hel b (List.mem_of_getElem? hi)
  obtain ⟨A, ca, he0, b0, b1, b2, b3⟩ := h.blk i b hi
  rw [← hm] at b3
  have HEN := Lib.hid he0
  rw [← hm] at HEN
  have HM := Lib.hid hm
  have HLV := Lib.hid (fun W (hX : Ext w W) k x (hx : b.entries[k]? = some x) => live_any (h.ext hX) hb hel (show EAt L (i, k, x) from ⟨b, hi, hx⟩))
  clear hn h hb hel hi he0 hm hok
  go_enter Try.func62, Try.ntmps62
  go_wp2_with fail
  go_loopw [8, 9, 21] (fun v8 v9 i' wr => ∃ (k : Nat), i' = .int .i64 k ∧ k ≤ m ∧ v9 = .int .i64 (pagesOf (livesTo L i key b k)) ∧ Hid (Ext w wr) ∧ Hid (EntsAt wr w.heap.size v8 (livesTo L i key b k))) (fun _ _ i' _ => m - (intOf i').toNat)
  case atStart => exact ⟨0, rfl, by omega, rfl, Lib.hid (Ext.refl _), Lib.hid (EntsAt.nil _ _)⟩
  case round =>
    obtain ⟨k, rfl, hk, rfl, hX, hO⟩ := hrel
    obtain ⟨A8, c8, rfl⟩ := hO.out.slice
    clear c1 b0 b1 b2 b3
    obtain ⟨sp, hsp⟩ : ∃ z, z = pagesOf (livesTo L i key b k) := ⟨_, rfl⟩
    have hspb : sp ≤ 1024 := by
      have h1 := pagesOf_le (l := livesTo L i key b k) (n := 32) (fun e he => HPG.out e (livesTo_mem he))
      have h2 := livesTo_len L i key b k
      have h3 := HM.out
      omega
    have HSP := Lib.hid hsp
    rw [← hsp]
    clear hsp
    by_cases hkn : k < m
    · have hki : (k : Int) < (m : Int) := by omega
      obtain ⟨x, hx⟩ : ∃ x, b.entries[k]? = some x := ⟨_, List.getElem?_eq_getElem (by rw [← HM.out]; exact hkn)⟩
      have HQ := Lib.hid hx
      obtain ⟨ge, ce, hee⟩ := HEN.out.addr (by intro h9; have := HM.out; rw [h9] at this; simp at this; omega)
      rw [← HM.out] at hee
      cases hee
      obtain ⟨Ax, cx, hbs, x0, x1, x2, x3, x4, x5⟩ := (HEN.out.ext hX.out).at_ hx
      have hxp : x.pages ≤ 32 := HPG.out x (List.mem_of_getElem? hx)
      clear hx
      go_upto_region 6 with fail
      obtain ⟨w3, hw3⟩ : ∃ z, z = wr.alloc (.cells #[.int .i64 x.kind, .int .i64 x.number, .int .i64 x.segment, .int .i64 x.pages, .string (st x.key), .slice Ax x.value.length cx] 90) := ⟨_, rfl⟩
      have HX3 := Lib.hid (show Ext wr w3 by rw [hw3]; exact (Ext.refl wr).alloc _)
      have HR3 : Hid (RowB w3 wr.heap.size 90 [.int .i64 x.kind, .int .i64 x.number, .int .i64 x.segment, .int .i64 x.pages, .string (st x.key), .slice Ax x.value.length cx]) := Lib.hid (by rw [hw3]; exact row_laid wr _ _)
      have HBS := Lib.hid (hbs.ext HX3.out)
      rw [← hw3]
      clear hw3 x0 x1 x2 x3 x4 x5 hbs
      have HSU := Lib.hid (livesTo_succ (L := L) (i := i) HQ.out key)
      have x0 := (HR3.out).cell (j := 0) rfl
      have x1 := (HR3.out).cell (j := 1) rfl
      have x2 := (HR3.out).cell (j := 2) rfl
      have x3 := (HR3.out).cell (j := 3) rfl
      have x4 := (HR3.out).cell (j := 4) rfl
      have x5 := (HR3.out).cell (j := 5) rfl
      by_cases hke : x.key = key
      · have HP := Lib.hid (show livesTo L i key b (k + 1) = livesTo L i key b k by rw [HSU.out, show liveP L i key (x, k) = false by unfold liveP; rw [decide_eq_false (fun h9 => h9 hke)]; rfl, if_neg (by simp), List.append_nil])
        have hkf : (x.key != key) = false := by rw [hke]; simp
        go_wp2_with fail
        exact ⟨⟨k + 1, by go_num, by omega, by rw [HP.out, HSP.out], Lib.hid (hX.out.trans HX3.out), Lib.hid (by rw [HP.out]; exact hO.out.ext HX3.out)⟩, by simp [intOf]; omega⟩
      · have hkf : (x.key == key) = false := by rw [beq_eq_false_iff_ne]; exact hke
        have HKE := Lib.hid hke
        clear hke
        have HL1 := Lib.hid (HLV.out w3 (hX.out.trans HX3.out) k x HQ.out)
        cases hlv : liveF L i k x with
        | false =>
          rw [hlv] at HL1
          have HP := Lib.hid (show livesTo L i key b (k + 1) = livesTo L i key b k by rw [HSU.out, show liveP L i key (x, k) = false by unfold liveP; simp only; rw [hlv, Bool.and_false], if_neg (by simp), List.append_nil])
          clear hlv
          go_wp2_with (go_at_call 55; refine HL1.out.mono ?_; rintro e w4 ⟨rfl, hx4⟩; have HX4 := Lib.hid hx4; clear hx4)
          exact ⟨⟨k + 1, by go_num, by omega, by rw [HP.out, HSP.out], Lib.hid (hX.out.trans (HX3.out.trans HX4.out)), Lib.hid (by rw [HP.out]; exact hO.out.ext (HX3.out.trans HX4.out))⟩, by simp [intOf]; omega⟩
        | true =>
          rw [hlv] at HL1
          have HP := Lib.hid (show livesTo L i key b (k + 1) = livesTo L i key b k ++ [x] by rw [HSU.out, show liveP L i key (x, k) = true by unfold liveP; simp only; rw [hlv, decide_eq_true HKE.out]; rfl, if_pos rfl])
          clear hlv
          have HOL := Lib.hid (show (livesTo L i key b k).length ≤ 1000000 by have := livesTo_len L i key b k; have := HM.out; omega)
          go_upto_region 8 with (first
            | (at_builtin; refine wpList_append_ent w4 rfl _ _ rfl w.heap.size x HO4.out HBS4.out rfl rfl HOL.out HSZ.out ?_; intro v6 w6 hn6 hm6 _; have HN6 := Lib.hid hn6; have HM6 := Lib.hid hm6; have e3 := (hm6.rowB HR4.out (fun e9 => by have h1 := (hO.out.blk e9).1; obtain ⟨C, h1⟩ := h1; have h2 := (Array.getElem?_eq_some_iff.1 h1).1; omega)).cell (j := 3) rfl; clear hn6 hm6)
            | (go_at_call 55; refine HL1.out.mono ?_; rintro e w4 ⟨rfl, hx4⟩; have HX4 := Lib.hid hx4; have HR4 := Lib.hid (HR3.out.ext hx4); have HO4 := Lib.hid (hO.out.ext (HX3.out.trans hx4)); have HBS4 := Lib.hid (HBS.out.ext hx4); have HSZ := Lib.hid (show w.heap.size ≤ w4.heap.size from (hX.out.trans (HX3.out.trans hx4)).size); have x0' := HR4.out.cell (j := 0) rfl; have x1' := HR4.out.cell (j := 1) rfl; have x2' := HR4.out.cell (j := 2) rfl; have x3' := HR4.out.cell (j := 3) rfl; have x4' := HR4.out.cell (j := 4) rfl; have x5' := HR4.out.cell (j := 5) rfl; clear hx4))
          have HX6 := Lib.hid (show Ext w w6 from ((Mod.of_ext (fun _ => False) (hX.out.trans (HX3.out.trans HX4.out))).then HM6.out (fun y hy => .inr (HO4.out.base y hy))).ext (fun _ h => h.elim))
          go_wp2_with fail
          exact ⟨⟨k + 1, by go_num, by omega, by rw [HP.out, pagesOf_snoc, ← HSP.out]; go_num, HX6, Lib.hid (by rw [HP.out]; exact HN6.out)⟩, by simp [intOf]; omega⟩
    · have hki : (m : Int) ≤ (k : Int) := by omega
      obtain rfl : m = k := by omega
      have HF := Lib.hid (show livesF L i key = livesTo L i key b m by rw [HLF.out, HM.out])
      go_wp2_with fail
      go_ret2
      rw [HF.out]
      exact ⟨_, by rw [HSP.out]; rfl, hX.out, hO.out⟩
end Go.Proofs.Ytepigkjgjlibcaa
namespace Go.Proofs.Ytepigkjgjlibcaa
open Go.RowKit Go.Deep Go.Proofs.Ytepigkjgjlibcaa.FL
set_option maxRecDepth 100000
def vicTo (L : Log) (key : Bs) (k : Nat) : Option (Nat × Nat) := (L.blocks.zipIdx.take k).foldl (victimStep L key) none
theorem victimF_eq (L : Log) (key : Bs) : victimF L key = vicTo L key L.blocks.length := by
  unfold victimF vicTo
  rw [List.take_of_length_le (by rw [List.length_zipIdx]; exact Nat.le_refl _)]
theorem take_zip_succ {α β : Type} {l : List α} {k : Nat} {x : α} (f : β → α × Nat → β) (s : β) (h : l[k]? = some x) : (l.zipIdx.take (k + 1)).foldl f s = f ((l.zipIdx.take k).foldl f s) (x, k) := by
  rw [List.take_add_one, List.getElem?_zipIdx, h]
  simp only [Option.map_some, Nat.zero_add, Option.toList_some, List.foldl_append, List.foldl_cons, List.foldl_nil]
theorem vicTo_succ {L : Log} {k : Nat} {b : LB} (h : L.blocks[k]? = some b) (key : Bs) : vicTo L key (k + 1) = victimStep L key (vicTo L key k) (b, k) := take_zip_succ _ _ h
def vicPick (L : Log) (sg k p : Nat) (acc : Option (Nat × Nat)) : Option (Nat × Nat) := match acc with
  | none => some (k, p)
  | some y => if p < y.2 ∨ p = y.2 ∧ sg < segOf L y.1 then some (k, p) else some y
theorem victimStep_zero {L : Log} {key : Bs} {s : Option (Nat × Nat)} {b : LB} {k : Nat} (hz : b.next = 0) : victimStep L key s (b, k) = s := by
  unfold victimStep
  rw [if_pos hz]
theorem victimStep_pos {L : Log} {key : Bs} {s : Option (Nat × Nat)} {b : LB} {k : Nat} (hz : ¬ b.next = 0) : victimStep L key s (b, k) = vicPick L b.segment k (pagesOf (livesF L k key)) s := by
  unfold victimStep
  rw [if_neg hz]
  cases s <;> rfl
def vI : Option (Nat × Nat) → Int
  | none => -1
  | some y => y.1
def vN : Option (Nat × Nat) → Int
  | none => 0
  | some y => y.2
theorem vic_lt {L : Log} {key : Bs} {k : Nat} {y : Nat × Nat} (h : vicTo L key k = some y) : y.1 < k ∧ y.1 < L.blocks.length ∧ y.2 = pagesOf (livesF L y.1 key) := by
  induction k with
  | zero => unfold vicTo at h; rw [List.take_zero] at h; cases h
  | succ k ih =>
    by_cases hk : k < L.blocks.length
    · rw [vicTo_succ (List.getElem?_eq_getElem hk)] at h
      by_cases hz : L.blocks[k].next = 0
      · rw [victimStep_zero hz] at h
        have := ih h
        exact ⟨by omega, this.2⟩
      · rw [victimStep_pos hz] at h
        unfold vicPick at h
        cases heq : vicTo L key k with
        | none => rw [heq] at h; cases h; exact ⟨Nat.lt_succ_self _, hk, rfl⟩
        | some z =>
          rw [heq] at h
          simp only at h
          split at h
          · cases h; exact ⟨Nat.lt_succ_self _, hk, rfl⟩
          · cases h; have := ih heq; exact ⟨by omega, this.2⟩
    · have e : vicTo L key (k + 1) = vicTo L key k := by
        unfold vicTo
        rw [List.take_of_length_le (by rw [List.length_zipIdx]; omega), List.take_of_length_le (by rw [List.length_zipIdx]; omega)]
      rw [e] at h
      have := ih h
      exact ⟨by omega, this.2⟩
theorem lives_pages {L : Log} (hok : EntsOk L) {i : Nat} {b : LB} (hb : L.blocks[i]? = some b) (key : Bs) : pagesOf (livesF L i key) ≤ 1024 := by
  rw [livesF_eq hb]
  have h0 := hok b (List.mem_of_getElem? hb)
  have h1 := pagesOf_le (l := livesTo L i key b b.entries.length) (n := 32) (fun e he => h0.2 e (livesTo_mem he))
  have h2 := livesTo_len L i key b b.entries.length
  omega
set_option maxHeartbeats 4000000 in
theorem victim_any {w : World} {l g c : Nat} {L : Log} (h : LogV w l g c L) (hb : L.blocks.length ≤ 64) (hok : EntsOk L) (key : Bs) :
    Calls Try.prog 41 #[.pointer (some ⟨l, 0, none⟩), .string (st key)] w fun e' w' => e' = .returned (.tuple #[.int .i64 (vI (victimF L key)), .int .i64 (vN (victimF L key))]) ∧ Ext w w' := by
  obtain ⟨n, hn⟩ : ∃ n, n = L.blocks.length := ⟨_, rfl⟩
  have HN := Lib.hid hn
  have HV := Lib.hid h
  have HOK := Lib.hid hok
  have HB64 := Lib.hid hb
  have hn64 : n ≤ 64 := by omega
  have c1 := h.c1
  rw [← hn] at c1
  clear hn h hb hok
  go_enter Try.func41, Try.ntmps41
  go_upto_region 2 with fail
  go_wp2_with fail
  go_loopw [6, 7, 17] (fun v6 v7 i' wr => ∃ (k : Nat), i' = .int .i64 k ∧ k ≤ n ∧ v6 = .int .i64 (vI (vicTo L key k)) ∧ v7 = .int .i64 (vN (vicTo L key k)) ∧ Hid (Ext w wr)) (fun _ _ i' _ => n - (intOf i').toNat)
  case atStart => exact ⟨0, rfl, by omega, rfl, rfl, Lib.hid (Ext.refl _)⟩
  case round =>
    obtain ⟨k, rfl, hk, rfl, rfl, hX⟩ := hrel
    obtain ⟨acc, hacc⟩ : ∃ z, z = vicTo L key k := ⟨_, rfl⟩
    have HA := Lib.hid hacc
    rw [← hacc]
    clear hacc
    by_cases hkn : k < n
    · have hki : (k : Int) < (n : Int) := by omega
      obtain ⟨b, hb⟩ : ∃ b, L.blocks[k]? = some b := ⟨_, List.getElem?_eq_getElem (by rw [← HN.out]; exact hkn)⟩
      obtain ⟨A, ca, he0, b0, b1, b2, b3⟩ := (HV.out.ext hX.out).blk k b hb
      have HB := Lib.hid hb
      have HST := Lib.hid (vicTo_succ hb key)
      rw [← HA.out] at HST
      have HLV := Lib.hid (fun W (hX : Ext w W) => lives_any (HV.out.ext hX) HB64.out HOK.out hb key)
      obtain ⟨p, hp⟩ : ∃ z, z = pagesOf (livesF L k key) := ⟨_, rfl⟩
      have hp1 : p ≤ 1024 := by rw [hp]; exact lives_pages HOK.out hb key
      rw [← hp] at HLV
      have HPP := Lib.hid hp
      clear he0 hb hp
      go_upto_region 5 with fail
      obtain ⟨w2, hw2⟩ : ∃ z, z = wr.alloc (.cells #[.int .i64 b.next, .int .i64 b.segment, .int .i64 b.number, .slice A b.entries.length ca] 85) := ⟨_, rfl⟩
      have HX2 := Lib.hid (show Ext wr w2 by rw [hw2]; exact (Ext.refl wr).alloc _)
      have HRB : Hid (RowB w2 wr.heap.size 85 [.int .i64 b.next, .int .i64 b.segment, .int .i64 b.number, .slice A b.entries.length ca]) := Lib.hid (by rw [hw2]; exact row_laid wr _ _)
      rw [← hw2]
      clear hw2 b0 b1 b2 b3
      have d0 := HRB.out.cell (j := 0) rfl
      by_cases hz : b.next = 0
      · have hzb : ((b.next : Int) == 0) = true := by rw [hz]; rfl
        have HP := Lib.hid (show vicTo L key (k + 1) = acc by rw [HST.out, victimStep_zero hz])
        clear hz
        go_wp2_with fail
        exact ⟨⟨k + 1, by go_num, by omega, by rw [HP.out], by rw [HP.out], Lib.hid (hX.out.trans HX2.out)⟩, by simp [intOf]; omega⟩
      · have hzb : ((b.next : Int) == 0) = false := by rw [beq_eq_false_iff_ne]; omega
        have HP := Lib.hid (show vicTo L key (k + 1) = vicPick L b.segment k p acc by rw [HST.out, victimStep_pos hz, HPP.out])
        clear hz HST
        go_upto_region 7 with (go_at_call 62; refine (HLV.out w2 (hX.out.trans HX2.out)).mono ?_; rintro e w3 ⟨v3, rfl, hx3, -⟩)
        have HX3 := Lib.hid (hX.out.trans (HX2.out.trans hx3))
        have d1 := (HRB.out.ext hx3).cell (j := 1) rfl
        clear d0 hx3
        cases acc with
        | none =>
          rw [show vI none = -1 from rfl, show vN none = 0 from rfl]
          go_quiet (fail)
          go_wp2_with fail
          exact ⟨⟨k + 1, by go_num, by omega, by rw [HP.out]; rfl, by rw [HP.out]; rfl, Lib.hid (HX3.out.drewN _)⟩, by simp [intOf]; omega⟩
        | some y =>
          have hyl := vic_lt HA.out.symm
          obtain ⟨b2, hb2⟩ : ∃ b2, L.blocks[y.1]? = some b2 := ⟨_, List.getElem?_eq_getElem hyl.2.1⟩
          obtain ⟨A2, ca2, -, -, s1, -, -⟩ := (HV.out.ext HX3.out).blk _ _ hb2
          have HSB := Lib.hid (segOf_at hb2)
          have hy1 : ((y.1 : Nat) : Int) < (n : Int) := by have := hyl.2.1; have := HN.out; omega
          have hy0 : ¬ ((y.1 : Nat) : Int) < 0 := by omega
          have d2 := (HV.out.ext HX3.out).c1
          rw [← HN.out] at d2
          clear hyl hb2
          rw [show vI (some y) = ((y.1 : Nat) : Int) from rfl, show vN (some y) = ((y.2 : Nat) : Int) from rfl]
          rw [show vicPick L b.segment k p (some y) = (if p < y.2 ∨ p = y.2 ∧ b.segment < segOf L y.1 then some (k, p) else some y) from rfl] at HP
          rcases Nat.lt_trichotomy p y.2 with hlt | hlt | hlt
          · have g1 : decide (p < y.2) = true := decide_eq_true hlt
            rw [if_pos (.inl hlt)] at HP
            clear hlt
            go_quiet (fail)
            go_wp2_with fail
            exact ⟨⟨k + 1, by go_num, by omega, by rw [HP.out]; rfl, by rw [HP.out]; rfl, Lib.hid (HX3.out.drewN _)⟩, by simp [intOf]; omega⟩
          · have g1 : decide (p < y.2) = false := decide_eq_false (by omega)
            have g2 : ((p : Int) == (y.2 : Int)) = true := by rw [hlt]; simp
            by_cases hsg : b.segment < b2.segment
            · have g3 : decide (b.segment < b2.segment) = true := decide_eq_true hsg
              rw [if_pos (.inr ⟨hlt, by rw [HSB.out]; exact hsg⟩)] at HP
              clear hlt hsg
              go_quiet (fail)
              go_wp2_with fail
              exact ⟨⟨k + 1, by go_num, by omega, by rw [HP.out]; rfl, by rw [HP.out]; rfl, Lib.hid (HX3.out.drewN _)⟩, by simp [intOf]; omega⟩
            · have g3 : decide (b.segment < b2.segment) = false := decide_eq_false hsg
              rw [if_neg (by rw [HSB.out]; omega)] at HP
              clear hlt hsg
              go_quiet (fail)
              go_wp2_with fail
              exact ⟨⟨k + 1, by go_num, by omega, by rw [HP.out]; rfl, by rw [HP.out]; rfl, Lib.hid (HX3.out.drewN _)⟩, by simp [intOf]; omega⟩
          · have g1 : decide (p < y.2) = false := decide_eq_false (by omega)
            have g2 : ((p : Int) == (y.2 : Int)) = false := by rw [beq_eq_false_iff_ne]; omega
            rw [if_neg (by omega)] at HP
            clear hlt
            go_quiet (fail)
            go_wp2_with fail
            exact ⟨⟨k + 1, by go_num, by omega, by rw [HP.out]; rfl, by rw [HP.out]; rfl, Lib.hid (HX3.out.drewN _)⟩, by simp [intOf]; omega⟩
    · have hki : (n : Int) ≤ (k : Int) := by omega
      obtain rfl : n = k := by omega
      have HF := Lib.hid (show victimF L key = acc by rw [victimF_eq, ← HN.out, HA.out])
      go_wp2_with fail
      go_ret2
      rw [HF.out]
      exact ⟨rfl, hX.out⟩
end Go.Proofs.Ytepigkjgjlibcaa
namespace Go.Proofs.Ytepigkjgjlibcaa
open Go.RowKit Go.Deep Go.Proofs.Ytepigkjgjlibcaa.FL
set_option maxRecDepth 100000
def spTo (L : Log) (k : Nat) : Option Nat × Nat := (L.blocks.zipIdx.take k).foldl (spareStep L) (none, 0)
def spRes : Option Nat × Nat → Nat
  | (some b, _) => b
  | (none, last) => last
theorem spareF_eq (L : Log) : spareF L = spRes (spTo L L.blocks.length) := by
  unfold spareF spTo
  rw [List.take_of_length_le (by rw [List.length_zipIdx]; exact Nat.le_refl _)]
  rcases (L.blocks.zipIdx.foldl (spareStep L) (none, 0)) with ⟨o, last⟩
  cases o <;> rfl
theorem spTo_succ {L : Log} {k : Nat} {b : LB} (h : L.blocks[k]? = some b) : spTo L (k + 1) = spareStep L (spTo L k) (b, k) := take_zip_succ _ _ h
def spQ (L : Log) (i : Nat) (p : Ent × Nat) : Bool := liveF L i p.2 p.1 && !elsewhereF L i p.1.kind p.1.number p.1.key true
def spCnt (L : Log) (i : Nat) (b : LB) (k : Nat) : List Ent := (((b.entries.zipIdx).take k).filter (spQ L i)).map (·.1)
theorem spareCount_eq (L : Log) (i : Nat) (b : LB) : spareCount L i b = pagesOf (spCnt L i b b.entries.length) := by
  unfold spareCount spCnt
  rw [List.take_of_length_le (by rw [List.length_zipIdx]; exact Nat.le_refl _)]
  rfl
theorem spCnt_succ {L : Log} {i k : Nat} {b : LB} {x : Ent} (hx : b.entries[k]? = some x) : spCnt L i b (k + 1) = spCnt L i b k ++ (if spQ L i (x, k) then [x] else []) := by
  unfold spCnt
  rw [List.take_add_one, List.getElem?_zipIdx, hx]
  simp only [Option.map_some, Nat.zero_add, Option.toList_some, List.filter_append, List.map_append]
  congr 1
  rw [List.filter_cons, List.filter_nil]
  split <;> rfl
theorem spCnt_len (L : Log) (i : Nat) (b : LB) (k : Nat) : (spCnt L i b k).length ≤ b.entries.length := by
  unfold spCnt
  rw [List.length_map]
  refine Nat.le_trans (List.length_filter_le _ _) ?_
  rw [List.length_take, List.length_zipIdx]
  exact Nat.min_le_right _ _
theorem spCnt_mem {L : Log} {i : Nat} {b : LB} {k : Nat} {e : Ent} (h : e ∈ spCnt L i b k) : e ∈ b.entries := by
  unfold spCnt at h
  obtain ⟨p, hp, rfl⟩ := List.mem_map.1 h
  have h2 := List.mem_of_mem_take (List.mem_filter.1 hp).1
  obtain ⟨j, hj⟩ := List.getElem?_of_mem h2
  rw [List.getElem?_zipIdx] at hj
  cases hb : b.entries[j]? with
  | none => rw [hb] at hj; cases hj
  | some y => rw [hb] at hj; cases hj; exact List.mem_of_getElem? hb
def sI : Option Nat → Int
  | none => -1
  | some y => y
/-- the better block -/
def spBest (L : Log) (sg k c : Nat) : Option Nat → Option Nat
  | none => if c = 0 then some k else none
  | some y => if c = 0 ∧ sg < segOf L y then some k else some y
def spLast (L : Log) (sg k last : Nat) : Nat := if segOf L last < sg then k else last
theorem spareStep_eq (L : Log) (s : Option Nat × Nat) (b : LB) (k : Nat) : spareStep L s (b, k) = (spBest L b.segment k (spareCount L k b) s.1, spLast L b.segment k s.2) := by
  unfold spareStep spLast
  obtain ⟨o, last⟩ := s
  cases o with
  | none => simp only [spBest, Bool.and_true, decide_eq_true_eq]
  | some y => simp only [spBest, Bool.and_eq_true, decide_eq_true_eq]
theorem spTo_lt (L : Log) (k : Nat) : (∀ y, (spTo L k).1 = some y → y < L.blocks.length) ∧ ((spTo L k).2 = 0 ∨ (spTo L k).2 < L.blocks.length) := by
  induction k with
  | zero =>
    unfold spTo
    rw [List.take_zero]
    exact ⟨fun y h => (by cases h), .inl rfl⟩
  | succ k ih =>
    by_cases hk : k < L.blocks.length
    · rw [spTo_succ (List.getElem?_eq_getElem hk), spareStep_eq]
      constructor
      · intro y hy
        simp only at hy
        cases ho : (spTo L k).1 with
        | none =>
          rw [ho] at hy
          unfold spBest at hy
          simp only at hy
          split at hy
          · cases hy; exact hk
          · cases hy
        | some z =>
          rw [ho] at hy
          unfold spBest at hy
          simp only at hy
          split at hy
          · cases hy; exact hk
          · cases hy; exact ih.1 _ ho
      · simp only
        unfold spLast
        split
        · exact .inr hk
        · exact ih.2
    · have e : spTo L (k + 1) = spTo L k := by
        unfold spTo
        rw [List.take_of_length_le (by rw [List.length_zipIdx]; omega), List.take_of_length_le (by rw [List.length_zipIdx]; omega)]
      rw [e]
      exact ih
set_option maxHeartbeats 8000000 in
theorem spare_any {w : World} {l g c : Nat} {L : Log} (h : LogV w l g c L) (hb : L.blocks.length ≤ 64) (hb0 : 0 < L.blocks.length) (hok : EntsOk L) :
    Calls Try.prog 36 #[.pointer (some ⟨l, 0, none⟩)] w fun e' w' => e' = .returned (.int .i64 (spareF L)) ∧ Ext w w' := by
  obtain ⟨n, hn⟩ : ∃ n, n = L.blocks.length := ⟨_, rfl⟩
  have HN := Lib.hid hn
  have HV := Lib.hid h
  have HOK := Lib.hid hok
  have HB64 := Lib.hid hb
  have hel : ∀ b ∈ L.blocks, b.entries.length ≤ 32 := fun b hb => (hok b hb).1
  have HEL := Lib.hid hel
  have hn64 : n ≤ 64 := by omega
  have hn0 : 0 < n := by omega
  have c1 := h.c1
  rw [← hn] at c1
  clear hn h hb hok hel hb0
  go_enter Try.func36, Try.ntmps36
  go_upto_region 2 with fail
  go_wp2_with fail
  go_loopw [3, 4, 15] (fun v3 v4 i' wr => ∃ (k : Nat), i' = .int .i64 k ∧ k ≤ n ∧ v3 = .int .i64 (sI (spTo L k).1) ∧ v4 = .int .i64 (spTo L k).2 ∧ Hid (Ext w wr)) (fun _ _ i' _ => n - (intOf i').toNat)
  case atStart => exact ⟨0, rfl, by omega, rfl, rfl, Lib.hid (Ext.refl _)⟩
  case round =>
    obtain ⟨k, rfl, hk, rfl, rfl, hX⟩ := hrel
    obtain ⟨acc, hacc⟩ : ∃ z, z = (spTo L k).1 := ⟨_, rfl⟩
    obtain ⟨last, hlast⟩ : ∃ z, z = (spTo L k).2 := ⟨_, rfl⟩
    have hslt := spTo_lt L k
    have HA := Lib.hid (And.intro hacc hlast)
    rw [← hacc, ← hlast] at hslt
    rw [← hacc, ← hlast]
    have hll : last < n := by have := HN.out; rcases hslt.2 with h9 | h9 <;> omega
    have HSL := Lib.hid hslt.1
    clear hacc hlast hslt
    by_cases hkn : k < n
    · have hki : (k : Int) < (n : Int) := by omega
      obtain ⟨b, hb⟩ : ∃ b, L.blocks[k]? = some b := ⟨_, List.getElem?_eq_getElem (by rw [← HN.out]; exact hkn)⟩
      obtain ⟨A, ca, he0, b0, b1, b2, b3⟩ := (HV.out.ext hX.out).blk k b hb
      have HEN := Lib.hid he0
      have HB := Lib.hid hb
      have HST := Lib.hid (show spTo L (k + 1) = (spBest L b.segment k (pagesOf (spCnt L k b b.entries.length)) acc, spLast L b.segment k last) by rw [spTo_succ hb, spareStep_eq, spareCount_eq, HA.out.1, HA.out.2])
      obtain ⟨m, hm⟩ : ∃ m, m = b.entries.length := ⟨_, rfl⟩
      have hm32 : m ≤ 32 := by rw [hm]; exact HEL.out b (List.mem_of_getElem? hb)
      have HPG := Lib.hid (HOK.out b (List.mem_of_getElem? hb)).2
      rw [← hm] at b3 HEN HST
      have HM := Lib.hid hm
      have HLV := Lib.hid (fun W (hX : Ext w W) q x (hx : b.entries[q]? = some x) => live_any (HV.out.ext hX) HB64.out HEL.out (show EAt L (k, q, x) from ⟨b, hb, hx⟩))
      have HLE := Lib.hid (fun W (hX : Ext w W) (x : Ent) v => elsewhere_any (HV.out.ext hX) HB64.out HEL.out k x v true)
      clear he0 hb hm
      generalize wr = wo at *
      go_upto_region 7 with fail
      obtain ⟨w2, hw2⟩ : ∃ z, z = wo.alloc (.cells #[.int .i64 b.next, .int .i64 b.segment, .int .i64 b.number, .slice A m ca] 85) := ⟨_, rfl⟩
      have HX2 := Lib.hid (show Ext wo w2 by rw [hw2]; exact (Ext.refl wo).alloc _)
      have HRB : Hid (RowB w2 wo.heap.size 85 [.int .i64 b.next, .int .i64 b.segment, .int .i64 b.number, .slice A m ca]) := Lib.hid (by rw [hw2]; exact row_laid wo _ _)
      rw [← hw2]
      clear hw2 b0 b1 b2 b3
      go_loopw [7, 23] (fun v7 j wr => ∃ q : Nat, j = .int .i64 q ∧ q ≤ m ∧ v7 = .int .i64 (pagesOf (spCnt L k b q)) ∧ Hid (Ext w2 wr)) (fun _ j _ => m - (intOf j).toNat)
      case atStart => exact ⟨0, rfl, by omega, rfl, Lib.hid (Ext.refl _)⟩
      case round =>
        obtain ⟨q, rfl, hq, rfl, hX3⟩ := hrel
        obtain ⟨sp, hsp⟩ : ∃ z, z = pagesOf (spCnt L k b q) := ⟨_, rfl⟩
        have hspb : sp ≤ 1024 := by
          have h1 := pagesOf_le (l := spCnt L k b q) (n := 32) (fun e he => HPG.out e (spCnt_mem he))
          have h2 := spCnt_len L k b q
          have h3 := HM.out
          omega
        have HSP := Lib.hid hsp
        rw [← hsp]
        clear hsp
        by_cases hqm : q < m
        · have hqi : (q : Int) < (m : Int) := by omega
          obtain ⟨x, hx⟩ : ∃ x, b.entries[q]? = some x := ⟨_, List.getElem?_eq_getElem (by rw [← HM.out]; exact hqm)⟩
          have HQ := Lib.hid hx
          obtain ⟨ge, ce, hee⟩ := HEN.out.addr (by intro h9; have := HM.out; rw [h9] at this; simp at this; omega)
          rw [← HM.out] at hee
          cases hee
          obtain ⟨Ax, cx, -, x0, x1, x2, x3, x4, x5⟩ := (HEN.out.ext (HX2.out.trans hX3.out)).at_ hx
          have hxp : x.pages ≤ 32 := HPG.out x (List.mem_of_getElem? hx)
          have HSU := Lib.hid (spCnt_succ (L := L) (i := k) hx)
          clear hx
          go_upto_region 9 with fail
          obtain ⟨w3, hw3⟩ : ∃ z, z = wr.alloc (.cells #[.int .i64 x.kind, .int .i64 x.number, .int .i64 x.segment, .int .i64 x.pages, .string (st x.key), .slice Ax x.value.length cx] 90) := ⟨_, rfl⟩
          have HX3 := Lib.hid (show Ext w2 w3 by rw [hw3]; exact hX3.out.alloc _)
          have HR3 : Hid (RowB w3 wr.heap.size 90 [.int .i64 x.kind, .int .i64 x.number, .int .i64 x.segment, .int .i64 x.pages, .string (st x.key), .slice Ax x.value.length cx]) := Lib.hid (by rw [hw3]; exact row_laid wr _ _)
          rw [← hw3]
          clear hw3 x0 x1 x2 x3 x4 x5
          have HXW := Lib.hid (hX.out.trans (HX2.out.trans HX3.out))
          have HL1 := Lib.hid (HLV.out w3 HXW.out q x HQ.out)
          cases hlv : liveF L k q x with
          | false =>
            rw [hlv] at HL1
            have HP := Lib.hid (show spCnt L k b (q + 1) = spCnt L k b q by rw [HSU.out, show spQ L k (x, q) = false by unfold spQ; simp only; rw [hlv]; rfl, if_neg (by simp), List.append_nil])
            clear hlv
            go_wp2_with (go_at_call 55; refine HL1.out.mono ?_; rintro e w4 ⟨rfl, hx4⟩; have HX4 := Lib.hid hx4; clear hx4)
            exact ⟨⟨q + 1, by go_num, by omega, by rw [HP.out, HSP.out], Lib.hid (HX3.out.trans HX4.out)⟩, by simp [intOf]; omega⟩
          | true =>
            rw [hlv] at HL1
            cases hels : elsewhereF L k x.kind x.number x.key true with
            | true =>
              have HP := Lib.hid (show spCnt L k b (q + 1) = spCnt L k b q by rw [HSU.out, show spQ L k (x, q) = false by unfold spQ; simp only; rw [hlv, hels]; rfl, if_neg (by simp), List.append_nil])
              have HLE1 := Lib.hid (fun W (hX : Ext w W) v => HLE.out W hX x v)
              rw [hels] at HLE1
              clear hlv hels
              go_wp2_with (first
                | (go_at_call 56; refine (HLE1.out w4 (HXW.out.trans HX4.out) _).mono ?_; rintro e w5 ⟨rfl, hx5⟩; have HX5 := Lib.hid (HX4.out.trans hx5); clear hx5)
                | (go_at_call 55; refine HL1.out.mono ?_; rintro e w4 ⟨rfl, hx4⟩; have HX4 := Lib.hid hx4; have HR4 := Lib.hid (HR3.out.ext hx4); clear hx4; have x0' := HR4.out.cell (j := 0) rfl; have x1' := HR4.out.cell (j := 1) rfl; have x2' := HR4.out.cell (j := 2) rfl; have x3' := HR4.out.cell (j := 3) rfl; have x4' := HR4.out.cell (j := 4) rfl; have x5' := HR4.out.cell (j := 5) rfl))
              exact ⟨⟨q + 1, by go_num, by omega, by rw [HP.out, HSP.out], Lib.hid (HX3.out.trans HX5.out)⟩, by simp [intOf]; omega⟩
            | false =>
              have HP := Lib.hid (show spCnt L k b (q + 1) = spCnt L k b q ++ [x] by rw [HSU.out, show spQ L k (x, q) = true by unfold spQ; simp only; rw [hlv, hels]; rfl, if_pos rfl])
              have HLE1 := Lib.hid (fun W (hX : Ext w W) v => HLE.out W hX x v)
              rw [hels] at HLE1
              clear hlv hels
              go_wp2_with (first
                | (go_at_call 56; refine (HLE1.out w4 (HXW.out.trans HX4.out) _).mono ?_; rintro e w5 ⟨rfl, hx5⟩; have HX5 := Lib.hid (HX4.out.trans hx5); have HR5 := Lib.hid (HR4.out.ext hx5); clear hx5; have e3' := HR5.out.cell (j := 3) rfl)
                | (go_at_call 55; refine HL1.out.mono ?_; rintro e w4 ⟨rfl, hx4⟩; have HX4 := Lib.hid hx4; have HR4 := Lib.hid (HR3.out.ext hx4); clear hx4; have x0' := HR4.out.cell (j := 0) rfl; have x1' := HR4.out.cell (j := 1) rfl; have x2' := HR4.out.cell (j := 2) rfl; have x3' := HR4.out.cell (j := 3) rfl; have x4' := HR4.out.cell (j := 4) rfl; have x5' := HR4.out.cell (j := 5) rfl))
              exact ⟨⟨q + 1, by go_num, by omega, by rw [HP.out, pagesOf_snoc, ← HSP.out]; go_num, Lib.hid (HX3.out.trans HX5.out)⟩, by simp [intOf]; omega⟩
        · have hqi : (m : Int) ≤ (q : Int) := by omega
          obtain rfl : m = q := by omega
          rw [← HSP.out] at HST
          have HXW := Lib.hid (hX.out.trans (HX2.out.trans hX3.out))
          obtain ⟨lb, hlb⟩ : ∃ lb, L.blocks[last]? = some lb := ⟨_, List.getElem?_eq_getElem (by rw [← HN.out]; exact hll)⟩
          have HLS := Lib.hid (segOf_at hlb)
          obtain ⟨A5, ca5, -, -, q1, -, -⟩ := (HV.out.ext HXW.out).blk _ _ hlb
          have q2 := (HV.out.ext HXW.out).c1
          rw [← HN.out] at q2
          have q3 := (HRB.out.ext hX3.out).cell (j := 1) rfl
          have D1 := Lib.hid q1
          have D2 := Lib.hid q2
          have D3 := Lib.hid q3
          have hli : (last : Int) < (n : Int) := by omega
          clear hlb
          go_upto_region 12 with fail
          by_cases hsz : sp = 0
          · have g0 : ((sp : Int) == 0) = true := by rw [hsz]; rfl
            have HSZ := Lib.hid hsz
            clear hsz
            cases acc with
            | none =>
              have HPB := Lib.hid (show spBest L b.segment k sp none = some k by unfold spBest; rw [HSZ.out]; rfl)
              rw [show sI none = -1 from rfl]
              clear q1 q2 q3
              go_quiet (fail)
              go_upto_region 14 with fail
              obtain ⟨wq, hwq⟩ : ∃ z, z = wr.drewN nq := ⟨_, rfl⟩
              rw [← hwq]
              have XQ := Lib.hid (show Ext wr wq by rw [hwq]; exact (Ext.refl _).drewN _)
              have HXE := Lib.hid (HXW.out.trans XQ.out)
              clear hwq
              have r1 := XQ.out.cell D1.out
              have r2 := XQ.out.cell D2.out
              have r3 := XQ.out.cell D3.out
              by_cases hls : lb.segment < b.segment
              · have j1 : decide (lb.segment < b.segment) = true := decide_eq_true hls
                have HPL := Lib.hid (show spLast L b.segment k last = k by unfold spLast; rw [HLS.out, if_pos hls])
                clear hls
                go_quiet (fail)
                go_wp2_with fail
                exact ⟨⟨k + 1, by go_num, by omega, by rw [HST.out, HPB.out]; rfl, by rw [HST.out, HPL.out], Lib.hid (HXE.out.trans ((Ext.refl _).drewN _))⟩, by simp [intOf]; omega⟩
              · have j1 : decide (lb.segment < b.segment) = false := decide_eq_false hls
                have HPL := Lib.hid (show spLast L b.segment k last = last by unfold spLast; rw [HLS.out, if_neg hls])
                clear hls
                go_quiet (fail)
                go_wp2_with fail
                exact ⟨⟨k + 1, by go_num, by omega, by rw [HST.out, HPB.out]; rfl, by rw [HST.out, HPL.out], Lib.hid (HXE.out.trans ((Ext.refl _).drewN _))⟩, by simp [intOf]; omega⟩
            | some y =>
              obtain ⟨yb, hyb⟩ : ∃ yb, L.blocks[y]? = some yb := ⟨_, List.getElem?_eq_getElem (HSL.out y rfl)⟩
              have HYS := Lib.hid (segOf_at hyb)
              obtain ⟨A6, ca6, -, -, q6, -, -⟩ := (HV.out.ext HXW.out).blk _ _ hyb
              have hyi : (y : Int) < (n : Int) := by have := HSL.out y rfl; have := HN.out; omega
              have hy0 : ¬ (y : Int) < 0 := by omega
              clear hyb
              rw [show sI (some y) = ((y : Nat) : Int) from rfl]
              by_cases hys : b.segment < yb.segment
              · have g1 : decide (b.segment < yb.segment) = true := decide_eq_true hys
                have HPB := Lib.hid (show spBest L b.segment k sp (some y) = some k by unfold spBest; simp only; rw [HYS.out, if_pos ⟨HSZ.out, hys⟩])
                clear hys q1
                go_quiet (fail)
                go_upto_region 14 with fail
                obtain ⟨wq, hwq⟩ : ∃ z, z = wr.drewN nq := ⟨_, rfl⟩
                rw [← hwq]
                have XQ := Lib.hid (show Ext wr wq by rw [hwq]; exact (Ext.refl _).drewN _)
                have HXE := Lib.hid (HXW.out.trans XQ.out)
                clear hwq
                have r1 := XQ.out.cell D1.out
                have r2 := XQ.out.cell D2.out
                have r3 := XQ.out.cell D3.out
                by_cases hls : lb.segment < b.segment
                · have j1 : decide (lb.segment < b.segment) = true := decide_eq_true hls
                  have HPL := Lib.hid (show spLast L b.segment k last = k by unfold spLast; rw [HLS.out, if_pos hls])
                  clear hls
                  go_quiet (fail)
                  go_wp2_with fail
                  exact ⟨⟨k + 1, by go_num, by omega, by rw [HST.out, HPB.out]; rfl, by rw [HST.out, HPL.out], Lib.hid (HXE.out.trans ((Ext.refl _).drewN _))⟩, by simp [intOf]; omega⟩
                · have j1 : decide (lb.segment < b.segment) = false := decide_eq_false hls
                  have HPL := Lib.hid (show spLast L b.segment k last = last by unfold spLast; rw [HLS.out, if_neg hls])
                  clear hls
                  go_quiet (fail)
                  go_wp2_with fail
                  exact ⟨⟨k + 1, by go_num, by omega, by rw [HST.out, HPB.out]; rfl, by rw [HST.out, HPL.out], Lib.hid (HXE.out.trans ((Ext.refl _).drewN _))⟩, by simp [intOf]; omega⟩
              · have g1 : decide (b.segment < yb.segment) = false := decide_eq_false hys
                have HPB := Lib.hid (show spBest L b.segment k sp (some y) = some y by unfold spBest; simp only; rw [HYS.out, if_neg (fun h9 => hys h9.2)])
                clear hys q1
                go_quiet (fail)
                go_upto_region 14 with fail
                obtain ⟨wq, hwq⟩ : ∃ z, z = wr.drewN nq := ⟨_, rfl⟩
                rw [← hwq]
                have XQ := Lib.hid (show Ext wr wq by rw [hwq]; exact (Ext.refl _).drewN _)
                have HXE := Lib.hid (HXW.out.trans XQ.out)
                clear hwq
                have r1 := XQ.out.cell D1.out
                have r2 := XQ.out.cell D2.out
                have r3 := XQ.out.cell D3.out
                by_cases hls : lb.segment < b.segment
                · have j1 : decide (lb.segment < b.segment) = true := decide_eq_true hls
                  have HPL := Lib.hid (show spLast L b.segment k last = k by unfold spLast; rw [HLS.out, if_pos hls])
                  clear hls
                  go_quiet (fail)
                  go_wp2_with fail
                  exact ⟨⟨k + 1, by go_num, by omega, by rw [HST.out, HPB.out]; rfl, by rw [HST.out, HPL.out], Lib.hid (HXE.out.trans ((Ext.refl _).drewN _))⟩, by simp [intOf]; omega⟩
                · have j1 : decide (lb.segment < b.segment) = false := decide_eq_false hls
                  have HPL := Lib.hid (show spLast L b.segment k last = last by unfold spLast; rw [HLS.out, if_neg hls])
                  clear hls
                  go_quiet (fail)
                  go_wp2_with fail
                  exact ⟨⟨k + 1, by go_num, by omega, by rw [HST.out, HPB.out]; rfl, by rw [HST.out, HPL.out], Lib.hid (HXE.out.trans ((Ext.refl _).drewN _))⟩, by simp [intOf]; omega⟩
          · have g0 : ((sp : Int) == 0) = false := by rw [beq_eq_false_iff_ne]; omega
            have HPB := Lib.hid (show spBest L b.segment k sp acc = acc by unfold spBest; cases acc with | none => simp only; rw [if_neg hsz] | some z => simp only; rw [if_neg (fun h9 => hsz h9.1)])
            clear hsz q1 q2 q3
            go_quiet (fail)
            go_upto_region 14 with fail
            obtain ⟨wq, hwq⟩ : ∃ z, z = wr.drewN nq := ⟨_, rfl⟩
            rw [← hwq]
            have XQ := Lib.hid (show Ext wr wq by rw [hwq]; exact (Ext.refl _).drewN _)
            have HXE := Lib.hid (HXW.out.trans XQ.out)
            clear hwq
            have r1 := XQ.out.cell D1.out
            have r2 := XQ.out.cell D2.out
            have r3 := XQ.out.cell D3.out
            by_cases hls : lb.segment < b.segment
            · have j1 : decide (lb.segment < b.segment) = true := decide_eq_true hls
              have HPL := Lib.hid (show spLast L b.segment k last = k by unfold spLast; rw [HLS.out, if_pos hls])
              clear hls
              go_quiet (fail)
              go_wp2_with fail
              exact ⟨⟨k + 1, by go_num, by omega, by rw [HST.out, HPB.out], by rw [HST.out, HPL.out], Lib.hid (HXE.out.trans ((Ext.refl _).drewN _))⟩, by simp [intOf]; omega⟩
            · have j1 : decide (lb.segment < b.segment) = false := decide_eq_false hls
              have HPL := Lib.hid (show spLast L b.segment k last = last by unfold spLast; rw [HLS.out, if_neg hls])
              clear hls
              go_quiet (fail)
              go_wp2_with fail
              exact ⟨⟨k + 1, by go_num, by omega, by rw [HST.out, HPB.out], by rw [HST.out, HPL.out], Lib.hid (HXE.out.trans ((Ext.refl _).drewN _))⟩, by simp [intOf]; omega⟩
    · have hki : (n : Int) ≤ (k : Int) := by omega
      obtain rfl : n = k := by omega
      have HF := Lib.hid (show spareF L = spRes (acc, last) by rw [spareF_eq, ← HN.out, HA.out.1, HA.out.2])
      cases acc with
      | none =>
        rw [show sI none = -1 from rfl]
        go_wp2_with fail
        go_ret
        rw [HF.out]
        exact ⟨rfl, hX.out⟩
      | some y =>
        rw [show sI (some y) = ((y : Nat) : Int) from rfl]
        have hy0 : (0 : Int) ≤ (y : Int) := by omega
        go_wp2_with fail
        go_ret
        rw [HF.out]
        exact ⟨rfl, hX.out⟩
end Go.Proofs.Ytepigkjgjlibcaa
namespace Go.Proofs.Ytepigkjgjlibcaa
open Go.RowKit Go.Deep Go.Proofs.Ytepigkjgjlibcaa.FL
set_option maxRecDepth 100000
theorem mem_entsFrom {i k : Nat} {l : List Ent} {x : Nat × Nat × Ent} (h : x ∈ entsFrom i k l) : x.1 = i ∧ ∃ j, x.2.1 = k + j ∧ l[j]? = some x.2.2 := by
  induction l generalizing k with
  | nil => cases h
  | cons e r ih =>
    rcases List.mem_cons.1 h with h | h
    · subst h; exact ⟨rfl, 0, rfl, rfl⟩
    · obtain ⟨h1, j, h2, h3⟩ := ih h
      exact ⟨h1, j + 1, by omega, h3⟩
theorem mem_blksFrom {i : Nat} {l : List LB} {x : Nat × Nat × Ent} (h : x ∈ blksFrom i l) : ∃ j b, x.1 = i + j ∧ l[j]? = some b ∧ b.entries[x.2.1]? = some x.2.2 := by
  induction l generalizing i with
  | nil => cases h
  | cons b r ih =>
    rcases List.mem_append.1 h with h | h
    · obtain ⟨h1, j, h2, h3⟩ := mem_entsFrom h
      exact ⟨0, b, h1, rfl, by rw [h2, Nat.zero_add]; exact h3⟩
    · obtain ⟨j, c, h1, h2, h3⟩ := ih h
      exact ⟨j + 1, c, by omega, h2, h3⟩
theorem mem_allEnts {L : Log} {x : Nat × Nat × Ent} (h : x ∈ allEnts L) : EAt L x := by
  rw [allEnts_eq] at h
  obtain ⟨j, b, h1, h2, h3⟩ := mem_blksFrom h
  rw [Nat.zero_add] at h1
  exact ⟨b, by rw [h1]; exact h2, h3⟩
theorem entsFrom_mem {i k : Nat} {l : List Ent} {j : Nat} {e : Ent} (h : l[j]? = some e) : (i, k + j, e) ∈ entsFrom i k l := by
  induction l generalizing j k with
  | nil => cases h
  | cons x r ih =>
    cases j with
    | zero => cases h; exact List.mem_cons_self ..
    | succ j =>
      have := ih (k := k + 1) (j := j) h
      rw [show k + 1 + j = k + (j + 1) by omega] at this
      exact List.mem_cons_of_mem _ this
theorem blksFrom_mem {i : Nat} {l : List LB} {j : Nat} {b : LB} (h : l[j]? = some b) {k : Nat} {e : Ent} (he : b.entries[k]? = some e) : (i + j, k, e) ∈ blksFrom i l := by
  induction l generalizing i j with
  | nil => cases h
  | cons x r ih =>
    cases j with
    | zero =>
      cases h
      have := entsFrom_mem (i := i) (k := 0) he
      rw [Nat.zero_add] at this
      exact List.mem_append_left _ this
    | succ j =>
      have := ih (i := i + 1) (j := j) h
      rw [show i + 1 + j = i + (j + 1) by omega] at this
      exact List.mem_append_right _ this
theorem allEnts_mem {L : Log} {x : Nat × Nat × Ent} (h : EAt L x) : x ∈ allEnts L := by
  obtain ⟨b, h1, h2⟩ := h
  rw [allEnts_eq]
  have := blksFrom_mem (i := 0) h1 h2
  rw [Nat.zero_add] at this
  exact this
theorem nfold_some {L : Log} {key : Bs} : ∀ {l : List (Nat × Nat × Ent)} {acc y}, l.foldl (nstep L key) acc = some y → (y ∈ l ∧ y.2.2.key = key) ∨ acc = some y := by
  intro l
  induction l with
  | nil => intro acc y h; exact .inr h
  | cons x r ih =>
    intro acc y h
    rw [List.foldl_cons] at h
    rcases ih h with h | h
    · exact .inl ⟨List.mem_cons_of_mem _ h.1, h.2⟩
    · unfold nstep at h
      split at h
      · rename_i hk
        cases acc with
        | none => cases h; exact .inl ⟨List.mem_cons_self .., hk⟩
        | some z =>
          simp only at h
          split at h
          · cases h; exact .inl ⟨List.mem_cons_self .., hk⟩
          · exact .inr h
      · exact .inr h
theorem newest_at {L : Log} {key : Bs} {y : Nat × Nat × Ent} (h : newestF L key = some y) : EAt L y ∧ y.2.2.key = key := by
  have h1 : (allEnts L).foldl (nstep L key) none = some y := h
  rcases nfold_some h1 with h2 | h2
  · exact ⟨mem_allEnts h2.1, h2.2⟩
  · cases h2
/-- the newest of a key is none exactly if the key is nowhere -/
theorem nfold_none {L : Log} {key : Bs} : ∀ {l : List (Nat × Nat × Ent)} {acc}, l.foldl (nstep L key) acc = none ↔ acc = none ∧ ∀ x ∈ l, x.2.2.key ≠ key := by
  intro l
  induction l with
  | nil => intro acc; simp
  | cons x r ih =>
    intro acc
    rw [List.foldl_cons, ih]
    constructor
    · rintro ⟨h1, h2⟩
      unfold nstep at h1
      split at h1
      · cases acc with
        | none => cases h1
        | some z => simp only at h1; split at h1 <;> cases h1
      · rename_i hk
        exact ⟨h1, fun y hy => (List.mem_cons.1 hy).elim (fun e => e ▸ hk) (h2 y)⟩
    · rintro ⟨rfl, h2⟩
      refine ⟨?_, fun y hy => h2 y (List.mem_cons_of_mem _ hy)⟩
      unfold nstep
      rw [if_neg (h2 x (List.mem_cons_self ..))]
def GetPost (w' : World) (e : Ending) : Bs ⊕ Nat → Prop
  | .inr c => e = .returned (.tuple #[.slice none 0 0, errV c])
  | .inl v => ∃ u, e = .returned (.tuple #[u, .nilIface]) ∧ BS w' u v
set_option maxHeartbeats 4000000 in
theorem get_any {w : World} {S SD : Nat → Prop} {l : Nat} {F : LogF} {G : DevF} {L : Log} (h : LogAtF w S l F SD G L) (hb : L.blocks.length ≤ 64) (hb0 : 0 < L.blocks.length) (hok : EntsOk L) (key : Bs) :
    Calls Try.prog 38 #[.pointer (some ⟨l, 0, none⟩), .string (st key)] w fun e w' => Ext w w' ∧ GetPost w' e (getF L key) := by
  obtain ⟨g, c, hv⟩ := h.v hb0
  obtain ⟨n, hn⟩ : ∃ n, n = L.blocks.length := ⟨_, rfl⟩
  have HN := Lib.hid hn
  have HV := Lib.hid hv
  have HNW := Lib.hid (newest_any hv hb (fun b hb => (hok b hb).1) key)
  have c6 := h.row.cell (j := 6) rfl
  cases hbr : L.broken with
  | true =>
    have HG := Lib.hid (show getF L key = .inr 6 by unfold getF; rw [hbr]; rfl)
    rw [hbr] at c6
    clear h hb hb0 hok hbr hv hn
    go_enter Try.func38, Try.ntmps38
    go_wp2_with fail
    go_ret2
    rw [HG.out]
    exact ⟨Ext.refl _, rfl⟩
  | false =>
    rw [hbr] at c6
    have HG := Lib.hid (show getF L key = (match newestF L key with | none => .inr 3 | some y => if y.2.2.kind = 1 then .inl y.2.2.value else .inr 3) by unfold getF; rw [hbr]; rfl)
    cases hnw : newestF L key with
    | none =>
      rw [hnw] at HNW HG
      clear h hb hb0 hok hbr hv hn hnw
      go_enter Try.func38, Try.ntmps38
      go_wp2_with (go_at_call 57; refine HNW.out.mono ?_; rintro e w1 ⟨rfl, hx1⟩; rw [show nI none = -1 from rfl, show nK none = -1 from rfl])
      go_ret2
      rw [HG.out]
      exact ⟨hx1, rfl⟩
    | some y =>
      obtain ⟨⟨b, hyb, hye⟩, -⟩ := newest_at hnw
      rw [hnw] at HNW HG
      simp only at HG
      have hnp : b.entries ≠ [] := by intro h9; rw [h9] at hye; simp at hye
      have hy1 : ((y.1 : Nat) : Int) < (n : Int) := by have := (List.getElem?_eq_some_iff.1 hyb).1; omega
      have hy2 : ((y.2.1 : Nat) : Int) < (b.entries.length : Int) := by have := (List.getElem?_eq_some_iff.1 hye).1; omega
      have hy0 : ¬ ((y.1 : Nat) : Int) < 0 := by omega
      obtain ⟨A2, ca2, he2, s0, s1, s2, s3⟩ := hv.blk _ _ hyb
      obtain ⟨g2, c2, hee2⟩ := he2.addr hnp
      cases hee2
      obtain ⟨Ay, cy, hbs, y0, y1, y2, y3, y4, y5⟩ := he2.at_ hye
      have c1 := hv.c1
      rw [← hn] at c1
      have HBS := Lib.hid hbs
      have HY0 := Lib.hid y0
      have HY5 := Lib.hid y5
      have HC1 := Lib.hid c1
      have HS3 := Lib.hid s3
      clear h hb hb0 hok hbr hv hn hnw hyb hye hnp he2 s0 s1 s2 s3 y0 y1 y2 y3 y4 y5 hbs c1
      by_cases hk : y.2.2.kind = 1
      · have hkf : ((y.2.2.kind : Int) != 1) = false := by rw [hk]; rfl
        rw [if_pos hk] at HG
        clear hk
        go_enter Try.func38, Try.ntmps38
        go_wp2_with (go_at_call 57; refine HNW.out.mono ?_; rintro e w1 ⟨rfl, hx1⟩; rw [show nI (some y) = ((y.1 : Nat) : Int) from rfl, show nK (some y) = ((y.2.1 : Nat) : Int) from rfl]; have a0 := hx1.cell HY0.out; have a5 := hx1.cell HY5.out; have a1 := hx1.cell HC1.out; have a3 := hx1.cell HS3.out)
        go_ret2
        rw [HG.out]
        exact ⟨hx1, _, rfl, HBS.out.ext hx1⟩
      · have hkf : ((y.2.2.kind : Int) != 1) = true := by rw [bne_iff_ne]; omega
        rw [if_neg hk] at HG
        clear hk
        go_enter Try.func38, Try.ntmps38
        go_wp2_with (go_at_call 57; refine HNW.out.mono ?_; rintro e w1 ⟨rfl, hx1⟩; rw [show nI (some y) = ((y.1 : Nat) : Int) from rfl, show nK (some y) = ((y.2.1 : Nat) : Int) from rfl]; have a0 := hx1.cell HY0.out; have a5 := hx1.cell HY5.out; have a1 := hx1.cell HC1.out; have a3 := hx1.cell HS3.out)
        go_ret2
        rw [HG.out]
        exact ⟨hx1, rfl⟩
def GetPost2 (B : Nat) (w' : World) (e : Ending) : Bs ⊕ Nat → Prop
  | .inr c => ∃ u, e = .returned (.tuple #[u, errV c]) ∧ OB w' B u []
  | .inl v => ∃ u, e = .returned (.tuple #[u, .nilIface]) ∧ OB w' B u v
set_option maxHeartbeats 4000000 in
theorem gett_any {w : World} {S SD : Nat → Prop} {l : Nat} {F : LogF} {G : DevF} {L : Log} (h : LogAtF w S l F SD G L) (hb : L.blocks.length ≤ 64) (hb0 : 0 < L.blocks.length) (hok : EntsOk L) (key : Bs) (hvl : ∀ v, getF L key = .inl v → v.length ≤ 1000000) :
    Calls Try.prog 18 #[.pointer (some ⟨l, 0, none⟩), .string (st key)] w fun e w' => Ext w w' ∧ GetPost2 w.heap.size w' e (getF L key) := by
  have HG := Lib.hid (get_any h hb hb0 hok key)
  have HVL := Lib.hid hvl
  clear h hb hb0 hok hvl
  cases hg : getF L key with
  | inr c =>
    rw [hg] at HG
    clear hg
    have HG2 := Lib.hid (show Calls Try.prog 38 #[.pointer (some ⟨l, 0, none⟩), .string (st key)] w (fun e w' => e = .returned (.tuple #[.slice none 0 0, errV c]) ∧ Ext w w') from HG.out.mono (fun _ _ h => ⟨h.2, h.1⟩))
    clear HG
    go_enter Try.func18, Try.ntmps18
    go_wp2_with (first
      | (go_at_call 43; refine (u8clone_any (l := []) (.inl ⟨rfl, rfl⟩) (by simp)).mono ?_; rintro e w2 ⟨u2, rfl, hx2, ho2⟩)
      | (go_at_call 38; refine HG2.out.mono ?_; rintro e w1 ⟨rfl, hx1⟩))
    go_ret2
    have hob : ∀ {B B' : Nat} {W : World} {u : Value} {l : Bs}, OB W B u l → B' ≤ B → OB W B' u l := fun h hb => ⟨h.1, h.2.imp id fun ⟨g, cap, cur, e, hb', r⟩ => ⟨g, cap, cur, e, Nat.le_trans hb hb', r⟩⟩
    exact ⟨hx1.trans hx2, _, rfl, hob ho2 hx1.size⟩
  | inl v =>
    rw [hg] at HG
    have HL := Lib.hid (HVL.out v hg)
    clear hg
    have HG2 := Lib.hid (show Calls Try.prog 38 #[.pointer (some ⟨l, 0, none⟩), .string (st key)] w (fun e w' => ∃ u, e = .returned (.tuple #[u, .nilIface]) ∧ BS w' u v ∧ Ext w w') from HG.out.mono (fun _ _ ⟨h1, u, h2, h3⟩ => ⟨u, h2, h3, h1⟩))
    clear HG
    go_enter Try.func18, Try.ntmps18
    go_wp2_with (first
      | (go_at_call 43; refine (u8clone_any hbs1 HL.out).mono ?_; rintro e w2 ⟨u2, rfl, hx2, ho2⟩)
      | (go_at_call 38; refine HG2.out.mono ?_; rintro e w1 ⟨u1, rfl, hbs1, hx1⟩))
    go_ret2
    have hob : ∀ {B B' : Nat} {W : World} {u : Value} {l : Bs}, OB W B u l → B' ≤ B → OB W B' u l := fun h hb => ⟨h.1, h.2.imp id fun ⟨g, cap, cur, e, hb', r⟩ => ⟨g, cap, cur, e, Nat.le_trans hb hb', r⟩⟩
    exact ⟨hx1.trans hx2, _, rfl, hob ho2 hx1.size⟩
end Go.Proofs.Ytepigkjgjlibcaa
