/- Chapter 23: package flashlog: scan. -/
import Derived.Test.YtepigkjgjlibcaaGAH
import Derived.Deep.MidRow
namespace Go.Proofs.Ytepigkjgjlibcaa
open Go.RowKit Go.Deep Go.Proofs.Ytepigkjgjlibcaa.FL
set_option maxRecDepth 100000
def readPage (p : Option Bs) : Option Pg := readF (match p with | none => filled [] | some x => x)
theorem scanF_eq (b : Blk) : scanF b = ⟨nextF b, maxL ((b.pages.map readPage).map fun p => match p with | some p => p.segment | none => 0), maxL ((b.pages.map readPage).map fun p => match p with | some p => p.number | none => 0), entriesF (b.pages.map readPage) b.pages.length 0⟩ := rfl
def segP (p : Option Pg) : Nat := match p with | some p => p.segment | none => 0
def numP (p : Option Pg) : Nat := match p with | some p => p.number | none => 0
theorem maxL_snoc (l : List Nat) (x : Nat) : maxL (l ++ [x]) = max (maxL l) x := by
  unfold maxL
  rw [List.foldl_append]
  rfl
theorem decF_num {l : Bs} {d : Rec} (h : decF l = .inl d) : d.number ≤ 1099511627776 := by
  unfold decF at h
  split at h
  · cases h
  · simp only at h
    split at h
    · cases h
    · split at h
      · cases h
      · rename_i hn
        split at h
        · cases h
        · rename_i hm
          split at h
          · cases h
          · split at h
            · cases h
            · split at h
              · cases h
              · split at h
                · cases h
                  simp only
                  omega
                · cases h
theorem readF_bounds {l : Bs} {p : Pg} (hl : l.length = 512) (h : readF l = some p) : p.data.length ≤ 512 ∧ 1 ≤ p.parts ∧ p.segment ≤ 1099511627776 ∧ p.number ≤ 1099511627776 ∧ p.part < p.parts := by
  cases hd : decF l with
  | inr c => rw [readF_inr hd] at h; cases h
  | inl d =>
    by_cases hb : 512 ≤ d.size ∨ (d.kind ≠ 1 ∧ d.kind ≠ 2)
    · rw [readF_head hd hb hl] at h; cases h
    · cases ha : (l.drop d.size).any (· ≠ 0) with
      | true => rw [readF_rest hd hb hl ha] at h; cases h
      | false =>
        rw [readF_cur hd hb hl ha rfl rfl rfl] at h
        cases hq : (uintF (uintF (uintF (some d.payload)).2).2).2 with
        | none => rw [hq] at h; cases h
        | some left =>
          rw [hq] at h
          simp only at h
          split at h
          · cases h
          · rename_i hc
            cases h
            obtain ⟨m1, e1, l1⟩ := uintF_le hq
            obtain ⟨m2, e2, l2⟩ := uintF_le e1
            obtain ⟨m3, e3, l3⟩ := uintF_le e2
            cases e3
            have := decF_le hd
            have hnum : d.number ≤ 1099511627776 := decF_num hd
            simp only
            refine ⟨?_, ?_, ?_, hnum, ?_⟩ <;> omega
theorem madeP (n : Nat) : (madeCells #[.int .i64 0, .int .i64 0, .int .i64 0, .int .i64 0, .int .i64 0, .slice none 0 0] (n * 6)).toList = ((List.replicate n (none : Option Pg)).zip (List.replicate n (.slice none 0 0))).flatMap pgCells := by
  apply List.ext_getElem?
  intro j
  have hzl : ((List.replicate n (none : Option Pg)).zip (List.replicate n (Value.slice none 0 0))).length = n := by simp
  by_cases hj : j < n * 6
  · have hd : j = j / 6 * 6 + j % 6 := by omega
    have e := flat_get pgCells 6 pgCells_len ((List.replicate n (none : Option Pg)).zip (List.replicate n (.slice none 0 0))) (j / 6) (j % 6) (Nat.mod_lt _ (by decide))
    rw [← hd] at e
    rw [e, show ((List.replicate n (none : Option Pg)).zip (List.replicate n (Value.slice none 0 0)))[j / 6]? = some (none, .slice none 0 0) by rw [List.getElem?_zip_eq_some]; exact ⟨by rw [List.getElem?_replicate, if_pos (by omega)], by rw [List.getElem?_replicate, if_pos (by omega)]⟩]
    unfold madeCells
    rw [Array.getElem?_toList, Array.getElem?_map, Array.getElem?_range, if_pos hj]
    rcases (show j % 6 = 0 ∨ j % 6 = 1 ∨ j % 6 = 2 ∨ j % 6 = 3 ∨ j % 6 = 4 ∨ j % 6 = 5 by omega) with h | h | h | h | h | h <;> simp [h, pgCells]
  · rw [List.getElem?_eq_none (by rw [Array.length_toList, size_madeCells]; omega), List.getElem?_eq_none (by rw [flat_len pgCells 6 pgCells_len, hzl]; omega)]
theorem page_info23 : (Try.prog.info? 129).map (fun i => (i.zero, i.size, i.bytes)) = some (some (.agg #[.int .i64 0, .int .i64 0, .int .i64 0, .int .i64 0, .int .i64 0, .slice none 0 0]), 6, 64) := by kernel_rfl
theorem PagesRow.old {w : World} {pg vb k : Nat} {cur : List (Option Pg)} {vs : List Value} (h : PagesRow w pg vb cur vs) (hx : cur[k]? = some none) :
    (w.cell? ⟨pg, k * 6, none⟩ = some (.int .i64 0) ∧ w.cell? ⟨pg, k * 6 + 1, none⟩ = some (.int .i64 0) ∧ w.cell? ⟨pg, k * 6 + 2, none⟩ = some (.int .i64 0) ∧ w.cell? ⟨pg, k * 6 + 3, none⟩ = some (.int .i64 0) ∧ w.cell? ⟨pg, k * 6 + 4, none⟩ = some (.int .i64 0) ∧ w.cell? ⟨pg, k * 6 + 5, none⟩ = some (.slice none 0 0)) ∧
    (w.frozen? ⟨pg, k * 6, none⟩ = false ∧ w.frozen? ⟨pg, k * 6 + 1, none⟩ = false ∧ w.frozen? ⟨pg, k * 6 + 2, none⟩ = false ∧ w.frozen? ⟨pg, k * 6 + 3, none⟩ = false ∧ w.frozen? ⟨pg, k * 6 + 4, none⟩ = false ∧ w.frozen? ⟨pg, k * 6 + 5, none⟩ = false) ∧
    w.cell? ⟨vb, k, none⟩ = some (.bool false) ∧ w.frozen? ⟨vb, k, none⟩ = false := by
  have hk := (List.getElem?_eq_some_iff.1 hx).1
  obtain ⟨v, hv⟩ : ∃ v, vs[k]? = some v := ⟨_, List.getElem?_eq_getElem (by rw [h.len]; exact hk)⟩
  have hz : (cur.zip vs)[k]? = some (none, v) := by rw [List.getElem?_zip_eq_some]; exact ⟨hx, hv⟩
  have hfl : ((cur.zip vs).flatMap pgCells).length = cur.length * 6 := by rw [flat_len pgCells 6 pgCells_len, List.length_zip, h.len, Nat.min_self]
  have g : ∀ j u, j < 6 → (pgCells (none, v))[j]? = some u → w.cell? ⟨pg, k * 6 + j, none⟩ = some u := fun j u hj hu => h.row.cell (by rw [flat_get pgCells 6 pgCells_len _ k j hj, hz]; exact hu)
  have f : ∀ j, j < 6 → w.frozen? ⟨pg, k * 6 + j, none⟩ = false := fun j hj => h.row.frozen (by rw [hfl]; omega)
  exact ⟨⟨g 0 _ (by decide) rfl, g 1 _ (by decide) rfl, g 2 _ (by decide) rfl, g 3 _ (by decide) rfl, g 4 _ (by decide) rfl, g 5 _ (by decide) rfl⟩, ⟨f 0 (by decide), f 1 (by decide), f 2 (by decide), f 3 (by decide), f 4 (by decide), f 5 (by decide)⟩,
    h.marks.cell (by rw [List.getElem?_map, hx]; rfl), h.marks.frozen (by rw [List.length_map]; exact hk)⟩
theorem mod_setCells (b : Nat) : ∀ (vs : List Value) (o : Nat) (w : World), Mod (fun x => x = b) w (w.setCells b o vs)
  | [], _, w => Mod.refl _ w
  | v :: r, o, w => (mod_set w b o v).trans (mod_setCells b r (o + 1) _)
theorem there6 {w : World} {pg vb k : Nat} (h : (w.cell? ⟨pg, k * 6, none⟩ = some (.int .i64 0) ∧ w.cell? ⟨pg, k * 6 + 1, none⟩ = some (.int .i64 0) ∧ w.cell? ⟨pg, k * 6 + 2, none⟩ = some (.int .i64 0) ∧ w.cell? ⟨pg, k * 6 + 3, none⟩ = some (.int .i64 0) ∧ w.cell? ⟨pg, k * 6 + 4, none⟩ = some (.int .i64 0) ∧ w.cell? ⟨pg, k * 6 + 5, none⟩ = some (.slice none 0 0)) ∧
    (w.frozen? ⟨pg, k * 6, none⟩ = false ∧ w.frozen? ⟨pg, k * 6 + 1, none⟩ = false ∧ w.frozen? ⟨pg, k * 6 + 2, none⟩ = false ∧ w.frozen? ⟨pg, k * 6 + 3, none⟩ = false ∧ w.frozen? ⟨pg, k * 6 + 4, none⟩ = false ∧ w.frozen? ⟨pg, k * 6 + 5, none⟩ = false) ∧
    w.cell? ⟨vb, k, none⟩ = some (.bool false) ∧ w.frozen? ⟨vb, k, none⟩ = false) : w.there pg (k * 6) 6 := by
  obtain ⟨⟨a0, a1, a2, a3, a4, a5⟩, ⟨b0, b1, b2, b3, b4, b5⟩, -⟩ := h
  intro j hj
  match j, hj with
  | 0, _ => exact ⟨by rw [Nat.add_zero, a0]; rfl, by rw [Nat.add_zero]; exact b0⟩
  | 1, _ => exact ⟨by rw [a1]; rfl, b1⟩
  | 2, _ => exact ⟨by rw [a2]; rfl, b2⟩
  | 3, _ => exact ⟨by rw [a3]; rfl, b3⟩
  | 4, _ => exact ⟨by rw [a4]; rfl, b4⟩
  | 5, _ => exact ⟨by rw [a5]; rfl, b5⟩
theorem cur_set {pgs : List (Option Pg)} {k np : Nat} {x : Option Pg} (hl : pgs.length = np) (hx : pgs[k]? = some x) : (pgs.take k ++ List.replicate (np - k) none).set k x = pgs.take (k + 1) ++ List.replicate (np - (k + 1)) none := by
  have hk := (List.getElem?_eq_some_iff.1 hx).1
  have e : np - k = (np - (k + 1)) + 1 := by omega
  rw [e, List.replicate_succ, List.set_append_right _ _ (by rw [List.length_take]; omega), List.length_take, Nat.min_eq_left (by omega), Nat.sub_self, List.set_cons_zero, List.take_add_one, hx]
  simp
theorem max_snoc {pgs : List (Option Pg)} {k : Nat} {x : Option Pg} (f : Option Pg → Nat) (hx : pgs[k]? = some x) : maxL ((pgs.take (k + 1)).map f) = max (maxL ((pgs.take k).map f)) (f x) := by
  rw [List.take_add_one, hx, Option.toList_some, List.map_append, List.map_singleton, maxL_snoc]
theorem page_read {w : World} {g : Nat} {ps : List (Nat × Nat)} {np : Nat} {bs : List Blk} (h : BlksAt w g ps np bs) {i k : Nat} {b : Blk} {x : Option Bs} (hb : bs[i]? = some b) (hx : b.pages[k]? = some x) : readF (filled (x.getD [])) = readPage x := by
  cases x with
  | none => rfl
  | some y =>
    obtain ⟨p, cap, -, -, -, hp, -, -⟩ := h.cells hb
    obtain ⟨v, -, -, hv⟩ := hp.at_ hx
    unfold readPage
    rw [Option.getD_some]
    congr 1
    unfold filled
    rw [hv.2]
    simp
theorem PagesRow.get2 {w : World} {pg vb k : Nat} {cur : List (Option Pg)} {vs : List Value} (h : PagesRow w pg vb cur vs) {p : Pg} (hx : cur[k]? = some (some p)) :
    w.cell? ⟨pg, k * 6 + 1, none⟩ = some (.int .i64 p.number) ∧ w.cell? ⟨pg, k * 6 + 2, none⟩ = some (.int .i64 p.segment) := by
  have hk := (List.getElem?_eq_some_iff.1 hx).1
  obtain ⟨v, hv⟩ : ∃ v, vs[k]? = some v := ⟨_, List.getElem?_eq_getElem (by rw [h.len]; exact hk)⟩
  have hz : (cur.zip vs)[k]? = some (some p, v) := by rw [List.getElem?_zip_eq_some]; exact ⟨hx, hv⟩
  exact ⟨h.row.cell (by rw [flat_get pgCells 6 pgCells_len _ k 1 (by decide), hz]; rfl), h.row.cell (by rw [flat_get pgCells 6 pgCells_len _ k 2 (by decide), hz]; rfl)⟩
theorem exec_max {P : Program} {o : Oper} {a : Act} {x y : Operand} {ts : Array TypeId} (ho : o.op = .call { callee := .builtin .max, args := #[x, y], argTypes := ts }) {k l : IntKind} {X Y : Int} (hx : a.eval x = .int k X) (hy : a.eval y = .int l Y) {v : Value} (hv : v = .int k (max X Y)) (W : World) :
    (execOp a.eval o).run P W = .ok (.value v) W := by
  unfold execOp
  simp only [ho, resolve, invoke, builtin, Sem.run_bind, Sem.run_pure, Result.andThen_ok, List.map_toArray, List.map_cons, List.map_nil, hx, hy, Lib.run_max_ints, hv]
theorem joinF_pages {list : List Pg} {e : Ent} (h : joinF list = some e) : e.pages = list.length ∧ 1 ≤ list.length := by
  unfold joinF at h
  cases list with
  | nil => cases h
  | cons f r =>
    simp only at h
    split at h
    · split at h
      · cases h
      · split at h
        · cases h
        · cases h
          exact ⟨rfl, by simp⟩
    · cases h
theorem atF_pages {l : List (Option Pg)} {k : Nat} {e : Ent} (h : atF l k = some e) : 1 ≤ e.pages ∧ k + e.pages ≤ l.length := by
  unfold atF at h
  split at h
  · rename_i p hp
    split at h
    · cases h
    · rename_i hc
      obtain ⟨h1, h2⟩ := joinF_pages h
      rw [somes_len (by cases hb : ((l.drop k).take p.parts).any (·.isNone) with | true => exact absurd (.inr hb) hc | false => rfl), List.length_take, List.length_drop] at h1 h2
      omega
  · cases h
theorem entriesF_fuel (l : List (Option Pg)) : ∀ f g k, l.length - k ≤ f → l.length - k ≤ g → entriesF l f k = entriesF l g k := by
  intro f
  induction f with
  | zero =>
    intro g k hf hg
    cases g with
    | zero => rfl
    | succ g => unfold entriesF; rw [if_pos (by omega)]
  | succ f ih =>
    intro g k hf hg
    cases g with
    | zero => unfold entriesF; rw [if_pos (by omega)]
    | succ g =>
      unfold entriesF
      by_cases hk : l.length ≤ k
      · rw [if_pos hk, if_pos hk]
      · rw [if_neg hk, if_neg hk]
        cases ha : atF l k with
        | none => exact ih g (k + 1) (by omega) (by omega)
        | some e =>
          have := atF_pages ha
          simp only
          rw [ih g (k + e.pages) (by omega) (by omega)]
theorem entriesF_none {l : List (Option Pg)} {k : Nat} (hk : k < l.length) (h : atF l k = none) : entriesF l l.length k = entriesF l l.length (k + 1) := by
  rw [entriesF_fuel l l.length (l.length - 1 + 1) k (by omega) (by omega)]
  conv => lhs; unfold entriesF
  rw [if_neg (by omega), h]
  exact entriesF_fuel l _ _ _ (by omega) (by omega)
theorem entriesF_some {l : List (Option Pg)} {k : Nat} {e : Ent} (hk : k < l.length) (h : atF l k = some e) : entriesF l l.length k = e :: entriesF l l.length (k + e.pages) := by
  have := atF_pages h
  rw [entriesF_fuel l l.length (l.length - 1 + 1) k (by omega) (by omega)]
  conv => lhs; unfold entriesF
  rw [if_neg (by omega), h]
  simp only
  rw [entriesF_fuel l _ l.length _ (by omega) (by omega)]
theorem entriesF_end {l : List (Option Pg)} {k : Nat} (hk : l.length ≤ k) (f : Nat) : entriesF l f k = [] := by
  cases f with
  | zero => rfl
  | succ f => unfold entriesF; rw [if_pos hk]
theorem EntsAt.apart {w : World} {B : Nat} {v : Value} {l : List Ent} (h : EntsAt w B v l) {g : Nat} {T : TypeId} {xs : List Value} (hr : RowB w g T xs) (ht : T ≠ 90) : v.ownBlock ≠ some g := by
  intro e
  obtain ⟨⟨C, h1⟩, -⟩ := h.blk e
  obtain ⟨C', fr, rest, h2, -, -⟩ := hr
  rw [h2] at h1
  simp at h1
  exact ht h1.2.1
theorem ent_info23 : (Try.prog.info? 90).map (fun i => (i.zero, i.size, i.bytes)) = some (some (.agg #[.int .i64 0, .int .i64 0, .int .i64 0, .int .i64 0, .string ⟨#[]⟩, .slice none 0 0]), 6, 72) := by kernel_rfl
/-- what the second loop of scan keeps -/
structure ScanInv2 (w wr : World) (t5 pg vb np k nx sg nb : Nat) (pgs : List (Option Pg)) (vs : List Value) (out : List Ent) (v : Value) : Prop where
  ext : Ext w wr
  row : PagesRow wr pg vb pgs vs
  rec_ : RowB wr t5 85 [.int .i64 nx, .int .i64 sg, .int .i64 nb, v]
  res : RowB wr w.heap.size 85 [.int .i64 0, .int .i64 0, .int .i64 0, .slice none 0 0]
  ents : EntsAt wr w.heap.size v out
  eq : entriesF pgs np 0 = out ++ entriesF pgs np k
  len : out.length ≤ k
theorem ScanInv2.next {w wr w' : World} {t5 pg vb np k k' nx sg nb : Nat} {pgs : List (Option Pg)} {vs : List Value} {out : List Ent} {v : Value} (h : ScanInv2 w wr t5 pg vb np k nx sg nb pgs vs out v) (hx : Ext wr w') (he : entriesF pgs np k = entriesF pgs np k') (hk : k ≤ k') : ScanInv2 w w' t5 pg vb np k' nx sg nb pgs vs out v :=
  ⟨h.ext.trans hx, h.row.ext hx, h.rec_.ext hx, h.res.ext hx, h.ents.ext hx, by rw [← he]; exact h.eq, Nat.le_trans h.len hk⟩
def ScanPost (w w' : World) (e : Ending) (b : LB) : Prop := ∃ v, e = .returned (.agg #[.int .i64 b.next, .int .i64 b.segment, .int .i64 b.number, v]) ∧ EntsAt w' w.heap.size v b.entries
/-- what the first loop of scan keeps -/
def ScanInv (wl wr : World) (t5 pg vb np k nx : Nat) (pgs : List (Option Pg)) : Prop := ∃ vs, Mod (fun x => x = t5 ∨ x = pg ∨ x = vb) wl wr ∧ PagesRow wr pg vb (pgs.take k ++ List.replicate (np - k) none) vs ∧
  RowB wr t5 85 [.int .i64 nx, .int .i64 (maxL ((pgs.take k).map segP) : Nat), .int .i64 (maxL ((pgs.take k).map numP) : Nat), .slice none 0 0]
set_option maxHeartbeats 8000000 in
theorem scan_any {w : World} {S : Nat → Prop} {d : Nat} {G : DevF} {D : Dev} (h : DevAtF w S d G D) {i : Nat} {b : Blk} (hb : D.now[i]? = some b) :
    Calls Try.prog 53 #[.pointer (some ⟨d, 0, none⟩), .int .i64 i] w fun e w' => Ext w w' ∧ ScanPost w w' e (scanF b) := by
  obtain ⟨np, hnp⟩ : ∃ np, np = D.npages := ⟨_, rfl⟩
  have HNP := Lib.hid hnp
  have H := Lib.hid h
  have HB := Lib.hid hb
  obtain ⟨n1, n2⟩ := h.np
  rw [← hnp] at n1 n2
  have HBL : Hid (b.pages.length = np) := Lib.hid (by
    obtain ⟨p, cap, -, -, -, -, hl, -⟩ := h.now.cells hb
    rw [hl, hnp])
  have HPG := Lib.hid (fun W (hX : Ext w W) => pages_any (h.ext hX))
  rw [← hnp] at HPG
  have HNX := Lib.hid (fun W (hX : Ext w W) => devnext_any (h.ext hX) hb)
  obtain ⟨nx, hnx⟩ : ∃ nx, nx = nextF b := ⟨_, rfl⟩
  have HNX' := Lib.hid hnx
  rw [← hnx] at HNX
  obtain ⟨i0, hi0, hz0, hz1, hz2⟩ := info_parts page_info23
  have hmk := fun W => run_make (P := Try.prog) W 126 129 i0 _ Try.underlying126 hi0 hz0 .i64 .i64 np np (by omega) (by omega) (by rw [hz2]; omega) (by omega)
  rw [hz1] at hmk
  simp only [Int.toNat_natCast] at hmk
  have hmb := fun W => run_make_row' (P := Try.prog) 105 4 (.bool false) 1 Try.underlying105 (by kernel_rfl) rfl .i64 .i64 np (by omega) (by omega) W
  obtain ⟨wz, hwz⟩ : ∃ z, z = w.alloc (.cells #[.int .i64 0, .int .i64 0, .int .i64 0, .slice none 0 0] 85) := ⟨_, rfl⟩
  have HXZ := Lib.hid (show Ext w wz by rw [hwz]; exact (Ext.refl w).alloc _)
  have HRZ : Hid (RowB wz w.heap.size 85 [.int .i64 0, .int .i64 0, .int .i64 0, .slice none 0 0]) := Lib.hid (by rw [hwz]; exact row_laid w _ _)
  clear h hb hnp hnx hi0 hz0 hz1 hz2
  go_enter Try.func53, Try.ntmps53
  go_upto_region 1 with fail
  rw [← hwz]
  clear hwz
  go_upto_region 2 with (go_at_call 19; refine (HPG.out _ HXZ.out).mono ?_; rintro e w1 ⟨rfl, rfl⟩)
  obtain ⟨t5, ht5⟩ : ∃ z, z = wz.heap.size := ⟨_, rfl⟩
  obtain ⟨w1, hw1⟩ : ∃ z, z = wz.alloc (.cells #[.int .i64 np, .int .i64 0, .int .i64 0, .slice none 0 0] 85) := ⟨_, rfl⟩
  have HX1 : Hid (Ext w w1) := Lib.hid (by rw [hw1]; exact HXZ.out.alloc _)
  have HR1 : Hid (RowB w1 t5 85 [.int .i64 np, .int .i64 0, .int .i64 0, .slice none 0 0]) := Lib.hid (by rw [hw1, ht5]; exact row_laid wz _ _)
  have HZ1 : Hid (RowB w1 w.heap.size 85 [.int .i64 0, .int .i64 0, .int .i64 0, .slice none 0 0]) := Lib.hid (by rw [hw1]; exact HRZ.out.ext ((Ext.refl _).alloc _))
  have HT5 := Lib.hid (show w.heap.size < t5 by rw [ht5]; have := HRZ.out.lt; exact this)
  rw [← hw1, ← ht5]
  clear hw1 ht5
  go_upto_region 5 with (go_at_call 69; refine (HNX.out _ HX1.out).mono ?_; rintro e w2 ⟨rfl, hx2⟩; have hr2 := HR1.out.ext hx2; have c0 := hr2.cell (j := 0) rfl; have f0 := hr2.frozen (j := 0) (by simp))
  obtain ⟨w3, hw3⟩ : ∃ z, z = w2.setCell ⟨t5, 0, none⟩ (.int .i64 nx) := ⟨_, rfl⟩
  have HR3 : Hid (RowB w3 t5 85 [.int .i64 nx, .int .i64 0, .int .i64 0, .slice none 0 0]) := Lib.hid (by rw [hw3]; exact hr2.set 0 _ (by simp))
  have HM3 : Hid (Mod (fun x => x = t5) w2 w3) := Lib.hid (by rw [hw3]; exact mod_set w2 t5 0 _)
  have HX3 : Hid (Ext w w3) := Lib.hid (((Mod.of_ext (fun _ => False) (HX1.out.trans hx2)).then HM3.out (fun x hx => .inr (by have := HT5.out; omega))).ext (fun _ h => h.elim))
  have HZ3 := Lib.hid (HM3.out.rowB (HZ1.out.ext hx2) (fun e => by have := HT5.out; omega))
  rw [← hw3]
  clear hw3 hr2 c0 f0 hx2
  go_upto_region 6 with (go_at_call 19; refine (HPG.out _ HX3.out).mono ?_; rintro e w4 ⟨rfl, rfl⟩)
  obtain ⟨pg, hpg⟩ : ∃ z, z = w3.heap.size := ⟨_, rfl⟩
  obtain ⟨w4, hw4⟩ : ∃ z, z = w3.alloc (.cells (madeCells #[.int .i64 0, .int .i64 0, .int .i64 0, .int .i64 0, .int .i64 0, .slice none 0 0] (np * 6)) 129) := ⟨_, rfl⟩
  have X34 : Hid (Ext w3 w4) := Lib.hid (by rw [hw4]; exact (Ext.refl _).alloc _)
  have HP4 : Hid (RowB w4 pg 129 (((List.replicate np (none : Option Pg)).zip (List.replicate np (.slice none 0 0))).flatMap pgCells)) := Lib.hid (by
    have e : (((List.replicate np (none : Option Pg)).zip (List.replicate np (.slice none 0 0))).flatMap pgCells).toArray = madeCells #[.int .i64 0, .int .i64 0, .int .i64 0, .int .i64 0, .int .i64 0, .slice none 0 0] (np * 6) := by rw [← madeP, Array.toArray_toList]
    rw [hw4, hpg, ← e]
    exact row_laid w3 _ _)
  have HPGL := Lib.hid (show w.heap.size < pg by rw [hpg]; exact HZ3.out.lt)
  rw [← hw4, ← hpg]
  clear hw4 hpg
  go_upto_region 7 with (go_at_call 19; refine (HPG.out _ (HX3.out.trans X34.out)).mono ?_; rintro e w5 ⟨rfl, rfl⟩)
  obtain ⟨vb, hvb⟩ : ∃ z, z = w4.heap.size := ⟨_, rfl⟩
  obtain ⟨w5, hw5⟩ : ∃ z, z = w4.alloc (.cells (madeCells #[.bool false] np) 4) := ⟨_, rfl⟩
  have X45 : Hid (Ext w4 w5) := Lib.hid (by rw [hw5]; exact (Ext.refl _).alloc _)
  have HV5 : Hid (RowB w5 vb 4 (List.replicate np (.bool false))) := Lib.hid (by rw [hw5, hvb]; exact made_row w4 _ np _)
  have HVBL := Lib.hid (show w.heap.size < vb by rw [hvb]; exact (HZ3.out.ext X34.out).lt)
  rw [← hw5, ← hvb]
  clear hw5 hvb
  have HX5 := Lib.hid (HX3.out.trans (X34.out.trans X45.out))
  have HZ5 := Lib.hid (HZ3.out.ext (X34.out.trans X45.out))
  have HR5 := Lib.hid (HR3.out.ext (X34.out.trans X45.out))
  have HPR5 : Hid (PagesRow w5 pg vb (List.replicate np none) (List.replicate np (.slice none 0 0))) := Lib.hid ⟨by simp, HP4.out.ext X45.out, by rw [List.map_replicate]; exact HV5.out, fun j x v hj hv => by rw [List.eq_of_mem_replicate (List.mem_of_getElem? hj)]; trivial⟩
  clear HV5 HP4 hmk hmb
  obtain ⟨pgs, hpgs⟩ : ∃ pgs, pgs = b.pages.map readPage := ⟨_, rfl⟩
  have HPGS := Lib.hid hpgs
  have HPL := Lib.hid (show pgs.length = np by rw [hpgs, List.length_map]; exact HBL.out)
  clear hpgs
  go_wp2_with fail
  go_loopw [37] (fun i wr => ∃ k : Nat, i = .int .i64 k ∧ k ≤ np ∧ Hid (ScanInv w5 wr t5 pg vb np k nx pgs)) (fun i _ => np - (intOf i).toNat)
  case atStart => exact ⟨0, rfl, by omega, Lib.hid ⟨_, Mod.refl _ _, by rw [List.take_zero, List.nil_append, Nat.sub_zero]; exact HPR5.out, by rw [List.take_zero]; exact HR5.out⟩⟩
  case round =>
    obtain ⟨k, rfl, hk, hW⟩ := hrel
    by_cases hkn : k < np
    · have hki : (k : Int) < (np : Int) := by omega
      obtain ⟨vs, hm, hpr, hrw⟩ := hW.out
      have HM := Lib.hid hm
      have HPR := Lib.hid hpr
      have HRW := Lib.hid hrw
      have HXR := Lib.hid (show Ext w wr from ((Mod.of_ext (fun _ => False) HX5.out).then hm (fun x hx => .inr (by
        have h1 := HT5.out
        have h2 := HPGL.out
        have h3 := HVBL.out
        rcases hx with rfl | rfl | rfl <;> omega))).ext (fun _ h => h.elim))
      obtain ⟨x, hx⟩ : ∃ x, b.pages[k]? = some x := ⟨_, List.getElem?_eq_getElem (by rw [HBL.out]; exact hkn)⟩
      have HRD := Lib.hid (devread_any (H.out.ext HXR.out) HB.out hx)
      have HRE := Lib.hid (page_read H.out.now HB.out hx)
      have HFL := Lib.hid (show (filled (x.getD [])).length = 512 from filled_len (by
        obtain ⟨p, cap, -, -, -, hp, -, -⟩ := H.out.now.cells HB.out
        obtain ⟨v, -, -, hv⟩ := hp.at_ hx
        cases x with
        | none => simp
        | some y => rw [Option.getD_some, hv.2]; exact Nat.le_refl _))
      have HPX := Lib.hid (show pgs[k]? = some (readPage x) by rw [HPGS.out, List.getElem?_map, hx]; rfl)
      have hzz : ((pgs.take k ++ List.replicate (np - k) none).zip vs).length = np := by rw [List.length_zip, hpr.len, Nat.min_self, List.length_append, List.length_take, List.length_replicate, HPL.out]; omega
      clear hm hpr hrw hW hx hzz
      obtain ⟨fl, hfl⟩ : ∃ fl, fl = filled (x.getD []) := ⟨_, rfl⟩
      rw [← hfl] at HRD HRE HFL
      clear hfl
      go_upto_region 12 with (go_at_call 70; refine HRD.out.mono ?_; rintro e w6 ⟨u, rfl, hx6, ho6⟩)
      obtain ⟨Au, cu, rfl, -, -⟩ := ho6.bs.slice
      have HRP := Lib.hid (fread_any ho6.bs HFL.out)
      rw [HRE.out] at HRP
      have HX6 := Lib.hid hx6
      have HPR6 := Lib.hid (HPR.out.ext hx6)
      have HRW6 := Lib.hid (HRW.out.ext hx6)
      clear hx6 ho6
      have HPV := Lib.hid (show pg ≠ vb from HPR.out.row.apart HPR.out.marks (by decide))
      have HOLD := Lib.hid (fun W (hX : Ext w6 W) => (HPR6.out.ext hX).old (k := k) (by rw [List.getElem?_append_right (by rw [List.length_take]; omega), List.length_take, Nat.min_eq_left (by rw [HPL.out]; omega), Nat.sub_self, List.getElem?_replicate, if_pos (by omega)]))
      cases hrp : readPage x with
      | none =>
        rw [hrp] at HRP HPX
        clear hrp
        have HRQ := Lib.hid (show Calls Try.prog 71 #[.slice Au fl.length cu] w6 (fun e w' => e = .returned (.tuple #[.agg #[.int .i64 0, .int .i64 0, .int .i64 0, .int .i64 0, .int .i64 0, .slice none 0 0], .bool false]) ∧ Ext w6 w') from HRP.out.mono (fun _ _ h => ⟨h.2, h.1⟩))
        clear HRP
        go_upto_region 13 with (first
          | (go_at_call 71; refine HRQ.out.mono ?_; rintro e w7 ⟨rfl, hx7⟩; have HO7 := Lib.hid (HOLD.out _ hx7); have HX7 := Lib.hid hx7; clear hx7)
          | (refine wpList_store_mid rfl 129 (.tmp 58) (.tmp 56) rfl pg (k * 6) #[.int .i64 0, .int .i64 0, .int .i64 0, .int .i64 0, .int .i64 0, .slice none 0 0] rfl rfl (there6 HO7.out) (by kernel_rfl) (by simp [Value.oneCell']) ?_; have HM8 := Lib.hid (mod_setCells pg [.int .i64 0, .int .i64 0, .int .i64 0, .int .i64 0, .int .i64 0, .slice none 0 0] (k * 6) w7); have o6 := HM8.out.cell HO7.out.2.2.1 (fun e => HPV.out e.symm); have y6 : w7.frozen? ⟨vb, k, none⟩ = false := HO7.out.2.2.2; rw [← World.frozen?_of_block (a := ⟨vb, k, none⟩) (HM8.out.block vb (World.block_lt_of_cell? _ _ HO7.out.2.2.1) (fun e => HPV.out e.symm))] at y6; generalize hw8 : w7.setCells pg (k * 6) _ = w8 at *))
        obtain ⟨hpr9, hm9⟩ := PagesRow.put (w1 := w8) (w2 := w8.setCell ⟨vb, k, none⟩ (.bool false)) (HPR6.out.ext HX7.out) (k := k) (by rw [List.length_append, List.length_take, List.length_replicate, HPL.out]; omega) none (.slice none 0 0) _ _ _ _ _ _ rfl (by rw [← hw8]; rfl) rfl trivial
        rw [cur_set HPL.out HPX.out] at hpr9
        have m6 := hpr9.marks.cell (j := k) (v := .bool false) (by rw [List.getElem?_map, List.getElem?_append_left (by rw [List.length_take, HPL.out]; omega), List.getElem?_take, if_pos (by omega), HPX.out]; rfl)
        have HPR9 := Lib.hid hpr9
        have HM9 := Lib.hid ((HM.out.ext' (HX6.out.trans HX7.out)).then hm9 (fun x hx => .inl (.inr hx)))
        have HRW7 := Lib.hid (HRW6.out.ext HX7.out)
        have HRW9 := Lib.hid (hm9.rowB HRW7.out (fun e => e.elim (fun e => HRW7.out.apart (HPR6.out.ext HX7.out).row (by decide) e) (fun e => HRW7.out.apart (HPR6.out.ext HX7.out).marks (by decide) e)))
        clear hpr9 hm9 hw8
        go_wp2_with fail
        refine ⟨⟨k + 1, by go_num, by omega, Lib.hid ⟨_, HM9.out, HPR9.out, ?_⟩⟩, by simp [intOf]; omega⟩
        rw [max_snoc segP HPX.out, max_snoc numP HPX.out]
        simpa [segP, numP] using HRW9.out
      | some p =>
        rw [hrp] at HRP HPX
        clear hrp
        have HRQ := Lib.hid (show Calls Try.prog 71 #[.slice Au fl.length cu] w6 (fun e w' => ∃ v, e = .returned (.tuple #[.agg #[.int .i64 p.kind, .int .i64 p.number, .int .i64 p.segment, .int .i64 p.part, .int .i64 p.parts, v], .bool true]) ∧ BS w' v p.data ∧ Ext w6 w') from HRP.out.mono (fun _ _ h => by obtain ⟨h1, v, h2, h3⟩ := h; exact ⟨v, h2, h3, h1⟩))
        clear HRP
        go_upto_region 13 with (first
          | (go_at_call 71; refine HRQ.out.mono ?_; rintro e w7 ⟨v7, rfl, hv7, hx7⟩; obtain ⟨A7, c7, rfl, -, -⟩ := hv7.slice; have HV7 := Lib.hid hv7; have HO7 := Lib.hid (HOLD.out _ hx7); have HX7 := Lib.hid hx7; clear hx7 hv7)
          | (refine wpList_store_mid rfl 129 (.tmp 58) (.tmp 56) rfl pg (k * 6) #[.int .i64 p.kind, .int .i64 p.number, .int .i64 p.segment, .int .i64 p.part, .int .i64 p.parts, .slice A7 p.data.length c7] rfl rfl (there6 HO7.out) (by kernel_rfl) (by simp [Value.oneCell']) ?_; have HM8 := Lib.hid (mod_setCells pg [.int .i64 p.kind, .int .i64 p.number, .int .i64 p.segment, .int .i64 p.part, .int .i64 p.parts, .slice A7 p.data.length c7] (k * 6) w7); have o6 := HM8.out.cell HO7.out.2.2.1 (fun e => HPV.out e.symm); have y6 : w7.frozen? ⟨vb, k, none⟩ = false := HO7.out.2.2.2; rw [← World.frozen?_of_block (a := ⟨vb, k, none⟩) (HM8.out.block vb (World.block_lt_of_cell? _ _ HO7.out.2.2.1) (fun e => HPV.out e.symm))] at y6; generalize hw8 : w7.setCells pg (k * 6) _ = w8 at *))
        obtain ⟨hpr9, hm9⟩ := PagesRow.put (w1 := w8) (w2 := w8.setCell ⟨vb, k, none⟩ (.bool true)) (HPR6.out.ext HX7.out) (k := k) (by rw [List.length_append, List.length_take, List.length_replicate, HPL.out]; omega) (some p) (.slice A7 p.data.length c7) _ _ _ _ _ _ rfl (by rw [← hw8]; rfl) rfl ⟨A7, c7, rfl, HV7.out⟩
        rw [cur_set HPL.out HPX.out] at hpr9
        obtain ⟨w9, hw9⟩ : ∃ z, z = w8.setCell ⟨vb, k, none⟩ (.bool true) := ⟨_, rfl⟩
        rw [← hw9] at hpr9 hm9
        rw [← hw9]
        clear hw9 hw8
        have m6 := hpr9.marks.cell (j := k) (v := .bool true) (by rw [List.getElem?_map, List.getElem?_append_left (by rw [List.length_take, HPL.out]; omega), List.getElem?_take, if_pos (by omega), HPX.out]; rfl)
        have HPR9 := Lib.hid hpr9
        have HM9 := Lib.hid ((HM.out.ext' (HX6.out.trans HX7.out)).then hm9 (fun x hx => .inl (.inr hx)))
        have HRW7 := Lib.hid (HRW6.out.ext HX7.out)
        have hrw9 := hm9.rowB HRW7.out (fun e => e.elim (fun e => HRW7.out.apart (HPR6.out.ext HX7.out).row (by decide) e) (fun e => HRW7.out.apart (HPR6.out.ext HX7.out).marks (by decide) e))
        have HTA := Lib.hid (And.intro (hrw9.apart hpr9.row (by decide)) (hrw9.apart hpr9.marks (by decide)))
        obtain ⟨s0, hs0⟩ : ∃ z, z = maxL ((pgs.take k).map segP) := ⟨_, rfl⟩
        obtain ⟨n0, hn0⟩ : ∃ z, z = maxL ((pgs.take k).map numP) := ⟨_, rfl⟩
        rw [← hs0, ← hn0] at hrw9
        have HS0 := Lib.hid hs0
        have HN0 := Lib.hid hn0
        have HRW9 := Lib.hid hrw9
        obtain ⟨hg1, hg2⟩ := hpr9.get2 (k := k) (p := p) (by rw [List.getElem?_append_left (by rw [List.length_take, HPL.out]; omega), List.getElem?_take, if_pos (by omega), HPX.out])
        clear hpr9 hm9 hrw9 hs0 hn0 o6 y6
        go_upto_region 14 with fail
        clear m6
        have hx1 : max (s0 : Int) (p.segment : Int) = ((max s0 p.segment : Nat) : Int) := by omega
        have hx2 : max (n0 : Int) (p.number : Int) = ((max n0 p.number : Nat) : Int) := by omega
        refine wp_region_C (C := fun W => Mod (fun x => x = t5) w9 W) (by kernel_rfl) ?_
        obtain ⟨wv, hwv⟩ : ∃ z, z = w9.drew := ⟨_, rfl⟩
        rw [← hwv]
        have XE := Lib.hid (show Ext w9 wv by rw [hwv]; exact (Ext.refl _).drew)
        have XD := Lib.hid (show Mod (fun x => x = t5) w9 wv from Mod.of_ext _ XE.out)
        have HRWv := Lib.hid (HRW9.out.ext XE.out)
        clear hwv
        have c1 := HRWv.out.cell (j := 1) rfl
        have c2 := HRWv.out.cell (j := 2) rfl
        have f1 := HRWv.out.frozen (j := 1) (by simp)
        have f2 := HRWv.out.frozen (j := 2) (by simp)
        refine qC_take (i := 0) (s := some 64) (v := ?v1) rfl rfl (by kernel_rfl) (by kernel_rfl) (by kernel_rfl) (fun _ _ _ h => h) XD.out (by kernel_rfl) ?hy1 ?h1
        case hy1 => intro W hW; have a1 := hW.cell hg1 HTA.out.1.symm; have a2 := hW.cell hg2 HTA.out.1.symm; go_simp; exact rfl
        try simp only [Act.put, List.setIfInBounds_toArray, List.set_cons_succ, List.set_cons_zero]
        refine qC_take (i := 2) (s := some 66) (v := ?v2) rfl rfl (by kernel_rfl) (by kernel_rfl) (by kernel_rfl) (fun _ _ _ h => h) XD.out (by kernel_rfl) ?hy2 ?h2
        case hy2 => intro W hW; have a1 := hW.cell hg1 HTA.out.1.symm; have a2 := hW.cell hg2 HTA.out.1.symm; go_simp; exact rfl
        try simp only [Act.put, List.setIfInBounds_toArray, List.set_cons_succ, List.set_cons_zero]
        refine qC_take (i := 3) (s := some 67) (v := ?v3) rfl rfl (by kernel_rfl) (by kernel_rfl) (by kernel_rfl) (fun _ _ _ h => h) XD.out (by kernel_rfl) ?hy3 ?h3
        case hy3 => intro W hW; have a1 := hW.cell hg1 HTA.out.1.symm; have a2 := hW.cell hg2 HTA.out.1.symm; go_simp; exact rfl
        try simp only [Act.put, List.setIfInBounds_toArray, List.set_cons_succ, List.set_cons_zero]
        refine qC_take (i := 8) (s := some 72) (v := ?v4) rfl rfl (by kernel_rfl) (by kernel_rfl) (by kernel_rfl) (fun _ _ _ h => h) XD.out (by kernel_rfl) ?hy4 ?h4
        case hy4 => intro W hW; have a1 := hW.cell hg1 HTA.out.1.symm; have a2 := hW.cell hg2 HTA.out.1.symm; go_simp; exact rfl
        try simp only [Act.put, List.setIfInBounds_toArray, List.set_cons_succ, List.set_cons_zero]
        refine qC_take (i := 10) (s := some 74) (v := ?v5) rfl rfl (by kernel_rfl) (by kernel_rfl) (by kernel_rfl) (fun _ _ _ h => h) XD.out (by kernel_rfl) ?hy5 ?h5
        case hy5 => intro W hW; have a1 := hW.cell hg1 HTA.out.1.symm; have a2 := hW.cell hg2 HTA.out.1.symm; go_simp; exact rfl
        try simp only [Act.put, List.setIfInBounds_toArray, List.set_cons_succ, List.set_cons_zero]
        refine qC_take (i := 11) (s := some 75) (v := ?v6) rfl rfl (by kernel_rfl) (by kernel_rfl) (by kernel_rfl) (fun _ _ _ h => h) XD.out (by kernel_rfl) ?hy6 ?h6
        case hy6 => intro W hW; have a1 := hW.cell hg1 HTA.out.1.symm; have a2 := hW.cell hg2 HTA.out.1.symm; go_simp; exact rfl
        try simp only [Act.put, List.setIfInBounds_toArray, List.set_cons_succ, List.set_cons_zero]
        refine qC_take (i := 4) (s := some 68) (v := ?v7) rfl rfl (by kernel_rfl) (by kernel_rfl) (by kernel_rfl) (fun _ _ _ h => h) XD.out (by kernel_rfl) ?hy7 ?h7
        case hy7 => intro W hW; have a1 := hW.cell hg1 HTA.out.1.symm; have a2 := hW.cell hg2 HTA.out.1.symm; go_simp; exact rfl
        try simp only [Act.put, List.setIfInBounds_toArray, List.set_cons_succ, List.set_cons_zero]
        refine qC_take (i := 12) (s := some 76) (v := ?v8) rfl rfl (by kernel_rfl) (by kernel_rfl) (by kernel_rfl) (fun _ _ _ h => h) XD.out (by kernel_rfl) ?hy8 ?h8
        case hy8 => intro W hW; have a1 := hW.cell hg1 HTA.out.1.symm; have a2 := hW.cell hg2 HTA.out.1.symm; go_simp; exact rfl
        try simp only [Act.put, List.setIfInBounds_toArray, List.set_cons_succ, List.set_cons_zero]
        refine qC_take (i := 5) (s := some 69) (v := ?v9) rfl rfl (by kernel_rfl) (by kernel_rfl) (by kernel_rfl) (fun _ _ _ h => h) XD.out (by kernel_rfl) ?hy9 ?h9
        case hy9 => intro W hW; have a1 := hW.cell hg1 HTA.out.1.symm; have a2 := hW.cell hg2 HTA.out.1.symm; go_simp; exact rfl
        try simp only [Act.put, List.setIfInBounds_toArray, List.set_cons_succ, List.set_cons_zero]
        refine qC_take (i := 13) (s := some 77) (v := ?v10) rfl rfl (by kernel_rfl) (by kernel_rfl) (by kernel_rfl) (fun _ _ _ h => h) XD.out (by kernel_rfl) ?hy10 ?h10
        case hy10 => intro W hW; have a1 := hW.cell hg1 HTA.out.1.symm; have a2 := hW.cell hg2 HTA.out.1.symm; go_simp; exact rfl
        try simp only [Act.put, List.setIfInBounds_toArray, List.set_cons_succ, List.set_cons_zero]
        refine qC_take (i := 6) (s := some 70) (v := ?v11) rfl rfl (by kernel_rfl) (by kernel_rfl) (by kernel_rfl) (fun _ _ _ h => h) XD.out (by kernel_rfl) ?hy11 ?h11
        case hy11 => intro W hW; have a1 := hW.cell hg1 HTA.out.1.symm; have a2 := hW.cell hg2 HTA.out.1.symm; go_simp; exact rfl
        try simp only [Act.put, List.setIfInBounds_toArray, List.set_cons_succ, List.set_cons_zero]
        refine qC_take (i := 14) (s := some 78) (v := ?v12) rfl rfl (by kernel_rfl) (by kernel_rfl) (by kernel_rfl) (fun _ _ _ h => h) XD.out (by kernel_rfl) ?hy12 ?h12
        case hy12 => intro W hW; have a1 := hW.cell hg1 HTA.out.1.symm; have a2 := hW.cell hg2 HTA.out.1.symm; go_simp; exact rfl
        try simp only [Act.put, List.setIfInBounds_toArray, List.set_cons_succ, List.set_cons_zero]
        refine wpAnyC_two 1 9 (by kernel_rfl) ?_ ?_
        rotate_left
        · refine wpOpC_of rfl (by kernel_rfl) (fun KK hKK => ?_)
          go_simp
          refine hKK _ _ XD.out ?_
          clear hKK KK
          try simp only [Act.put, List.setIfInBounds_toArray, List.set_cons_succ, List.set_cons_zero]
          refine qC_take (i := 15) (s := some 79) (v := .int .i64 ((max n0 p.number : Nat) : Int)) rfl rfl (by kernel_rfl) (by kernel_rfl) (by kernel_rfl) (fun _ _ _ h => h) XD.out (by kernel_rfl) ?_ ?_
          · intro W hW; exact exec_max rfl rfl rfl (by rw [hx2]) W
          try simp only [Act.put, List.setIfInBounds_toArray, List.set_cons_succ, List.set_cons_zero]
          refine wpAnyC_one 1 (by kernel_rfl) rfl (by kernel_rfl) (fun KK hKK => ?_)
          go_simp
          refine hKK _ _ XD.out ?_
          clear hKK KK
          try simp only [Act.put, List.setIfInBounds_toArray, List.set_cons_succ, List.set_cons_zero]
          refine qC_take (i := 7) (s := some 71) (v := .int .i64 ((max s0 p.segment : Nat) : Int)) rfl rfl (by kernel_rfl) (by kernel_rfl) (by kernel_rfl) (fun _ _ _ h => h) XD.out (by kernel_rfl) ?_ ?_
          · intro W hW; exact exec_max rfl rfl rfl (by rw [hx1]) W
          try simp only [Act.put, List.setIfInBounds_toArray, List.set_cons_succ, List.set_cons_zero]
          refine qC_take (i := 16) (s := some 80) (v := ?v13) rfl rfl (by kernel_rfl) (by kernel_rfl) (by kernel_rfl) (fun _ _ _ h => h) XD.out (by kernel_rfl) ?hy13 ?h13
          case hy13 => intro W hW; skip; go_simp; exact rfl
          try simp only [Act.put, List.setIfInBounds_toArray, List.set_cons_succ, List.set_cons_zero]
          have HM5 := Lib.hid (mod_set wv t5 1 (.int .i64 ((max s0 p.segment : Nat) : Int)))
          have HR5 := Lib.hid (HRWv.out.set 1 (.int .i64 ((max s0 p.segment : Nat) : Int)) (by simp))
          refine wpAnyC_one 17 (by kernel_rfl) rfl (by kernel_rfl) (fun KK hKK => ?_)
          go_simp
          refine hKK _ _ (XD.out.trans HM5.out) ?_
          clear hKK KK
          try simp only [Act.put, List.setIfInBounds_toArray, List.set_cons_succ, List.set_cons_zero]
          refine qC_take (i := 18) (s := some 81) (v := ?v14) rfl rfl (by kernel_rfl) (by kernel_rfl) (by kernel_rfl) (fun _ _ _ h => h) (XD.out.trans HM5.out) (by kernel_rfl) ?hy14 ?h14
          case hy14 => intro W hW; skip; go_simp; exact rfl
          try simp only [Act.put, List.setIfInBounds_toArray, List.set_cons_succ, List.set_cons_zero]
          refine wpAnyC_one 19 (by kernel_rfl) rfl (by kernel_rfl) (fun KK hKK => ?_)
          go_simp
          have HM6 := Lib.hid (HM5.out.trans (mod_set (wv.setCell ⟨t5, 1, none⟩ (.int .i64 ((max s0 p.segment : Nat) : Int))) t5 2 (.int .i64 ((max n0 p.number : Nat) : Int))))
          have HR6 := Lib.hid (HR5.out.set 2 (.int .i64 ((max n0 p.number : Nat) : Int)) (by simp))
          refine hKK _ _ (XD.out.trans HM6.out) ?_
          clear hKK KK c1 c2 f1 f2
          try simp only [Act.put, List.setIfInBounds_toArray, List.set_cons_succ, List.set_cons_zero]
          refine ⟨by kernel_rfl, ?_⟩
          go_wp2_with fail
          refine ⟨⟨k + 1, by go_num, by omega, Lib.hid ⟨_, (HM9.out.ext' XE.out).then HM6.out (fun x hx => .inl (.inl hx)), (HPR9.out.ext XE.out).mod HM6.out (no8_row HRWv.out (by decide)) HTA.out.1.symm HTA.out.2.symm, ?_⟩⟩, by simp [intOf]; omega⟩
          rw [max_snoc segP HPX.out, max_snoc numP HPX.out, ← HS0.out, ← HN0.out]
          exact HR6.out
        · refine wpOpC_of rfl (by kernel_rfl) (fun KK hKK => ?_)
          go_simp
          refine hKK _ _ XD.out ?_
          clear hKK KK
          try simp only [Act.put, List.setIfInBounds_toArray, List.set_cons_succ, List.set_cons_zero]
          refine qC_take (i := 7) (s := some 71) (v := .int .i64 ((max s0 p.segment : Nat) : Int)) rfl rfl (by kernel_rfl) (by kernel_rfl) (by kernel_rfl) (fun _ _ _ h => h) XD.out (by kernel_rfl) ?_ ?_
          · intro W hW; exact exec_max rfl rfl rfl (by rw [hx1]) W
          try simp only [Act.put, List.setIfInBounds_toArray, List.set_cons_succ, List.set_cons_zero]
          refine wpAnyC_one 9 (by kernel_rfl) rfl (by kernel_rfl) (fun KK hKK => ?_)
          go_simp
          refine hKK _ _ XD.out ?_
          clear hKK KK
          try simp only [Act.put, List.setIfInBounds_toArray, List.set_cons_succ, List.set_cons_zero]
          refine qC_take (i := 15) (s := some 79) (v := .int .i64 ((max n0 p.number : Nat) : Int)) rfl rfl (by kernel_rfl) (by kernel_rfl) (by kernel_rfl) (fun _ _ _ h => h) XD.out (by kernel_rfl) ?_ ?_
          · intro W hW; exact exec_max rfl rfl rfl (by rw [hx2]) W
          try simp only [Act.put, List.setIfInBounds_toArray, List.set_cons_succ, List.set_cons_zero]
          refine qC_take (i := 16) (s := some 80) (v := ?v15) rfl rfl (by kernel_rfl) (by kernel_rfl) (by kernel_rfl) (fun _ _ _ h => h) XD.out (by kernel_rfl) ?hy15 ?h15
          case hy15 => intro W hW; skip; go_simp; exact rfl
          try simp only [Act.put, List.setIfInBounds_toArray, List.set_cons_succ, List.set_cons_zero]
          have HM5 := Lib.hid (mod_set wv t5 1 (.int .i64 ((max s0 p.segment : Nat) : Int)))
          have HR5 := Lib.hid (HRWv.out.set 1 (.int .i64 ((max s0 p.segment : Nat) : Int)) (by simp))
          refine wpAnyC_one 17 (by kernel_rfl) rfl (by kernel_rfl) (fun KK hKK => ?_)
          go_simp
          refine hKK _ _ (XD.out.trans HM5.out) ?_
          clear hKK KK
          try simp only [Act.put, List.setIfInBounds_toArray, List.set_cons_succ, List.set_cons_zero]
          refine qC_take (i := 18) (s := some 81) (v := ?v16) rfl rfl (by kernel_rfl) (by kernel_rfl) (by kernel_rfl) (fun _ _ _ h => h) (XD.out.trans HM5.out) (by kernel_rfl) ?hy16 ?h16
          case hy16 => intro W hW; skip; go_simp; exact rfl
          try simp only [Act.put, List.setIfInBounds_toArray, List.set_cons_succ, List.set_cons_zero]
          refine wpAnyC_one 19 (by kernel_rfl) rfl (by kernel_rfl) (fun KK hKK => ?_)
          go_simp
          have HM6 := Lib.hid (HM5.out.trans (mod_set (wv.setCell ⟨t5, 1, none⟩ (.int .i64 ((max s0 p.segment : Nat) : Int))) t5 2 (.int .i64 ((max n0 p.number : Nat) : Int))))
          have HR6 := Lib.hid (HR5.out.set 2 (.int .i64 ((max n0 p.number : Nat) : Int)) (by simp))
          refine hKK _ _ (XD.out.trans HM6.out) ?_
          clear hKK KK c1 c2 f1 f2
          try simp only [Act.put, List.setIfInBounds_toArray, List.set_cons_succ, List.set_cons_zero]
          refine ⟨by kernel_rfl, ?_⟩
          go_wp2_with fail
          refine ⟨⟨k + 1, by go_num, by omega, Lib.hid ⟨_, (HM9.out.ext' XE.out).then HM6.out (fun x hx => .inl (.inl hx)), (HPR9.out.ext XE.out).mod HM6.out (no8_row HRWv.out (by decide)) HTA.out.1.symm HTA.out.2.symm, ?_⟩⟩, by simp [intOf]; omega⟩
          rw [max_snoc segP HPX.out, max_snoc numP HPX.out, ← HS0.out, ← HN0.out]
          exact HR6.out
    · have hki : (np : Int) ≤ (k : Int) := by omega
      obtain rfl : np = k := by omega
      obtain ⟨vs, hm, hpr, hrw⟩ := hW.out
      rw [Nat.sub_self, List.replicate_zero, List.append_nil, List.take_of_length_le (by rw [HPL.out]; exact Nat.le_refl _)] at hpr
      rw [List.take_of_length_le (by rw [HPL.out]; exact Nat.le_refl _)] at hrw
      obtain ⟨sg, hsg⟩ : ∃ z, z = maxL (pgs.map segP) := ⟨_, rfl⟩
      obtain ⟨nb, hnb⟩ : ∃ z, z = maxL (pgs.map numP) := ⟨_, rfl⟩
      rw [← hsg, ← hnb] at hrw
      have HSG := Lib.hid hsg
      have HNB := Lib.hid hnb
      have HI0 : Hid (ScanInv2 w wr t5 pg vb np 0 nx sg nb pgs vs [] (.slice none 0 0)) := Lib.hid ⟨((Mod.of_ext (fun _ => False) HX5.out).then hm (fun x hx => .inr (by
        have h1 := HT5.out
        have h2 := HPGL.out
        have h3 := HVBL.out
        rcases hx with rfl | rfl | rfl <;> omega))).ext (fun _ h => h.elim), hpr, hrw, hm.rowB HZ5.out (fun e => by
        have h1 := HT5.out
        have h2 := HPGL.out
        have h3 := HVBL.out
        rcases e with e | e | e <;> omega), EntsAt.nil _ _, rfl, Nat.zero_le _⟩
      have HBD : Hid (∀ p, some p ∈ pgs → p.data.length ≤ 512 ∧ 1 ≤ p.parts) := Lib.hid (fun p hp => by
        rw [HPGS.out] at hp
        obtain ⟨x, hx, e⟩ := List.mem_map.1 hp
        have hfl : (match x with | none => filled [] | some x => x).length = 512 := by
          obtain ⟨q, cap, -, -, -, hq, -, -⟩ := H.out.now.cells HB.out
          obtain ⟨j, hj⟩ := List.getElem?_of_mem hx
          obtain ⟨v, -, -, hv⟩ := hq.at_ hj
          cases x with
          | none => exact filled_len (by simp)
          | some y => exact hv.2
        have := readF_bounds hfl e
        exact ⟨this.1, this.2.1⟩)
      obtain ⟨w0, hw0⟩ : ∃ z, z = wr := ⟨_, rfl⟩
      clear hW hm hpr hrw hsg hnb HX1 HR1 HZ1 HX3 HR3 HM3 HZ3 X34 X45 HX5 HZ5 HR5 HPR5 HXZ HRZ HNX HPG
      go_wp2_with fail
      go_loopw [13] (fun i wr => ∃ k : Nat, i = .int .i64 k ∧ k ≤ np ∧ Hid (∃ vs out v, ScanInv2 w wr t5 pg vb np k nx sg nb pgs vs out v)) (fun i _ => np - (intOf i).toNat)
      case atStart => exact ⟨0, rfl, by omega, Lib.hid ⟨_, _, _, HI0.out⟩⟩
      case round =>
        clear hw0 HI0 w0
        obtain ⟨k, rfl, hk, hW⟩ := hrel
        obtain ⟨vs, out, v, hI⟩ := hW.out
        have HI := Lib.hid hI
        obtain ⟨A, c, rfl⟩ := hI.ents.slice
        clear hI hW
        by_cases hkn : k < np
        · have hki : (k : Int) < (np : Int) := by omega
          have HAT := Lib.hid (at_any (HI.out.row.st HBD.out) HPL.out.symm n2 hkn)
          cases ha : atF pgs k with
          | none =>
            rw [ha] at HAT
            have HA := Lib.hid ha
            clear ha
            go_wp2_with (go_at_call 72; refine HAT.out.mono ?_; rintro e w3 ⟨hx3, rfl⟩)
            have HX3 := Lib.hid hx3
            clear hx3
            exact ⟨⟨k + 1, by go_num, by omega, Lib.hid ⟨vs, out, _, HI.out.next (HX3.out.alloc _) (by have h9 := entriesF_none (l := pgs) (by rw [HPL.out]; exact hkn) HA.out; rw [HPL.out] at h9; exact h9) (Nat.le_succ _)⟩⟩, by simp [intOf]; omega⟩
          | some x =>
            rw [ha] at HAT
            have HA := Lib.hid ha
            clear ha
            go_upto_region 20 with (go_at_call 72; refine HAT.out.mono ?_; rintro e w3 ⟨hx3, v3, rfl, hv3⟩; obtain ⟨A3, c3, rfl, -, -⟩ := hv3.slice)
            obtain ⟨t14, ht14⟩ : ∃ z, z = w3.heap.size := ⟨_, rfl⟩
            obtain ⟨w4, hw4⟩ : ∃ z, z = w3.alloc (.cells #[.int .i64 x.kind, .int .i64 x.number, .int .i64 x.segment, .int .i64 x.pages, .string (st x.key), .slice A3 x.value.length c3] 90) := ⟨_, rfl⟩
            have X34 := Lib.hid (show Ext w3 w4 by rw [hw4]; exact (Ext.refl _).alloc _)
            have HE4 : Hid (RowB w4 t14 90 [.int .i64 x.kind, .int .i64 x.number, .int .i64 x.segment, .int .i64 x.pages, .string (st x.key), .slice A3 x.value.length c3]) := Lib.hid (by rw [hw4, ht14]; exact row_laid w3 _ _)
            have HV4 := Lib.hid (hv3.ext X34.out)
            have HT14 := Lib.hid (show wr.heap.size ≤ t14 by rw [ht14]; exact hx3.size)
            rw [← hw4, ← ht14]
            have HI4 := Lib.hid (HI.out.next (k' := k) (hx3.trans X34.out) rfl (Nat.le_refl _))
            clear hw4 ht14 hx3 hv3
            have HPGX := Lib.hid (atF_pages HA.out)
            have HOL := Lib.hid HI4.out.len
            have XA := Lib.hid ((Ext.refl w4).alloc (.cells #[.int .i64 x.kind, .int .i64 x.number, .int .i64 x.segment, .int .i64 x.pages, .string (st x.key), .slice A3 x.value.length c3] 90))
            have HRD := Lib.hid (reads_laid w4 90 [.int .i64 x.kind, .int .i64 x.number, .int .i64 x.segment, .int .i64 x.pages, .string (st x.key), .slice A3 x.value.length c3] 6 1 rfl)
            have HRT := Lib.hid (HI4.out.rec_.ext XA.out)
            obtain ⟨es, hes1, hes2, hes3⟩ := HI4.out.ents.ext XA.out
            have HES1 := Lib.hid hes1
            have HOWN := Lib.hid hes2
            have HES3 := Lib.hid hes3
            obtain ⟨i0, hi0, hz0, hz1, hz2⟩ := info_parts ent_info23
            have b3 := HI4.out.rec_.cell (j := 3) rfl
            have e0 := HE4.out.cell (j := 0) rfl
            have e1 := HE4.out.cell (j := 1) rfl
            have e2 := HE4.out.cell (j := 2) rfl
            have e3 := HE4.out.cell (j := 3) rfl
            have e4 := HE4.out.cell (j := 4) rfl
            have e5 := HE4.out.cell (j := 5) rfl
            clear hes1 hes2 hes3
            go_upto_region 21 with (at_builtin; refine wpList_append_any _ rfl (.tmp 96) (.tmp 98) 83 rfl w.heap.size 90 i0 _ 6 72 Try.underlying83 hi0 hz0 hz1 hz2 rfl (by decide) (.slice A out.length c) out.length ((out.zip es).flatMap entCells) rfl HOWN.out _ (some ⟨w4.heap.size, 0, none⟩) 1 1 _ rfl HRD.out (by simp [Value.oneCell']) (by have := HOL.out; simp only [maxLen]; omega) (by have := HOL.out; omega) (by have h1 := HI4.out.ext.size; have h2 := XA.out.size; exact Nat.le_trans h1 h2) ?_; intro v6 w6 ho6 hg6 hb6; obtain ⟨A6, c6, rfl⟩ := own_slice ho6; have hrw6 := (grown_mod hg6).rowB HRT.out ((HI4.out.ents.ext XA.out).apart HRT.out (by decide)); have u3 := hrw6.cell (j := 3) rfl; have g3 := hrw6.frozen (j := 3) (by simp))
            have HEA := Lib.hid (HI4.out.ents.ext XA.out)
            have HG6 := Lib.hid (grown_mod hg6)
            have HRW6 := Lib.hid hrw6
            obtain ⟨w7, hw7⟩ : ∃ z, z = w6.setCell ⟨t5, 3, none⟩ (.slice A6 (out.length + 1) c6) := ⟨_, rfl⟩
            have HM7 := Lib.hid (show Mod (fun x => x = t5) w6 w7 by rw [hw7]; exact mod_set w6 t5 3 _)
            have HRT7 : Hid (RowB w7 t5 85 [.int .i64 nx, .int .i64 sg, .int .i64 nb, .slice A6 (out.length + 1) c6]) := Lib.hid (by rw [hw7]; exact hrw6.set 3 _ (by simp))
            have HR14 := Lib.hid (HM7.out.rowB (HG6.out.rowB (HE4.out.ext XA.out) (fun e => by
              obtain ⟨⟨C, h1⟩, -⟩ := HI.out.ents.blk e
              have h2 := (Array.getElem?_eq_some_iff.1 h1).1
              have h3 := HT14.out
              omega)) (fun e => (hrw6.apart (HG6.out.rowB (HE4.out.ext XA.out) (fun e => by
              obtain ⟨⟨C, h1⟩, -⟩ := HI.out.ents.blk e
              have h2 := (Array.getElem?_eq_some_iff.1 h1).1
              have h3 := HT14.out
              omega)) (by decide)) e.symm))
            have HPU : Hid (EntsAt w6 w.heap.size (.slice A6 (out.length + 1) c6) (out ++ [x])) := Lib.hid (EntsAt.push HES1.out HES3.out HG6.out HEA.out.no8 (HV4.out.ext XA.out) ho6)
            have HPR7 := Lib.hid (((HI4.out.row.ext XA.out).mod HG6.out HEA.out.no8 (HEA.out.apart (HI4.out.row.ext XA.out).row (by decide)) (HEA.out.apart (HI4.out.row.ext XA.out).marks (by decide))).mod HM7.out (no8_row hrw6 (by decide))
              (fun e => HRT.out.apart (HI4.out.row.ext XA.out).row (by decide) e.symm) (fun e => HRT.out.apart (HI4.out.row.ext XA.out).marks (by decide) e.symm))
            have HRS7 := Lib.hid (HM7.out.rowB (HG6.out.rowB (HI4.out.res.ext XA.out) (HEA.out.apart (HI4.out.res.ext XA.out) (by decide))) (fun e => by have := HT5.out; omega))
            have HX7 := Lib.hid (show Ext w w7 from (((Mod.of_ext (fun _ => False) (HI4.out.ext.trans XA.out)).then HG6.out (fun x hx => .inr (HEA.out.blk hx).2)).then HM7.out (fun x hx => .inr (by have := HT5.out; omega))).ext (fun _ h => h.elim))
            have HEN7 := Lib.hid (HPU.out.mod HM7.out (no8_row hrw6 (by decide)) (fun x hx e => HPU.out.apart hrw6 (by decide) (by rw [hx, show x = t5 from e])))
            rw [← hw7]
            clear hw7 hrw6 u3 g3 b3 e0 e1 e2 e3 e4 e5 ho6 hg6 hb6
            have e3 := HR14.out.cell (j := 3) rfl
            have hkp : k + x.pages ≤ np := by have := HPGX.out.2; rw [HPL.out] at this; exact this
            have hkq : 1 ≤ x.pages := HPGX.out.1
            go_wp2_with fail
            refine ⟨⟨k + x.pages, by go_num, hkp, Lib.hid ⟨vs, out ++ [x], _, HX7.out, HPR7.out, HRT7.out, HRS7.out, HEN7.out, ?_, ?_⟩⟩, by simp [intOf]; omega⟩
            · have h9 := entriesF_some (l := pgs) (by rw [HPL.out]; exact hkn) HA.out
              rw [HPL.out] at h9
              rw [HI.out.eq, h9]
              simp
            · rw [List.length_append, List.length_singleton]
              have := HOL.out
              omega
        · have hki : (np : Int) ≤ (k : Int) := by omega
          obtain rfl : np = k := by omega
          have b0 := HI.out.rec_.cell (j := 0) rfl
          have b1 := HI.out.rec_.cell (j := 1) rfl
          have b2 := HI.out.rec_.cell (j := 2) rfl
          have b3 := HI.out.rec_.cell (j := 3) rfl
          have z0 := HI.out.res.cell (j := 0) rfl
          have z1 := HI.out.res.cell (j := 1) rfl
          have z2 := HI.out.res.cell (j := 2) rfl
          have z3 := HI.out.res.cell (j := 3) rfl
          have f0 := HI.out.res.frozen (j := 0) (by simp)
          have f1 := HI.out.res.frozen (j := 1) (by simp)
          have f2 := HI.out.res.frozen (j := 2) (by simp)
          have f3 := HI.out.res.frozen (j := 3) (by simp)
          go_wp2_with fail
          have HR9 := Lib.hid ((((HI.out.res.set 0 (.int .i64 nx) (by simp)).set 1 (.int .i64 sg) (by simp)).set 2 (.int .i64 nb) (by simp)).set 3 (.slice A out.length c) (by simp))
          have HX9 := Lib.hid ((((HI.out.ext.setCell (p := ⟨w.heap.size, 0, none⟩) (Nat.le_refl _) (.int .i64 nx)).setCell (p := ⟨w.heap.size, 1, none⟩) (Nat.le_refl _) (.int .i64 sg)).setCell (p := ⟨w.heap.size, 2, none⟩) (Nat.le_refl _) (.int .i64 nb)).setCell (p := ⟨w.heap.size, 3, none⟩) (Nat.le_refl _) (.slice A out.length c))
          have HM9 := Lib.hid ((((mod_set wr w.heap.size 0 (.int .i64 nx)).trans (mod_set _ w.heap.size 1 (.int .i64 sg))).trans (mod_set _ w.heap.size 2 (.int .i64 nb))).trans (mod_set _ w.heap.size 3 (.slice A out.length c)))
          have HE9 := Lib.hid (HI.out.ents.mod HM9.out (no8_row HI.out.res (by decide)) (fun x hx e => HI.out.ents.apart HI.out.res (by decide) (by rw [hx, show x = w.heap.size from e])))
          have HEQ := Lib.hid HI.out.eq
          clear b0 b1 b2 b3 z0 z1 z2 z3 f0 f1 f2 f3
          have r0 := HR9.out.cell (j := 0) rfl
          have r1 := HR9.out.cell (j := 1) rfl
          have r2 := HR9.out.cell (j := 2) rfl
          have r3 := HR9.out.cell (j := 3) rfl
          refine bodyPost_ret (by simp [results, Try.results53, go_sem, r0, r1, r2, r3]; try rfl) rfl ?_
          refine ⟨HX9.out, ?_⟩
          rw [scanF_eq, ← HNX'.out, ← HPGS.out, HBL.out]
          have h8 := HEQ.out
          rw [entriesF_end (k := np) (by rw [HPL.out]; exact Nat.le_refl _), List.append_nil] at h8
          have h7 := HSG.out
          have h6 := HNB.out
          refine ⟨.slice A out.length c, by rw [h7, h6]; rfl, ?_⟩
          show EntsAt _ _ _ (entriesF pgs np 0)
          rw [h8]
          exact HE9.out
end Go.Proofs.Ytepigkjgjlibcaa
