/- Chapter 23: package flashlog: a log in memory. Chapter 23: package flashlog: free, elsewhere, newest, live. Chapter 23: slices of integers that a call has made; an append of one integer. Chapter 23: package flashlog: free, youngest. -/
import Derived.Test.YtepigkjgjlibcaaFlV
namespace Go.Proofs.Ytepigkjgjlibcaa
open Go.RowKit Go.Deep Go.Proofs.Ytepigkjgjlibcaa.FL
set_option maxRecDepth 100000
def logTys : List TypeId := devTys ++ [78, 85, 90]
def lbCells (x : LB × Value) : List Value := [.int .i64 x.1.next, .int .i64 x.1.segment, .int .i64 x.1.number, x.2]
theorem lbCells_len (x : LB × Value) : (lbCells x).length = 4 := rfl
structure LogF where
  dv : Nat
  bv : Value
  es : List Value
/-- the blocks of a log: the rows of their records, and of their entries -/
structure LBsAt (w : World) (bv : Value) (es : List Value) (bs : List LB) : Prop where
  len : es.length = bs.length
  own : w.ownsRow 0 85 4 bv bs.length ((bs.zip es).flatMap lbCells)
  ents : ∀ (i : Nat) (b : LB) (u : Value), bs[i]? = some b → es[i]? = some u → EntsAt w 0 u b.entries
  apart : ∀ (i j : Nat) (u v : Value) (x : Nat), i ≠ j → es[i]? = some u → es[j]? = some v → u.ownBlock = some x → v.ownBlock ≠ some x
structure LogAtF (w : World) (S : Nat → Prop) (l : Nat) (F : LogF) (SD : Nat → Prop) (G : DevF) (L : Log) : Prop where
  row : RowB w l 78 [.pointer (some ⟨F.dv, 0, none⟩), F.bv, .int .i64 L.open_, .int .i64 L.number, .int .i64 L.segment, .int .i64 L.cleaned, .bool L.broken]
  dev : DevAtF w SD F.dv G L.d
  blks : LBsAt w F.bv F.es L.blocks
  inS : S l ∧ (∀ x, F.bv.ownBlock = some x → S x) ∧ (∀ u ∈ F.es, ∀ x, u.ownBlock = some x → S x) ∧ ∀ x, SD x → S x
  ty : Typed w logTys S
def LogAt (w : World) (S : Nat → Prop) (l : Nat) (L : Log) : Prop := ∃ F SD G, LogAtF w S l F SD G L
theorem LBsAt.mod {w w' : World} {F : Nat → Prop} {bv : Value} {es : List Value} {bs : List LB} (h : LBsAt w bv es bs) (hm : Mod F w w') (h8 : No8 w F) (h1 : ∀ x, bv.ownBlock = some x → ¬ F x) (h2 : ∀ u ∈ es, ∀ x, u.ownBlock = some x → ¬ F x) : LBsAt w' bv es bs :=
  ⟨h.len, own_mod h.own hm h1, fun i b u hb hu => (h.ents i b u hb hu).mod hm h8 (h2 u (List.mem_of_getElem? hu)), h.apart⟩
theorem LogAtF.mod {w w' : World} {S SD X : Nat → Prop} {l : Nat} {F : LogF} {G : DevF} {L : Log} (h : LogAtF w S l F SD G L) (hm : Mod X w w') (h8 : No8 w X) (hX : ∀ x, S x → ¬ X x) : LogAtF w' S l F SD G L :=
  ⟨hm.rowB h.row (hX _ h.inS.1), h.dev.mod hm h8 (fun x hx => hX _ (h.inS.2.2.2 x hx)), h.blks.mod hm h8 (fun x hx => hX _ (h.inS.2.1 x hx)) (fun u hu x hx => hX _ (h.inS.2.2.1 u hu x hx)), h.inS, h.ty.mod hm hX⟩
theorem LogAtF.ext {w w' : World} {S SD : Nat → Prop} {l : Nat} {F : LogF} {G : DevF} {L : Log} (h : LogAtF w S l F SD G L) (hx : Ext w w') : LogAtF w' S l F SD G L := h.mod (Mod.of_ext (fun _ => False) hx) (no8_false w) (fun _ _ h => h)
theorem LogAt.mod {w w' : World} {S X : Nat → Prop} {l : Nat} {L : Log} (h : LogAt w S l L) (hm : Mod X w w') (h8 : No8 w X) (hX : ∀ x, S x → ¬ X x) : LogAt w' S l L := by
  obtain ⟨F, SD, G, h⟩ := h
  exact ⟨F, SD, G, h.mod hm h8 hX⟩
theorem LogAt.ext {w w' : World} {S : Nat → Prop} {l : Nat} {L : Log} (h : LogAt w S l L) (hx : Ext w w') : LogAt w' S l L := h.mod (Mod.of_ext (fun _ => False) hx) (no8_false w) (fun _ _ h => h)
theorem LogAtF.no8 {w : World} {S SD : Nat → Prop} {l : Nat} {F : LogF} {G : DevF} {L : Log} (h : LogAtF w S l F SD G L) : No8 w S := h.ty.no8 (by decide)
/-- a block of the log: its record's cells, its entries -/
theorem LBsAt.get {w : World} {bv : Value} {es : List Value} {bs : List LB} (h : LBsAt w bv es bs) {i : Nat} {b : LB} (hb : bs[i]? = some b) :
    ∃ g c A ca, bv = .slice (some ⟨g, 0, none⟩) bs.length c ∧ es[i]? = some (.slice A b.entries.length ca) ∧ EntsAt w 0 (.slice A b.entries.length ca) b.entries ∧ w.cell? ⟨g, i * 4, none⟩ = some (.int .i64 b.next) ∧ w.cell? ⟨g, i * 4 + 1, none⟩ = some (.int .i64 b.segment) ∧
      w.cell? ⟨g, i * 4 + 2, none⟩ = some (.int .i64 b.number) ∧ w.cell? ⟨g, i * 4 + 3, none⟩ = some (.slice A b.entries.length ca) := by
  have hi := (List.getElem?_eq_some_iff.1 hb).1
  obtain ⟨u, hu⟩ : ∃ u, es[i]? = some u := ⟨_, List.getElem?_eq_getElem (by rw [h.len]; exact hi)⟩
  obtain ⟨g, c, rfl⟩ := own_addr h.own (by omega)
  obtain ⟨r1, -, -⟩ := own_row h.own
  have he := h.ents i b u hb hu
  obtain ⟨A, ca, rfl⟩ := he.slice
  have hz : (bs.zip es)[i]? = some (b, .slice A b.entries.length ca) := by rw [List.getElem?_zip_eq_some]; exact ⟨hb, hu⟩
  have k : ∀ j v, j < 4 → (lbCells (b, .slice A b.entries.length ca))[j]? = some v → w.cell? ⟨g, i * 4 + j, none⟩ = some v := fun j v hj hv => r1.cell (by rw [flat_get lbCells 4 lbCells_len _ i j hj, hz]; exact hv)
  exact ⟨g, c, A, ca, rfl, hu, he, k 0 _ (by decide) rfl, k 1 _ (by decide) rfl, k 2 _ (by decide) rfl, k 3 _ (by decide) rfl⟩
/-- the blocks' slice begins somewhere -/
theorem LBsAt.addr {w : World} {bv : Value} {es : List Value} {bs : List LB} (h : LBsAt w bv es bs) (hn : 0 < bs.length) : ∃ g c, bv = .slice (some ⟨g, 0, none⟩) bs.length c := own_addr h.own hn
/-- the cells of all blocks and entries, over one address -/
structure LogV (w : World) (l g c : Nat) (L : Log) : Prop where
  c1 : w.cell? ⟨l, 1, none⟩ = some (.slice (some ⟨g, 0, none⟩) L.blocks.length c)
  blk : ∀ (i : Nat) (b : LB), L.blocks[i]? = some b → ∃ A ca, EntsAt w 0 (.slice A b.entries.length ca) b.entries ∧ w.cell? ⟨g, i * 4, none⟩ = some (.int .i64 b.next) ∧ w.cell? ⟨g, i * 4 + 1, none⟩ = some (.int .i64 b.segment) ∧
      w.cell? ⟨g, i * 4 + 2, none⟩ = some (.int .i64 b.number) ∧ w.cell? ⟨g, i * 4 + 3, none⟩ = some (.slice A b.entries.length ca)
theorem LogV.ext {w w' : World} {l g c : Nat} {L : Log} (h : LogV w l g c L) (hx : Ext w w') : LogV w' l g c L :=
  ⟨hx.cell h.c1, fun i b hb => by obtain ⟨A, ca, h0, h1, h2, h3, h4⟩ := h.blk i b hb; exact ⟨A, ca, h0.ext hx, hx.cell h1, hx.cell h2, hx.cell h3, hx.cell h4⟩⟩
theorem LogAtF.v {w : World} {S SD : Nat → Prop} {l : Nat} {F : LogF} {G : DevF} {L : Log} (h : LogAtF w S l F SD G L) (hn : 0 < L.blocks.length) : ∃ g c, LogV w l g c L := by
  obtain ⟨g, c, e⟩ := h.blks.addr hn
  refine ⟨g, c, ?_, fun i b hb => ?_⟩
  · have := h.row.cell (j := 1) rfl
    rw [e] at this
    exact this
  · obtain ⟨g2, c2, A, ca, e2, -, he, r0, r1, r2, r3⟩ := h.blks.get hb
    rw [e] at e2
    cases e2
    exact ⟨A, ca, he, r0, r1, r2, r3⟩
/-! the plain side: bounds -/
def far : Nat := 1099511627776
structure EntOk (e : Ent) : Prop where
  kind : e.kind = 1 ∨ e.kind = 2
  num : e.number ≤ far
  seg : e.segment ≤ far
  pg : 1 ≤ e.pages ∧ e.pages ≤ 32
  key : 1 ≤ e.key.length ∧ e.key.length ≤ 2048
  val : e.value.length ≤ 16384
structure LogWf (L : Log) : Prop where
  bl : L.blocks.length = L.d.now.length
  nb : 3 ≤ L.blocks.length ∧ L.blocks.length ≤ 64
  nx : ∀ (i : Nat) (b : LB) (p : Blk), L.blocks[i]? = some b → L.d.now[i]? = some p → b.next = nextF p
  np : 1 ≤ L.d.npages ∧ L.d.npages ≤ 32
  nl : ∀ b ∈ L.blocks, b.next ≤ L.d.npages
  el : ∀ b ∈ L.blocks, pagesOf b.entries ≤ b.next
  ok : ∀ b ∈ L.blocks, b.segment ≤ far ∧ b.number ≤ far ∧ ∀ e ∈ b.entries, EntOk e
  op : -1 ≤ L.open_ ∧ L.open_ < L.blocks.length
  num : 1 ≤ L.number ∧ L.number ≤ far + 1
  seg : 1 ≤ L.segment ∧ L.segment ≤ far + 1
theorem pagesOf_len {l : List Ent} (h : ∀ e ∈ l, EntOk e) : l.length ≤ pagesOf l := by
  induction l with
  | nil => simp
  | cons x r ih =>
    have h1 := ih (fun e he => h e (List.mem_cons_of_mem _ he))
    have h2 := (h x (List.mem_cons_self ..)).pg
    unfold pagesOf at h1 ⊢
    simp only [List.map_cons, List.sum_cons, List.length_cons]
    omega
theorem pagesOf_filter (l : List Ent) (p : Ent → Bool) : pagesOf (l.filter p) ≤ pagesOf l := by
  induction l with
  | nil => exact Nat.le_refl _
  | cons x r ih =>
    rw [List.filter_cons]
    unfold pagesOf at ih ⊢
    split <;> simp only [List.map_cons, List.sum_cons] <;> omega
theorem LogWf.ents {L : Log} (h : LogWf L) {i : Nat} {b : LB} (hb : L.blocks[i]? = some b) : b.entries.length ≤ 32 ∧ pagesOf b.entries ≤ 32 ∧ b.next ≤ 32 := by
  have hm := List.mem_of_getElem? hb
  have h1 := h.el b hm
  have h2 := h.nl b hm
  have h3 := h.np.2
  have h4 := pagesOf_len (h.ok b hm).2.2
  omega
/-! all entries, from one on -/
def entsFrom (i : Nat) : Nat → List Ent → List (Nat × Nat × Ent)
  | _, [] => []
  | k, e :: r => (i, k, e) :: entsFrom i (k + 1) r
def blksFrom : Nat → List LB → List (Nat × Nat × Ent)
  | _, [] => []
  | i, b :: r => entsFrom i 0 b.entries ++ blksFrom (i + 1) r
theorem entsFrom_eq (i k : Nat) (l : List Ent) : (l.zipIdx k).map (fun e => (i, e.2, e.1)) = entsFrom i k l := by
  induction l generalizing k with
  | nil => rfl
  | cons x r ih => rw [List.zipIdx_cons, List.map_cons, ih]; rfl
theorem blksFrom_eq (i : Nat) (l : List LB) : ((l.zipIdx i).flatMap fun b => b.1.entries.zipIdx.map fun e => (b.2, e.2, e.1)) = blksFrom i l := by
  induction l generalizing i with
  | nil => rfl
  | cons x r ih => rw [List.zipIdx_cons, List.flatMap_cons, ih, entsFrom_eq]; rfl
theorem allEnts_eq (L : Log) : allEnts L = blksFrom 0 L.blocks := blksFrom_eq 0 L.blocks
theorem drop_some {α : Type} {l : List α} {i : Nat} {x : α} (h : l[i]? = some x) : l.drop i = x :: l.drop (i + 1) := by
  obtain ⟨hi, e⟩ := List.getElem?_eq_some_iff.1 h
  rw [List.drop_eq_getElem_cons hi, e]
theorem blks_step {l : List LB} {i : Nat} {b : LB} (h : l[i]? = some b) : blksFrom i (l.drop i) = entsFrom i 0 b.entries ++ blksFrom (i + 1) (l.drop (i + 1)) := by rw [drop_some h]; rfl
theorem ents_step {l : List Ent} {i k : Nat} {e : Ent} (h : l[k]? = some e) : entsFrom i k (l.drop k) = (i, k, e) :: entsFrom i (k + 1) (l.drop (k + 1)) := by rw [drop_some h]; rfl
theorem drop_end {α : Type} {l : List α} {i : Nat} (h : l.length ≤ i) : l.drop i = [] := List.drop_eq_nil_of_le h
end Go.Proofs.Ytepigkjgjlibcaa
namespace Go.Proofs.Ytepigkjgjlibcaa
open Go.RowKit Go.Deep Go.Proofs.Ytepigkjgjlibcaa.FL
set_option maxRecDepth 100000
theorem cleaned_any {w : World} {S SD : Nat → Prop} {l : Nat} {F : LogF} {G : DevF} {L : Log} (h : LogAtF w S l F SD G L) :
    Calls Try.prog 23 #[.pointer (some ⟨l, 0, none⟩)] w fun e w' => e = .returned (.int .i64 L.cleaned) ∧ w = w' := by
  have c1 := h.row.cell (j := 5) rfl
  clear h
  go_enter Try.func23, Try.ntmps23
  go_wp2_with fail
  go_ret
  exact ⟨rfl, rfl⟩
theorem broken_any {w : World} {S SD : Nat → Prop} {l : Nat} {F : LogF} {G : DevF} {L : Log} (h : LogAtF w S l F SD G L) :
    Calls Try.prog 24 #[.pointer (some ⟨l, 0, none⟩)] w fun e w' => e = .returned (.bool L.broken) ∧ w = w' := by
  have c1 := h.row.cell (j := 6) rfl
  clear h
  go_enter Try.func24, Try.ntmps24
  go_wp2_with fail
  go_ret
  exact ⟨rfl, rfl⟩
def elseP (i kind number : Nat) (key : Bs) (ex : Bool) (x : Nat × Nat × Ent) : Bool := decide (x.1 ≠ i ∧ x.2.2.key = key ∧ x.2.2.kind = kind) && (!ex || decide (x.2.2.number = number))
theorem elsewhereF_eq (L : Log) (i kind number : Nat) (key : Bs) (ex : Bool) : elsewhereF L i kind number key ex = (blksFrom 0 L.blocks).any (elseP i kind number key ex) := by rw [← allEnts_eq]; rfl
def entV (e : Ent) (v : Value) : Value := .agg #[.int .i64 e.kind, .int .i64 e.number, .int .i64 e.segment, .int .i64 e.pages, .string (st e.key), v]
set_option maxHeartbeats 4000000 in
theorem elsewhere_any {w : World} {l g c : Nat} {L : Log} (h : LogV w l g c L) (hb : L.blocks.length ≤ 64) (hel : ∀ b ∈ L.blocks, b.entries.length ≤ 32) (i : Nat) (e : Ent) (v : Value) (ex : Bool) :
    Calls Try.prog 56 #[.pointer (some ⟨l, 0, none⟩), .int .i64 i, .agg #[.int .i64 e.kind, .int .i64 e.number, .int .i64 e.segment, .int .i64 e.pages, .string (st e.key), v], .bool ex] w fun e' w' =>
      e' = .returned (.bool (elsewhereF L i e.kind e.number e.key ex)) ∧ Ext w w' := by
  obtain ⟨n, hn⟩ : ∃ n, n = L.blocks.length := ⟨_, rfl⟩
  have HN := Lib.hid hn
  have HV := Lib.hid h
  have HEL := Lib.hid hel
  have hn64 : n ≤ 64 := by omega
  obtain ⟨w1, hw1⟩ : ∃ z, z = w.alloc (.cells #[.int .i64 e.kind, .int .i64 e.number, .int .i64 e.segment, .int .i64 e.pages, .string (st e.key), v] 90) := ⟨_, rfl⟩
  have HX1 := Lib.hid (show Ext w w1 by rw [hw1]; exact (Ext.refl w).alloc _)
  have HR1 : Hid (RowB w1 w.heap.size 90 [.int .i64 e.kind, .int .i64 e.number, .int .i64 e.segment, .int .i64 e.pages, .string (st e.key), v]) := Lib.hid (by rw [hw1]; exact row_laid w _ _)
  have c1 := (h.ext HX1.out).c1
  rw [← hn] at c1
  clear hn h hb hel
  go_enter Try.func56, Try.ntmps56
  go_upto_region 1 with fail
  rw [← hw1]
  clear hw1
  go_wp2_with fail
  go_loopw [18] (fun i' wr => ∃ k : Nat, i' = .int .i64 k ∧ k ≤ n ∧ Hid (Ext w1 wr) ∧ Hid (elsewhereF L i e.kind e.number e.key ex = (blksFrom k (L.blocks.drop k)).any (elseP i e.kind e.number e.key ex))) (fun i' _ => n - (intOf i').toNat)
  case atStart => exact ⟨0, rfl, by omega, Lib.hid (Ext.refl _), Lib.hid (elsewhereF_eq ..)⟩
  case round =>
    obtain ⟨k, rfl, hk, hX, hE⟩ := hrel
    clear c1
    by_cases hkn : k < n
    · have hki : (k : Int) < (n : Int) := by omega
      obtain ⟨b, hb⟩ : ∃ b, L.blocks[k]? = some b := ⟨_, List.getElem?_eq_getElem (by rw [← HN.out]; exact hkn)⟩
      obtain ⟨A, ca, he0, b0, b1, b2, b3⟩ := (HV.out.ext (HX1.out.trans hX.out)).blk k b hb
      have HEN := Lib.hid he0
      have HB := Lib.hid hb
      obtain ⟨m, hm⟩ : ∃ m, m = b.entries.length := ⟨_, rfl⟩
      have hm32 : m ≤ 32 := by rw [hm]; exact HEL.out b (List.mem_of_getElem? hb)
      rw [← hm] at b3 HEN
      have HM := Lib.hid hm
      clear he0 hb hm
      generalize wr = wo at *
      go_upto_region 5 with fail
      obtain ⟨w2, hw2⟩ : ∃ z, z = wo.alloc (.cells #[.int .i64 b.next, .int .i64 b.segment, .int .i64 b.number, .slice A m ca] 85) := ⟨_, rfl⟩
      have HX2 := Lib.hid (show Ext wo w2 by rw [hw2]; exact (Ext.refl wo).alloc _)
      rw [← hw2]
      clear hw2 b0 b1 b2 b3
      have HE0 := Lib.hid (show elsewhereF L i e.kind e.number e.key ex = ((entsFrom k 0 (b.entries.drop 0)).any (elseP i e.kind e.number e.key ex) || (blksFrom (k + 1) (L.blocks.drop (k + 1))).any (elseP i e.kind e.number e.key ex)) by
        rw [hE.out, blks_step HB.out, List.any_append, List.drop_zero])
      go_loopw [26] (fun j wr => ∃ q : Nat, j = .int .i64 q ∧ q ≤ m ∧ Hid (Ext w2 wr) ∧ Hid (elsewhereF L i e.kind e.number e.key ex = ((entsFrom k q (b.entries.drop q)).any (elseP i e.kind e.number e.key ex) || (blksFrom (k + 1) (L.blocks.drop (k + 1))).any (elseP i e.kind e.number e.key ex)))) (fun j _ => m - (intOf j).toNat)
      case atStart => exact ⟨0, rfl, by omega, Lib.hid (Ext.refl _), HE0⟩
      case round =>
        clear HE0
        obtain ⟨q, rfl, hq, hX3, hE3⟩ := hrel
        by_cases hqm : q < m
        · have hqi : (q : Int) < (m : Int) := by omega
          obtain ⟨x, hx⟩ : ∃ x, b.entries[q]? = some x := ⟨_, List.getElem?_eq_getElem (by rw [← HM.out]; exact hqm)⟩
          have HQ := Lib.hid hx
          obtain ⟨ge, ce, hee⟩ := HEN.out.addr (by intro h9; have := HM.out; rw [h9] at this; simp at this; omega)
          rw [← HM.out] at hee
          cases hee
          have hen := (HEN.out.ext (HX2.out.trans hX3.out))
          obtain ⟨Ax, cx, -, x0, x1, x2, x3, x4, x5⟩ := hen.at_ hx
          clear hen hx
          have e0 := (HR1.out.ext (hX.out.trans (HX2.out.trans hX3.out))).cell (j := 0) rfl
          have e1 := (HR1.out.ext (hX.out.trans (HX2.out.trans hX3.out))).cell (j := 1) rfl
          have e4 := (HR1.out.ext (hX.out.trans (HX2.out.trans hX3.out))).cell (j := 4) rfl
          have HS := Lib.hid (show elsewhereF L i e.kind e.number e.key ex = (elseP i e.kind e.number e.key ex (k, q, x) || ((entsFrom k (q + 1) (b.entries.drop (q + 1))).any (elseP i e.kind e.number e.key ex) || (blksFrom (k + 1) (L.blocks.drop (k + 1))).any (elseP i e.kind e.number e.key ex))) by
            rw [hE3.out, ents_step HQ.out, List.any_cons, Bool.or_assoc])
          go_upto_region 7 with fail
          obtain ⟨w3, hw3⟩ : ∃ z, z = wr.alloc (.cells #[.int .i64 x.kind, .int .i64 x.number, .int .i64 x.segment, .int .i64 x.pages, .string (st x.key), .slice Ax x.value.length cx] 90) := ⟨_, rfl⟩
          have HX3 := Lib.hid (show Ext wr w3 by rw [hw3]; exact (Ext.refl wr).alloc _)
          have HR3 : Hid (RowB w3 wr.heap.size 90 [.int .i64 x.kind, .int .i64 x.number, .int .i64 x.segment, .int .i64 x.pages, .string (st x.key), .slice Ax x.value.length cx]) := Lib.hid (by rw [hw3]; exact row_laid wr _ _)
          have HR1' := Lib.hid (HR1.out.ext (hX.out.trans (HX2.out.trans (hX3.out.trans HX3.out))))
          rw [← hw3]
          clear hw3 x0 x1 x2 x3 x4 x5 e0 e1 e4
          have x0 := (HR3.out).cell (j := 0) rfl
          have x1 := (HR3.out).cell (j := 1) rfl
          have x2 := (HR3.out).cell (j := 2) rfl
          have x3 := (HR3.out).cell (j := 3) rfl
          have x4 := (HR3.out).cell (j := 4) rfl
          have e0 := (HR1'.out).cell (j := 0) rfl
          have e1 := (HR1'.out).cell (j := 1) rfl
          have e2 := (HR1'.out).cell (j := 2) rfl
          have e3 := (HR1'.out).cell (j := 3) rfl
          have e4 := (HR1'.out).cell (j := 4) rfl
          by_cases hki2 : k = i
          · have hki3 : ((k : Int) != (i : Int)) = false := by rw [hki2]; simp
            have HP := Lib.hid (show elseP i e.kind e.number e.key ex (k, q, x) = false by unfold elseP; rw [decide_eq_false (fun h9 => h9.1 hki2)]; rfl)
            clear hki2
            go_wp2_with fail
            exact ⟨⟨q + 1, by go_num, by omega, Lib.hid (hX3.out.trans HX3.out), Lib.hid (by rw [HS.out, HP.out, Bool.false_or])⟩, by simp [intOf]; omega⟩
          · have hki3 : ((k : Int) != (i : Int)) = true := by rw [bne_iff_ne]; omega
            have HKI := Lib.hid hki2
            clear hki2
            by_cases hke : x.key = e.key
            · by_cases hkd : (x.kind : Int) = (e.kind : Int)
              · have HKE := Lib.hid (And.intro hke (show x.kind = e.kind by omega))
                cases ex with
                | false =>
                  have HP := Lib.hid (show elseP i e.kind e.number e.key false (k, q, x) = true by unfold elseP; rw [decide_eq_true ⟨HKI.out, HKE.out.1, HKE.out.2⟩]; rfl)
                  go_wp2_with fail
                  go_ret
                  exact ⟨by rw [HS.out, HP.out, Bool.true_or]; rfl, HX1.out.trans (hX.out.trans (HX2.out.trans (hX3.out.trans HX3.out)))⟩
                | true =>
                  by_cases hnu : ((x.number : Int) == (e.number : Int)) = true
                  · have HP := Lib.hid (show elseP i e.kind e.number e.key true (k, q, x) = true by unfold elseP; rw [decide_eq_true ⟨HKI.out, HKE.out.1, HKE.out.2⟩, decide_eq_true (show x.number = e.number by have := eq_of_beq hnu; omega)]; rfl)
                    go_wp2_with fail
                    go_ret
                    exact ⟨by rw [HS.out, HP.out, Bool.true_or]; rfl, HX1.out.trans (hX.out.trans (HX2.out.trans (hX3.out.trans HX3.out)))⟩
                  · have hnu2 : ((x.number : Int) == (e.number : Int)) = false := by simpa using hnu
                    have HP := Lib.hid (show elseP i e.kind e.number e.key true (k, q, x) = false by unfold elseP; rw [decide_eq_true ⟨HKI.out, HKE.out.1, HKE.out.2⟩, decide_eq_false (fun h9 => hnu (by rw [h9]; simp))]; rfl)
                    clear hnu
                    go_wp2_with fail
                    exact ⟨⟨q + 1, by go_num, by omega, Lib.hid (hX3.out.trans HX3.out), Lib.hid (by rw [HS.out, HP.out, Bool.false_or])⟩, by simp [intOf]; omega⟩
              · have HP := Lib.hid (show elseP i e.kind e.number e.key ex (k, q, x) = false by unfold elseP; rw [decide_eq_false (fun h9 => hkd (by rw [h9.2.2]))]; rfl)
                go_wp2_with fail
                exact ⟨⟨q + 1, by go_num, by omega, Lib.hid (hX3.out.trans HX3.out), Lib.hid (by rw [HS.out, HP.out, Bool.false_or])⟩, by simp [intOf]; omega⟩
            · have HP := Lib.hid (show elseP i e.kind e.number e.key ex (k, q, x) = false by unfold elseP; rw [decide_eq_false (fun h9 => hke h9.2.1)]; rfl)
              go_wp2_with fail
              exact ⟨⟨q + 1, by go_num, by omega, Lib.hid (hX3.out.trans HX3.out), Lib.hid (by rw [HS.out, HP.out, Bool.false_or])⟩, by simp [intOf]; omega⟩
        · have hqi : (m : Int) ≤ (q : Int) := by omega
          obtain rfl : m = q := by omega
          go_wp2_with fail
          exact ⟨⟨k + 1, by go_num, by omega, Lib.hid (hX.out.trans (HX2.out.trans hX3.out)), Lib.hid (by rw [hE3.out, drop_end (by rw [← HM.out]; exact Nat.le_refl _)]; rfl)⟩, by simp [intOf]; omega⟩
    · have hki : (n : Int) ≤ (k : Int) := by omega
      obtain rfl : n = k := by omega
      go_wp2_with fail
      go_ret
      refine ⟨?_, HX1.out.trans hX.out⟩
      rw [hE.out, drop_end (by rw [← HN.out]; exact Nat.le_refl _)]
      rfl
def nstep (L : Log) (key : Bs) (b : Option (Nat × Nat × Ent)) (x : Nat × Nat × Ent) : Option (Nat × Nat × Ent) := if x.2.2.key = key then (match b with | none => some x | some y => if newer L x y then some x else b) else b
theorem newestF_eq (L : Log) (key : Bs) : newestF L key = (blksFrom 0 L.blocks).foldl (nstep L key) none := by rw [← allEnts_eq]; rfl
def nI : Option (Nat × Nat × Ent) → Int
  | none => -1
  | some y => y.1
def nK : Option (Nat × Nat × Ent) → Int
  | none => -1
  | some y => y.2.1
/-- an entry with its place -/
def EAt (L : Log) (y : Nat × Nat × Ent) : Prop := ∃ b, L.blocks[y.1]? = some b ∧ b.entries[y.2.1]? = some y.2.2
theorem segOf_at {L : Log} {i : Nat} {b : LB} (h : L.blocks[i]? = some b) : segOf L i = b.segment := by unfold segOf; rw [h]
set_option maxHeartbeats 4000000 in
theorem newest_any {w : World} {l g c : Nat} {L : Log} (h : LogV w l g c L) (hb : L.blocks.length ≤ 64) (hel : ∀ b ∈ L.blocks, b.entries.length ≤ 32) (key : Bs) :
    Calls Try.prog 57 #[.pointer (some ⟨l, 0, none⟩), .string (st key)] w fun e' w' =>
      e' = .returned (.tuple #[.int .i64 (nI (newestF L key)), .int .i64 (nK (newestF L key))]) ∧ Ext w w' := by
  obtain ⟨n, hn⟩ : ∃ n, n = L.blocks.length := ⟨_, rfl⟩
  have HN := Lib.hid hn
  have HV := Lib.hid h
  have HEL := Lib.hid hel
  have hn64 : n ≤ 64 := by omega
  have c1 := h.c1
  rw [← hn] at c1
  clear hn h hb hel
  go_enter Try.func57, Try.ntmps57
  go_upto_region 2 with fail
  go_wp2_with fail
  go_loopw [6, 7, 18] (fun v6 v7 i' wr => ∃ (k : Nat) (acc : Option (Nat × Nat × Ent)), i' = .int .i64 k ∧ k ≤ n ∧ v6 = .int .i64 (nI acc) ∧ v7 = .int .i64 (nK acc) ∧ Hid (Ext w wr) ∧ Hid (newestF L key = (blksFrom k (L.blocks.drop k)).foldl (nstep L key) acc) ∧ Hid (∀ y, acc = some y → EAt L y)) (fun _ _ i' _ => n - (intOf i').toNat)
  case atStart => exact ⟨0, none, rfl, by omega, rfl, rfl, Lib.hid (Ext.refl _), Lib.hid (newestF_eq ..), Lib.hid (fun y hy => by cases hy)⟩
  case round =>
    obtain ⟨k, acc, rfl, hk, rfl, rfl, hX, hE, hA⟩ := hrel
    by_cases hkn : k < n
    · have hki : (k : Int) < (n : Int) := by omega
      obtain ⟨b, hb⟩ : ∃ b, L.blocks[k]? = some b := ⟨_, List.getElem?_eq_getElem (by rw [← HN.out]; exact hkn)⟩
      obtain ⟨A, ca, he0, b0, b1, b2, b3⟩ := (HV.out.ext hX.out).blk k b hb
      have HEN := Lib.hid he0
      have HB := Lib.hid hb
      obtain ⟨m, hm⟩ : ∃ m, m = b.entries.length := ⟨_, rfl⟩
      have hm32 : m ≤ 32 := by rw [hm]; exact HEL.out b (List.mem_of_getElem? hb)
      rw [← hm] at b3 HEN
      have HM := Lib.hid hm
      clear he0 hb hm
      generalize wr = wo at *
      go_upto_region 6 with fail
      obtain ⟨w2, hw2⟩ : ∃ z, z = wo.alloc (.cells #[.int .i64 b.next, .int .i64 b.segment, .int .i64 b.number, .slice A m ca] 85) := ⟨_, rfl⟩
      have HX2 := Lib.hid (show Ext wo w2 by rw [hw2]; exact (Ext.refl wo).alloc _)
      have HRB : Hid (RowB w2 wo.heap.size 85 [.int .i64 b.next, .int .i64 b.segment, .int .i64 b.number, .slice A m ca]) := Lib.hid (by rw [hw2]; exact row_laid wo _ _)
      rw [← hw2]
      clear hw2 b0 b1 b2 b3
      have HE0 := Lib.hid (show newestF L key = (blksFrom (k + 1) (L.blocks.drop (k + 1))).foldl (nstep L key) ((entsFrom k 0 (b.entries.drop 0)).foldl (nstep L key) acc) by
        rw [hE.out, blks_step HB.out, List.foldl_append, List.drop_zero])
      have HA0 := hA
      clear hE hA
      go_loopw [6, 7, 26] (fun v6 v7 j wr => ∃ (q : Nat) (acc : Option (Nat × Nat × Ent)), j = .int .i64 q ∧ q ≤ m ∧ v6 = .int .i64 (nI acc) ∧ v7 = .int .i64 (nK acc) ∧ Hid (Ext w2 wr) ∧ Hid (newestF L key = (blksFrom (k + 1) (L.blocks.drop (k + 1))).foldl (nstep L key) ((entsFrom k q (b.entries.drop q)).foldl (nstep L key) acc)) ∧ Hid (∀ y, acc = some y → EAt L y)) (fun _ _ j _ => m - (intOf j).toNat)
      case atStart => exact ⟨0, acc, rfl, by omega, rfl, rfl, Lib.hid (Ext.refl _), HE0, HA0⟩
      case round =>
        clear HE0 HA0
        obtain ⟨q, acc, rfl, hq, rfl, rfl, hX3, hE3, hA⟩ := hrel
        by_cases hqm : q < m
        · have hqi : (q : Int) < (m : Int) := by omega
          obtain ⟨x, hx⟩ : ∃ x, b.entries[q]? = some x := ⟨_, List.getElem?_eq_getElem (by rw [← HM.out]; exact hqm)⟩
          have HQ := Lib.hid hx
          obtain ⟨ge, ce, hee⟩ := HEN.out.addr (by intro h9; have := HM.out; rw [h9] at this; simp at this; omega)
          rw [← HM.out] at hee
          cases hee
          have hen := (HEN.out.ext (HX2.out.trans hX3.out))
          obtain ⟨Ax, cx, -, x0, x1, x2, x3, x4, x5⟩ := hen.at_ hx
          clear hen hx
          have HS := Lib.hid (show newestF L key = (blksFrom (k + 1) (L.blocks.drop (k + 1))).foldl (nstep L key) ((entsFrom k (q + 1) (b.entries.drop (q + 1))).foldl (nstep L key) (nstep L key acc (k, q, x))) by
            rw [hE3.out, ents_step HQ.out, List.foldl_cons])
          have HXA := Lib.hid (show EAt L (k, q, x) from ⟨b, HB.out, HQ.out⟩)
          go_upto_region 8 with fail
          obtain ⟨w3, hw3⟩ : ∃ z, z = wr.alloc (.cells #[.int .i64 x.kind, .int .i64 x.number, .int .i64 x.segment, .int .i64 x.pages, .string (st x.key), .slice Ax x.value.length cx] 90) := ⟨_, rfl⟩
          have HX3 := Lib.hid (show Ext wr w3 by rw [hw3]; exact (Ext.refl wr).alloc _)
          have HR3 : Hid (RowB w3 wr.heap.size 90 [.int .i64 x.kind, .int .i64 x.number, .int .i64 x.segment, .int .i64 x.pages, .string (st x.key), .slice Ax x.value.length cx]) := Lib.hid (by rw [hw3]; exact row_laid wr _ _)
          rw [← hw3]
          clear hw3 x0 x1 x2 x3 x4 x5
          have x0 := (HR3.out).cell (j := 0) rfl
          have x1 := (HR3.out).cell (j := 1) rfl
          have x2 := (HR3.out).cell (j := 2) rfl
          have x3 := (HR3.out).cell (j := 3) rfl
          have x4 := (HR3.out).cell (j := 4) rfl
          by_cases hke : x.key = key
          · have HKE := Lib.hid hke
            cases acc with
            | none =>
              have HP := Lib.hid (show nstep L key none (k, q, x) = some (k, q, x) by unfold nstep; rw [if_pos HKE.out])
              rw [show nI none = -1 from rfl, show nK none = -1 from rfl]
              go_wp2_with fail
              exact ⟨⟨q + 1, some (k, q, x), by go_num, by omega, rfl, rfl, Lib.hid (hX3.out.trans HX3.out), Lib.hid (by rw [HS.out, HP.out]), Lib.hid (fun y hy => by cases hy; exact HXA.out)⟩, by simp [intOf]; omega⟩
            | some y =>
              obtain ⟨b2, hyb, hye⟩ := hA.out y rfl
              have HVW := Lib.hid (HV.out.ext (hX.out.trans (HX2.out.trans (hX3.out.trans HX3.out))))
              have d1 := HVW.out.c1
              rw [← HN.out] at d1
              obtain ⟨A2, ca2, he2, b0, b1, b2_, b3⟩ := HVW.out.blk _ _ hyb
              have hnp : b2.entries ≠ [] := by intro h9; rw [h9] at hye; simp at hye
              obtain ⟨g2, c2, hee2⟩ := he2.addr hnp
              cases hee2
              obtain ⟨Ay, cy, -, y0, y1, y2, y3, y4, y5⟩ := he2.at_ hye
              have HYB := Lib.hid hyb
              have hy1 : ((y.1 : Nat) : Int) < (n : Int) := by have := (List.getElem?_eq_some_iff.1 hyb).1; have := HN.out; omega
              have hy2 : ((y.2.1 : Nat) : Int) < (b2.entries.length : Int) := by have := (List.getElem?_eq_some_iff.1 hye).1; omega
              have hy0 : ¬ ((y.1 : Nat) : Int) < 0 := by omega
              have HSB := Lib.hid (segOf_at hyb)
              clear he2 hyb hye hnp
              rw [show nI (some y) = ((y.1 : Nat) : Int) from rfl, show nK (some y) = ((y.2.1 : Nat) : Int) from rfl]
              go_upto_region 12 with fail
              obtain ⟨w4, hw4⟩ : ∃ z, z = w3.alloc (.cells #[.int .i64 y.2.2.kind, .int .i64 y.2.2.number, .int .i64 y.2.2.segment, .int .i64 y.2.2.pages, .string (st y.2.2.key), .slice Ay y.2.2.value.length cy] 90) := ⟨_, rfl⟩
              have HX4 := Lib.hid (show Ext w3 w4 by rw [hw4]; exact (Ext.refl w3).alloc _)
              have HR4 : Hid (RowB w4 w3.heap.size 90 [.int .i64 y.2.2.kind, .int .i64 y.2.2.number, .int .i64 y.2.2.segment, .int .i64 y.2.2.pages, .string (st y.2.2.key), .slice Ay y.2.2.value.length cy]) := Lib.hid (by rw [hw4]; exact row_laid w3 _ _)
              rw [← hw4]
              have D1 := Lib.hid (HX4.out.cell d1)
              have D2 := Lib.hid (HX4.out.cell b1)
              clear hw4 y0 y1 y2 y3 y4 y5 d1 b0 b1 b2_ b3 x0 x1 x2 x3 x4
              have d1 := D1.out
              have d2 := D2.out
              have d3 := ((HR3.out.ext HX4.out)).cell (j := 1) rfl
              have d4 := HR4.out.cell (j := 1) rfl
              have d5 := (HRB.out.ext (hX3.out.trans (HX3.out.trans HX4.out))).cell (j := 1) rfl
              clear D1 D2 HR4
              rcases Nat.lt_trichotomy y.2.2.number x.number with hlt | hlt | hlt
              · have g1 : decide (y.2.2.number < x.number) = true := decide_eq_true hlt
                have HP := Lib.hid (show nstep L key (some y) (k, q, x) = some (k, q, x) by unfold nstep; rw [if_pos HKE.out]; simp only; rw [if_pos (by unfold newer; simp [hlt])])
                clear hlt
                go_quiet (fail)
                go_wp2_with fail
                exact ⟨⟨q + 1, some (k, q, x), by go_num, by omega, rfl, rfl, Lib.hid (hX3.out.trans (HX3.out.trans (HX4.out.drewN _))), Lib.hid (by rw [HS.out, HP.out]), Lib.hid (fun y hy => by cases hy; exact HXA.out)⟩, by simp [intOf]; omega⟩
              · have g1 : decide (y.2.2.number < x.number) = false := decide_eq_false (by omega)
                have g2 : ((x.number : Int) == (y.2.2.number : Int)) = true := by rw [hlt]; simp
                by_cases hsg : b2.segment < b.segment
                · have g3 : decide (b2.segment < b.segment) = true := decide_eq_true hsg
                  have HP := Lib.hid (show nstep L key (some y) (k, q, x) = some (k, q, x) by unfold nstep; rw [if_pos HKE.out]; simp only; rw [if_pos (by unfold newer; rw [segOf_at HB.out, HSB.out]; exact decide_eq_true (.inr ⟨hlt.symm, hsg⟩))])
                  clear hlt hsg
                  go_quiet (fail)
                  go_wp2_with fail
                  exact ⟨⟨q + 1, some (k, q, x), by go_num, by omega, rfl, rfl, Lib.hid (hX3.out.trans (HX3.out.trans (HX4.out.drewN _))), Lib.hid (by rw [HS.out, HP.out]), Lib.hid (fun y hy => by cases hy; exact HXA.out)⟩, by simp [intOf]; omega⟩
                · have g3 : decide (b2.segment < b.segment) = false := decide_eq_false hsg
                  have HP := Lib.hid (show nstep L key (some y) (k, q, x) = some y by unfold nstep; rw [if_pos HKE.out]; simp only; rw [if_neg (by unfold newer; rw [segOf_at HB.out, HSB.out]; simp only [decide_eq_true_iff]; omega)])
                  clear hlt hsg
                  go_quiet (fail)
                  go_wp2_with fail
                  exact ⟨⟨q + 1, some y, by go_num, by omega, rfl, rfl, Lib.hid (hX3.out.trans (HX3.out.trans (HX4.out.drewN _))), Lib.hid (by rw [HS.out, HP.out]), hA⟩, by simp [intOf]; omega⟩
              · have g1 : decide (y.2.2.number < x.number) = false := decide_eq_false (by omega)
                have g2 : ((x.number : Int) == (y.2.2.number : Int)) = false := by rw [beq_eq_false_iff_ne]; omega
                have HP := Lib.hid (show nstep L key (some y) (k, q, x) = some y by unfold nstep; rw [if_pos HKE.out]; simp only; rw [if_neg (by unfold newer; simp only [decide_eq_true_iff]; omega)])
                clear hlt
                go_quiet (fail)
                go_wp2_with fail
                exact ⟨⟨q + 1, some y, by go_num, by omega, rfl, rfl, Lib.hid (hX3.out.trans (HX3.out.trans (HX4.out.drewN _))), Lib.hid (by rw [HS.out, HP.out]), hA⟩, by simp [intOf]; omega⟩
          · have HP := Lib.hid (show nstep L key acc (k, q, x) = acc by unfold nstep; rw [if_neg hke])
            have hkf : (x.key == key) = false := by rw [beq_eq_false_iff_ne]; exact hke
            go_wp2_with fail
            exact ⟨⟨q + 1, acc, by go_num, by omega, rfl, rfl, Lib.hid (hX3.out.trans HX3.out), Lib.hid (by rw [HS.out, HP.out]), hA⟩, by simp [intOf]; omega⟩
        · have hqi : (m : Int) ≤ (q : Int) := by omega
          obtain rfl : m = q := by omega
          go_wp2_with fail
          exact ⟨⟨k + 1, acc, by go_num, by omega, rfl, rfl, Lib.hid (hX.out.trans (HX2.out.trans hX3.out)), Lib.hid (by rw [hE3.out, drop_end (by rw [← HM.out]; exact Nat.le_refl _)]; rfl), hA⟩, by simp [intOf]; omega⟩
    · have hki : (n : Int) ≤ (k : Int) := by omega
      obtain rfl : n = k := by omega
      have HF := Lib.hid (show newestF L key = acc by rw [hE.out, drop_end (by rw [← HN.out]; exact Nat.le_refl _)]; rfl)
      go_wp2_with fail
      go_ret2
      rw [HF.out]
      exact ⟨rfl, hX.out⟩
set_option maxHeartbeats 4000000 in
theorem live_any {w : World} {l g c : Nat} {L : Log} (h : LogV w l g c L) (hb : L.blocks.length ≤ 64) (hel : ∀ b ∈ L.blocks, b.entries.length ≤ 32) {i k : Nat} {e : Ent} (he : EAt L (i, k, e)) :
    Calls Try.prog 55 #[.pointer (some ⟨l, 0, none⟩), .int .i64 i, .int .i64 k] w fun e' w' => e' = .returned (.bool (liveF L i k e)) ∧ Ext w w' := by
  obtain ⟨n, hn⟩ : ∃ n, n = L.blocks.length := ⟨_, rfl⟩
  have HN := Lib.hid hn
  have HV := Lib.hid h
  have hn64 : n ≤ 64 := by omega
  have c1 := h.c1
  rw [← hn] at c1
  obtain ⟨b, hyb, hye⟩ := he
  simp only at hyb hye
  have hi1 : (i : Int) < (n : Int) := by have := (List.getElem?_eq_some_iff.1 hyb).1; omega
  have hk1 : (k : Int) < (b.entries.length : Int) := by have := (List.getElem?_eq_some_iff.1 hye).1; omega
  obtain ⟨A2, ca2, he2, b0, b1, b2, b3⟩ := h.blk _ _ hyb
  have hnp : b.entries ≠ [] := by intro h9; rw [h9] at hye; simp at hye
  obtain ⟨g2, c2, hee2⟩ := he2.addr hnp
  cases hee2
  obtain ⟨Ay, cy, -, y0, y1, y2, y3, y4, y5⟩ := he2.at_ hye
  have HNW := Lib.hid (fun W (hX : Ext w W) => newest_any (h.ext hX) hb hel e.key)
  have HLS := Lib.hid (fun W (hX : Ext w W) v => elsewhere_any (h.ext hX) hb hel i { e with kind := 1 } v false)
  have HLV := Lib.hid (show liveF L i k e = (match newestF L e.key with | none => false | some y => decide (y.1 = i ∧ y.2.1 = k) && (decide (e.kind = 1) || elsewhereF L i 1 e.number e.key false)) from rfl)
  clear hn h hb hel he2 hyb hye hnp
  go_enter Try.func55, Try.ntmps55
  go_upto_region 2 with fail
  obtain ⟨w1, hw1⟩ : ∃ z, z = w.alloc (.cells #[.int .i64 e.kind, .int .i64 e.number, .int .i64 e.segment, .int .i64 e.pages, .string (st e.key), .slice Ay e.value.length cy] 90) := ⟨_, rfl⟩
  have HX1 := Lib.hid (show Ext w w1 by rw [hw1]; exact (Ext.refl w).alloc _)
  have HR1 : Hid (RowB w1 w.heap.size 90 [.int .i64 e.kind, .int .i64 e.number, .int .i64 e.segment, .int .i64 e.pages, .string (st e.key), .slice Ay e.value.length cy]) := Lib.hid (by rw [hw1]; exact row_laid w _ _)
  rw [← hw1]
  clear hw1 y0 y1 y2 y3 y4 y5 b0 b1 b2 b3 c1
  have k4 := HR1.out.cell (j := 4) rfl
  cases hnw : newestF L e.key with
  | none =>
    rw [hnw] at HLV HNW
    have hne : ((-1 : Int) != (i : Int)) = true := by rw [bne_iff_ne]; omega
    clear hnw
    go_wp2_with (go_at_call 57; refine (HNW.out _ HX1.out).mono ?_; rintro e' w2 ⟨rfl, hx2⟩; rw [show nI none = -1 from rfl, show nK none = -1 from rfl])
    go_ret
    rw [HLV.out]
    exact ⟨rfl, HX1.out.trans hx2⟩
  | some y =>
    rw [hnw] at HLV HNW
    clear hnw
    by_cases hy1 : y.1 = i
    · by_cases hy2 : y.2.1 = k
      · have e1 : ((i : Int) != (i : Int)) = false := by simp
        have e2 : ((k : Int) != (k : Int)) = false := by simp
        by_cases hkd : ((e.kind : Int) == 1) = true
        · have HK := Lib.hid (show e.kind = 1 by have := eq_of_beq hkd; omega)
          go_wp2_with (go_at_call 57; refine (HNW.out _ HX1.out).mono ?_; rintro e' w2 ⟨rfl, hx2⟩; rw [show nI (some y) = (i : Int) by rw [← hy1]; rfl, show nK (some y) = (k : Int) by rw [← hy2]; rfl]; have k0 := (HR1.out.ext hx2).cell (j := 0) rfl)
          go_ret
          refine ⟨?_, HX1.out.trans hx2⟩
          rw [HLV.out]
          simp only
          rw [decide_eq_true ⟨hy1, hy2⟩, decide_eq_true HK.out]
          rfl
        · have hkf : ((e.kind : Int) == 1) = false := by simpa using hkd
          have HK := Lib.hid (show ¬ e.kind = 1 by intro h9; rw [h9] at hkd; exact hkd rfl)
          have HY := Lib.hid (And.intro hy1 hy2)
          clear hkd hy1 hy2
          go_upto_region 8 with (go_at_call 57; refine (HNW.out _ HX1.out).mono ?_; rintro e' w2 ⟨rfl, hx2⟩; rw [show nI (some y) = (i : Int) by rw [← HY.out.1]; rfl, show nK (some y) = (k : Int) by rw [← HY.out.2]; rfl]; have hr2 := HR1.out.ext hx2; have k0 := hr2.cell (j := 0) rfl; have q0 := hr2.frozen (j := 0) (by simp))
          obtain ⟨w3, hw3⟩ : ∃ z, z = w2.setCell ⟨w.heap.size, 0, none⟩ (.int .i64 1) := ⟨_, rfl⟩
          have HX3 := Lib.hid (show Ext w w3 by rw [hw3]; exact (HX1.out.trans hx2).setCell (Nat.le_refl _) _)
          have HR3 : Hid (RowB w3 w.heap.size 90 [.int .i64 1, .int .i64 e.number, .int .i64 e.segment, .int .i64 e.pages, .string (st e.key), .slice Ay e.value.length cy]) := Lib.hid (by rw [hw3]; exact hr2.set 0 (.int .i64 1) (by simp))
          rw [← hw3]
          clear hw3 hr2 k0 q0 hx2 k4
          have k0 := (HR3.out).cell (j := 0) rfl
          have k1 := (HR3.out).cell (j := 1) rfl
          have k2 := (HR3.out).cell (j := 2) rfl
          have k3 := (HR3.out).cell (j := 3) rfl
          have k4 := (HR3.out).cell (j := 4) rfl
          have k5 := (HR3.out).cell (j := 5) rfl
          go_wp2_with (go_at_call 56; refine (HLS.out _ HX3.out _).mono ?_; rintro e' w4 ⟨rfl, hx4⟩)
          go_ret
          refine ⟨?_, HX3.out.trans hx4⟩
          rw [HLV.out]
          simp only
          rw [decide_eq_true HY.out, decide_eq_false HK.out]
          rfl
      · have e1 : ((i : Int) != (i : Int)) = false := by simp
        have e2 : ((y.2.1 : Int) != (k : Int)) = true := by rw [bne_iff_ne]; omega
        go_wp2_with (go_at_call 57; refine (HNW.out _ HX1.out).mono ?_; rintro e' w2 ⟨rfl, hx2⟩; rw [show nI (some y) = (i : Int) by rw [← hy1]; rfl, show nK (some y) = (y.2.1 : Int) from rfl])
        go_ret
        refine ⟨?_, HX1.out.trans hx2⟩
        rw [HLV.out]
        simp only
        rw [decide_eq_false (fun h9 => hy2 h9.2)]
        rfl
    · have e1 : ((y.1 : Int) != (i : Int)) = true := by rw [bne_iff_ne]; omega
      go_wp2_with (go_at_call 57; refine (HNW.out _ HX1.out).mono ?_; rintro e' w2 ⟨rfl, hx2⟩; rw [show nI (some y) = (y.1 : Int) from rfl, show nK (some y) = (y.2.1 : Int) from rfl])
      go_ret
      refine ⟨?_, HX1.out.trans hx2⟩
      rw [HLV.out]
      simp only
      rw [decide_eq_false (fun h9 => hy1 h9.1)]
      rfl
end Go.Proofs.Ytepigkjgjlibcaa
namespace Go.Proofs.Ytepigkjgjlibcaa
open Go.RowKit Go.Deep Go.Proofs.Ytepigkjgjlibcaa.FL
/-- a slice of ints that a call has made -/
def NumsAt (w : World) (B : Nat) (v : Value) (xs : List Nat) : Prop := w.ownsRow B 3 1 v xs.length (xs.map fun n : Nat => .int .i64 (n : Int))
theorem nums_info : (Try.prog.info? 3).map (fun i => (i.zero, i.size, i.bytes)) = some (some (.int .i64 0), 1, 8) := by kernel_rfl
theorem nums_base {w : World} {base : Nat} {e : TypeId} {size : Nat} {v : Value} {n : Nat} {xs : List Value} (h : w.ownsRow base e size v n xs) : ∀ g, v.ownBlock = some g → base ≤ g := by
  intro g hg
  rcases h.2 with ⟨rfl, _⟩ | ⟨g', cap, cur, rfl, hb, _⟩
  · simp [Value.ownBlock] at hg
  · have e : g' = g := by simpa [Value.ownBlock] using hg
    omega
theorem NumsAt.kept {w w' : World} {B : Nat} {v : Value} {xs : List Nat} (h : NumsAt w B v xs) (hk : Below w.heap.size w w') : NumsAt w' B v xs := by
  refine ⟨h.1, h.2.imp id ?_⟩
  rintro ⟨g, cap, cur, rfl, h1, h2, h3⟩
  exact ⟨g, cap, cur, rfl, h1, (Below.block hk g (Array.getElem?_eq_some_iff.1 h2).1).trans h2, h3⟩
theorem NumsAt.nil (w : World) (B : Nat) : NumsAt w B (.slice none 0 0) [] := World.ownsRow_nil _ _ _ _
/-- 'append(out, m)' of one int onto a slice of the call's own -/
theorem wpList_append_num (w : World) {ops : Array Oper} {rest : List Oper} {o : Oper} {a : Act} {Q : Exit → Act → World → Prop} (hg : o.guard = none) (s x : Operand)
    (ho : o.op = .call { callee := .builtin .append, args := #[s, x], argTypes := #[71, 71] }) (B : Nat) {v : Value} {xs : List Nat} (m : Nat) (u : Int) (hown : NumsAt w B v xs) (hu : u = (m : Int)) (hs : a.eval s = v)
    (hx : a.eval x = .slice (some ⟨w.heap.size, 0, none⟩) 1 1) (hlen : xs.length ≤ 1000000000) (hB : B ≤ w.heap.size)
    (h : ∀ v' w', NumsAt w' B v' (xs ++ [m]) → Below B w w' → Mod (fun x => v.ownBlock = some x) w w' → wpList Try.prog ops Q rest (a.put o.dst v') w') : wpList Try.prog ops Q (o :: rest) a (w.alloc (.cells #[.int .i64 u] 3)) := by
  subst hu
  obtain ⟨i0, hi0, hz0, hz1, hz2⟩ := info_parts nums_info
  refine wpList_append_own _ hg s x 71 ho B 3 i0 (.int .i64 0) 1 8 Try.underlying71 hi0 hz0 hz1 hz2 rfl (by decide) v xs.length _ hs (hown.alloc _) ⟨w.heap.size, 0, none⟩ 1 1 [.int .i64 (m : Int)] hx rfl ?_ ?_ ?_ ?_ ?_ ?_
  · intro j y hj
    match j, hj with
    | 0, hj => simp at hj; subst hj; simp [Addr.add]
  · intro y hy; simp at hy; subst hy; rfl
  · simp only [maxLen]; omega
  · omega
  · simp; omega
  · intro v' w1 hown' hgrow _
    refine h v' w1 ?_ ?_ ?_
    · unfold NumsAt
      rw [List.length_append, List.map_append]
      exact hown'
    · exact Below.grown (Below.alloc (Below.refl _ _) hB _) hgrow (by simp; omega) (nums_base hown)
    · exact ((Mod.refl (fun x => v.ownBlock = some x) w).alloc _).grown hgrow (fun k hk => .inl hk)
/-- the cells of such a slice -/
theorem NumsAt.get {w : World} {B : Nat} {v : Value} {xs : List Nat} (h : NumsAt w B v xs) {i x : Nat} (hx : xs[i]? = some x) : ∃ g c, v = .slice (some ⟨g, 0, none⟩) xs.length c ∧ w.cell? ⟨g, i, none⟩ = some (.int .i64 (x : Int)) := by
  have hi := (List.getElem?_eq_some_iff.1 hx).1
  obtain ⟨g, c, rfl⟩ := own_addr h (by omega)
  exact ⟨g, c, rfl, (own_row h).1.cell (by rw [List.getElem?_map, hx]; rfl)⟩
theorem NumsAt.slice {w : World} {B : Nat} {v : Value} {xs : List Nat} (h : NumsAt w B v xs) : ∃ A c, v = .slice A xs.length c := own_slice h
end Go.Proofs.Ytepigkjgjlibcaa
namespace Go.Proofs.Ytepigkjgjlibcaa
open Go.RowKit Go.Deep Go.Proofs.Ytepigkjgjlibcaa.FL
set_option maxRecDepth 100000
def freeP (L : Log) (i : Nat) : Bool := match L.blocks[i]? with | some b => decide (b.next = 0) | none => false
theorem freeF_eq (L : Log) : freeF L = (List.range L.blocks.length).filter (freeP L) := rfl
set_option maxHeartbeats 4000000 in
theorem free_any {w : World} {l g c : Nat} {L : Log} (h : LogV w l g c L) (hb : L.blocks.length ≤ 64) :
    Calls Try.prog 34 #[.pointer (some ⟨l, 0, none⟩)] w fun e' w' => ∃ v, e' = .returned v ∧ Ext w w' ∧ NumsAt w' w.heap.size v (freeF L) := by
  obtain ⟨n, hn⟩ : ∃ n, n = L.blocks.length := ⟨_, rfl⟩
  have HN := Lib.hid hn
  have HV := Lib.hid h
  have hn64 : n ≤ 64 := by omega
  have c1 := h.c1
  rw [← hn] at c1
  clear hn h hb
  go_enter Try.func34, Try.ntmps34
  go_upto_region 2 with fail
  go_wp2_with fail
  go_loopw [3, 11] (fun v3 i' wr => ∃ (k : Nat), i' = .int .i64 k ∧ k ≤ n ∧ Hid (Ext w wr) ∧ Hid (NumsAt wr w.heap.size v3 ((List.range k).filter (freeP L)))) (fun _ i' _ => n - (intOf i').toNat)
  case atStart => exact ⟨0, rfl, by omega, Lib.hid (Ext.refl _), Lib.hid (NumsAt.nil _ _)⟩
  case round =>
    obtain ⟨k, rfl, hk, hX, hN⟩ := hrel
    obtain ⟨A3, c3, rfl⟩ := hN.out.slice
    by_cases hkn : k < n
    · have hki : (k : Int) < (n : Int) := by omega
      obtain ⟨b, hb⟩ : ∃ b, L.blocks[k]? = some b := ⟨_, List.getElem?_eq_getElem (by rw [← HN.out]; exact hkn)⟩
      obtain ⟨A, ca, he0, b0, b1, b2, b3⟩ := (HV.out.ext hX.out).blk k b hb
      have HB := Lib.hid hb
      clear hb he0
      go_upto_region 5 with fail
      obtain ⟨w2, hw2⟩ : ∃ z, z = wr.alloc (.cells #[.int .i64 b.next, .int .i64 b.segment, .int .i64 b.number, .slice A b.entries.length ca] 85) := ⟨_, rfl⟩
      have HX2 := Lib.hid (show Ext wr w2 by rw [hw2]; exact (Ext.refl wr).alloc _)
      have HRB : Hid (RowB w2 wr.heap.size 85 [.int .i64 b.next, .int .i64 b.segment, .int .i64 b.number, .slice A b.entries.length ca]) := Lib.hid (by rw [hw2]; exact row_laid wr _ _)
      rw [← hw2]
      clear hw2 b0 b1 b2 b3
      have d0 := HRB.out.cell (j := 0) rfl
      have HNX := Lib.hid (NumsAt.kept hN.out HX2.out)
      by_cases hz : b.next = 0
      · have hzb : ((b.next : Int) == 0) = true := by rw [hz]; rfl
        have HP := Lib.hid (show (List.range (k + 1)).filter (freeP L) = (List.range k).filter (freeP L) ++ [k] by rw [List.range_succ, List.filter_append, List.filter_cons, List.filter_nil, if_pos (by unfold freeP; rw [HB.out]; exact decide_eq_true hz)])
        clear hz
        have HL := Lib.hid (show ((List.range k).filter (freeP L)).length ≤ 1000000000 by have := List.length_filter_le (freeP L) (List.range k); rw [List.length_range] at this; omega)
        have HSZ := Lib.hid (show w.heap.size ≤ w2.heap.size from (hX.out.trans HX2.out).size)
        go_wp2_with (at_builtin; refine wpList_append_num w2 rfl _ _ rfl w.heap.size k _ HNX.out rfl rfl rfl HL.out HSZ.out ?_; intro v6 w6 hn6 hx6 _; have HN6 := Lib.hid hn6; have HX6 := Lib.hid hx6; clear hn6 hx6)
        exact ⟨⟨k + 1, by go_num, by omega, Lib.hid (Below.trans (hX.out.trans HX2.out) HX6.out), Lib.hid (by rw [HP.out]; exact HN6.out)⟩, by simp [intOf]; omega⟩
      · have hzb : ((b.next : Int) == 0) = false := by rw [beq_eq_false_iff_ne]; omega
        have HP := Lib.hid (show (List.range (k + 1)).filter (freeP L) = (List.range k).filter (freeP L) by rw [List.range_succ, List.filter_append, List.filter_cons, List.filter_nil, if_neg (by unfold freeP; rw [HB.out]; simpa using hz), List.append_nil])
        clear hz
        go_wp2_with fail
        exact ⟨⟨k + 1, by go_num, by omega, Lib.hid (hX.out.trans HX2.out), Lib.hid (by rw [HP.out]; exact HNX.out)⟩, by simp [intOf]; omega⟩
    · have hki : (n : Int) ≤ (k : Int) := by omega
      obtain rfl : n = k := by omega
      have HF := Lib.hid hN.out
      clear hN
      go_wp2_with fail
      go_ret
      refine ⟨_, rfl, hX.out, ?_⟩
      rw [freeF_eq, ← HN.out]
      exact HF.out
theorem worn_of {L : Log} {i : Nat} {b : Blk} (h : L.d.now[i]? = some b) : wornOf L i = b.worn := by unfold wornOf; rw [h]
def yStep (L : Log) (b i : Nat) : Nat := if wornOf L i < wornOf L b then i else b
theorem youngestF_eq (L : Log) (f : Nat) (r : List Nat) : youngestF L (f :: r) = r.foldl (yStep L) f := rfl
def yRest (L : Log) (acc : Option Nat) (l : List Nat) : Nat := match acc with
  | none => youngestF L l
  | some b => l.foldl (yStep L) b
def yI : Option Nat → Int
  | none => -1
  | some b => b
def yW (L : Log) : Option Nat → Int
  | none => 0
  | some b => wornOf L b
def yNext (L : Log) (acc : Option Nat) (x : Nat) : Option Nat := match acc with
  | none => some x
  | some b => some (yStep L b x)
theorem yRest_step (L : Log) (acc : Option Nat) (x : Nat) (r : List Nat) : yRest L acc (x :: r) = yRest L (yNext L acc x) r := by cases acc <;> rfl
set_option maxHeartbeats 4000000 in
theorem youngest_any {w : World} {S SD : Nat → Prop} {l : Nat} {F : LogF} {G : DevF} {L : Log} (h : LogAtF w S l F SD G L) {B : Nat} {v : Value} {fs : List Nat} (hv : NumsAt w B v fs) (hf : fs ≠ []) (hl : fs.length ≤ 64) (hin : ∀ i ∈ fs, i < L.d.now.length) :
    Calls Try.prog 60 #[.pointer (some ⟨l, 0, none⟩), v] w fun e' w' => e' = .returned (.int .i64 (youngestF L fs)) ∧ Ext w w' := by
  obtain ⟨n, hn⟩ : ∃ n, n = fs.length := ⟨_, rfl⟩
  have HN := Lib.hid hn
  have H := Lib.hid h
  have HF := Lib.hid hf
  have HIN := Lib.hid hin
  have HV := Lib.hid hv
  have hn64 : n ≤ 64 := by omega
  obtain ⟨g, c, rfl⟩ : ∃ g c, v = .slice (some ⟨g, 0, none⟩) fs.length c := own_addr hv (List.length_pos_iff.2 hf)
  rw [← hn] at HV ⊢
  clear hn h hv hf hl hin
  go_enter Try.func60, Try.ntmps60
  go_wp2_with fail
  go_loopw [5, 6, 13] (fun v5 v6 i' wr => ∃ (k : Nat) (acc : Option Nat), i' = .int .i64 k ∧ k ≤ n ∧ v5 = .int .i64 (yI acc) ∧ v6 = .int .i64 (yW L acc) ∧ Hid (Ext w wr) ∧ Hid (youngestF L fs = yRest L acc (fs.drop k)) ∧ Hid (0 < k → acc ≠ none)) (fun _ _ i' _ => n - (intOf i').toNat)
  case atStart => exact ⟨0, none, rfl, by omega, rfl, rfl, Lib.hid (Ext.refl _), Lib.hid rfl, Lib.hid (fun h9 => absurd h9 (by omega))⟩
  case round =>
    obtain ⟨k, acc, rfl, hk, rfl, rfl, hX, hE, hA⟩ := hrel
    by_cases hkn : k < n
    · have hki : (k : Int) < (n : Int) := by omega
      obtain ⟨x, hx⟩ : ∃ x, fs[k]? = some x := ⟨_, List.getElem?_eq_getElem (by rw [← HN.out]; exact hkn)⟩
      obtain ⟨g2, c2, e2, x0⟩ := HV.out.get hx
      cases e2
      have x1 := hX.out.cell x0
      have HS := Lib.hid (show youngestF L fs = yRest L (yNext L acc x) (fs.drop (k + 1)) by rw [hE.out, drop_some hx, yRest_step])
      obtain ⟨b, hb⟩ : ∃ b, L.d.now[x]? = some b := ⟨_, List.getElem?_eq_getElem (HIN.out x (List.mem_of_getElem? hx))⟩
      have HW := Lib.hid (worn_any (H.out.ext hX.out).dev hb)
      have HWO := Lib.hid (worn_of hb)
      rw [← HWO.out] at HW
      have d0 := (H.out.ext hX.out).row.cell (j := 0) rfl
      clear hx x0 hb
      obtain ⟨wx, hwx⟩ : ∃ z, z = wornOf L x := ⟨_, rfl⟩
      rw [← hwx] at HW
      have HWX := Lib.hid hwx
      clear hwx
      cases acc with
      | none =>
        rw [show yI none = -1 from rfl, show yW L none = 0 from rfl]
        go_wp2_with (go_at_call 75; refine HW.out.mono ?_; rintro e w1 ⟨rfl, rfl⟩)
        exact ⟨⟨k + 1, some x, by go_num, by omega, rfl, by rw [HWX.out]; rfl, hX, Lib.hid (by rw [HS.out]; rfl), Lib.hid (fun _ => by simp)⟩, by simp [intOf]; omega⟩
      | some y =>
        rw [show yI (some y) = (y : Int) from rfl, show yW L (some y) = wornOf L y from rfl]
        have hy0 : ¬ (y : Int) < 0 := by omega
        obtain ⟨wy, hwy⟩ : ∃ z, z = wornOf L y := ⟨_, rfl⟩
        rw [← hwy]
        have HWY := Lib.hid hwy
        clear hwy
        by_cases hlt : wx < wy
        · have HP := Lib.hid (show yNext L (some y) x = some x by show some (yStep L y x) = _; unfold yStep; rw [← HWX.out, ← HWY.out, if_pos hlt])
          go_wp2_with (go_at_call 75; refine HW.out.mono ?_; rintro e w1 ⟨rfl, rfl⟩)
          exact ⟨⟨k + 1, some x, by go_num, by omega, rfl, by rw [HWX.out]; rfl, hX, Lib.hid (by rw [HS.out, HP.out]), Lib.hid (fun _ => by simp)⟩, by simp [intOf]; omega⟩
        · have HP := Lib.hid (show yNext L (some y) x = some y by show some (yStep L y x) = _; unfold yStep; rw [← HWX.out, ← HWY.out, if_neg hlt])
          go_wp2_with (go_at_call 75; refine HW.out.mono ?_; rintro e w1 ⟨rfl, rfl⟩)
          exact ⟨⟨k + 1, some y, by go_num, by omega, rfl, by rw [HWY.out]; rfl, hX, Lib.hid (by rw [HS.out, HP.out]), Lib.hid (fun _ => by simp)⟩, by simp [intOf]; omega⟩
    · have hki : (n : Int) ≤ (k : Int) := by omega
      obtain rfl : n = k := by omega
      cases acc with
      | none => exact absurd rfl (hA.out (by have := List.length_pos_iff.2 HF.out; have := HN.out; omega))
      | some y =>
        have HF := Lib.hid (show youngestF L fs = y by rw [hE.out, drop_end (by rw [← HN.out]; exact Nat.le_refl _)]; rfl)
        go_wp2_with fail
        go_ret
        rw [HF.out]
        exact ⟨rfl, hX.out⟩
end Go.Proofs.Ytepigkjgjlibcaa
