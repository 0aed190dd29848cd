/- Chapter 23: a flash device in memory. Chapter 23: package device: Blocks, Pages, check, page, power, filled, next. Chapter 23: package device: filled, next. Chapter 23: package device: next. Chapter 23: package device: Program. Chapter 23: package device: Program. -/
import Derived.Test.YtepigkjgjlibcaaGAD
import Derived.Laws.CopyOwn
import Derived.Deep.OwnRows
namespace Go.Proofs.Ytepigkjgjlibcaa
open Go.RowKit Go.Deep Go.Proofs.Ytepigkjgjlibcaa.FL
/-! rows of records -/
section
variable {α β : Type}
theorem flat_len (f : α → List β) (k : Nat) (hk : ∀ x, (f x).length = k) (l : List α) : (l.flatMap f).length = l.length * k := by
  induction l with
  | nil => simp
  | cons x r ih => rw [List.flatMap_cons, List.length_append, ih, hk, List.length_cons, Nat.succ_mul]; omega
theorem flat_get (f : α → List β) (k : Nat) (hk : ∀ x, (f x).length = k) (l : List α) (i j : Nat) (hj : j < k) : (l.flatMap f)[i * k + j]? = (l[i]?).bind fun x => (f x)[j]? := by
  induction l generalizing i with
  | nil => simp
  | cons x r ih =>
    rw [List.flatMap_cons]
    cases i with
    | zero => rw [Nat.zero_mul, Nat.zero_add, List.getElem?_append_left (by rw [hk]; exact hj)]; rfl
    | succ i =>
      rw [List.getElem?_append_right (by rw [hk, Nat.succ_mul]; omega), hk, show (i + 1) * k + j - k = i * k + j by rw [Nat.succ_mul]; omega, ih]
      rfl
theorem flat_set (f : α → List β) (k : Nat) (hk : ∀ x, (f x).length = k) (l : List α) (i j : Nat) (hj : j < k) (v : β) (x y : α) (hx : l[i]? = some x) (hy : f y = (f x).set j v) : (l.flatMap f).set (i * k + j) v = (l.set i y).flatMap f := by
  induction l generalizing i with
  | nil => simp at hx
  | cons z r ih =>
    rw [List.flatMap_cons]
    cases i with
    | zero =>
      simp only [List.getElem?_cons_zero, Option.some.injEq] at hx
      subst hx
      rw [Nat.zero_mul, Nat.zero_add, List.set_append_left _ _ (by rw [hk]; exact hj), ← hy]
      rfl
    | succ i =>
      rw [List.set_append_right _ _ (by rw [hk, Nat.succ_mul]; omega), hk, show (i + 1) * k + j - k = i * k + j by rw [Nat.succ_mul]; omega, ih i (by simpa using hx)]
      rfl
end
/-- the blocks of S hold cells of the types tys -/
def Typed (w : World) (tys : List TypeId) (S : Nat → Prop) : Prop := ∀ x, S x → ∃ C T fr, w.heap[x]? = some (.cells C T fr) ∧ T ∈ tys
/-- the types of the blocks keep -/
theorem Typed.lt {w : World} {tys : List TypeId} {S : Nat → Prop} (h : Typed w tys S) {x : Nat} (hx : S x) : x < w.heap.size := by
  obtain ⟨C, T, fr, h1, -⟩ := h x hx
  exact (Array.getElem?_eq_some_iff.1 h1).1
theorem Typed.no8 {w : World} {tys : List TypeId} {S : Nat → Prop} (h : Typed w tys S) (ht : 5 ∉ tys) : No8 w S := by
  intro g C fr hg hS
  obtain ⟨C', T, fr', h1, h2⟩ := h g hS
  rw [hg] at h1
  cases h1
  exact ht h2
theorem Typed.mod {w w' : World} {tys : List TypeId} {S F : Nat → Prop} (h : Typed w tys S) (hm : Mod F w w') (hn : ∀ x, S x → ¬ F x) : Typed w' tys S := by
  intro x hx
  obtain ⟨C, T, fr, h1, h2⟩ := h x hx
  exact ⟨C, T, fr, (hm.block x (Typed.lt h hx) (hn x hx)).trans h1, h2⟩
theorem Typed.apart {w : World} {tys : List TypeId} {S : Nat → Prop} (h : Typed w tys S) {g : Nat} {T : TypeId} {xs : List Value} (hr : RowB w g T xs) (ht : T ∉ tys) : ¬ S g := by
  intro hS
  obtain ⟨C, fr, rest, h1, -, -⟩ := hr
  obtain ⟨C', T', fr', h2, h3⟩ := h g hS
  rw [h1] at h2
  cases h2
  exact ht h3
theorem Typed.row {w : World} {tys : List TypeId} {S : Nat → Prop} (h : Typed w tys S) {g : Nat} {T : TypeId} {xs : List Value} (hr : RowB w g T xs) (ht : T ∈ tys) : Typed w tys (fun x => S x ∨ x = g) := by
  rintro x (hx | rfl)
  · exact h x hx
  · obtain ⟨C, fr, rest, h1, -, -⟩ := hr
    exact ⟨C, T, fr, h1, ht⟩
def devTys : List TypeId := [99, 95, 42, 103]
/-- the bytes of a page -/
def PgV (w : World) (v : Value) : Option Bs → Prop
  | none => v = .slice none 0 0
  | some x => BS w v x ∧ x.length = 512
def PgsAt (w : World) (g : Nat) (l : List (Option Bs)) : Prop := ∃ vs : List Value, RowB w g 42 vs ∧ vs.length = l.length ∧ ∀ (i : Nat) (v : Value) (p : Option Bs), vs[i]? = some v → l[i]? = some p → PgV w v p
def blkCells (p : (Nat × Nat) × Blk) : List Value := [.slice (some ⟨p.1.1, 0, none⟩) p.2.pages.length p.1.2, .int .i64 p.2.worn]
structure BlksAt (w : World) (g : Nat) (ps : List (Nat × Nat)) (np : Nat) (bs : List Blk) : Prop where
  row : RowB w g 95 ((ps.zip bs).flatMap blkCells)
  len : ps.length = bs.length
  pgs : ∀ (i : Nat) (p : Nat × Nat) (b : Blk), ps[i]? = some p → bs[i]? = some b → PgsAt w p.1 b.pages ∧ b.pages.length = np ∧ np ≤ p.2
def operCells (w : World) (o : FL.Oper) (cs : List Value) : Prop := ∃ v, cs = [.int .i64 o.block, .int .i64 o.page, v] ∧ PgV w v o.data
def OpsAt (w : World) (v : Value) (l : List FL.Oper) : Prop := ∃ rows : List (List Value), rows.length = l.length ∧ w.ownsRow 0 103 3 v rows.length rows.flatten ∧ (∀ (i : Nat) (r : List Value) (o : FL.Oper), rows[i]? = some r → l[i]? = some o → operCells w o r)
structure DevF where
  gd : Nat
  gn : Nat
  pd : List (Nat × Nat)
  pn : List (Nat × Nat)
  pv : Value
structure DevAtF (w : World) (S : Nat → Prop) (d : Nat) (F : DevF) (D : Dev) : Prop where
  row : RowB w d 99 [.slice (some ⟨F.gd, 0, none⟩) D.durable.length D.durable.length, .slice (some ⟨F.gn, 0, none⟩) D.now.length D.now.length, F.pv, .bool D.off, .bool D.planned, .int .i64 D.left]
  dur : BlksAt w F.gd F.pd D.npages D.durable
  now : BlksAt w F.gn F.pn D.npages D.now
  pend : OpsAt w F.pv D.pending
  nodup : ((F.pn ++ F.pd).map (·.1)).Nodup
  gne : F.gd ≠ F.gn
  inS : S d ∧ S F.gd ∧ S F.gn ∧ (∀ p ∈ F.pn ++ F.pd, S p.1) ∧ ∀ x, F.pv.ownBlock = some x → S x
  ty : Typed w devTys S
  lens : D.durable.length = D.now.length
  nb : 1 ≤ D.now.length ∧ D.now.length ≤ 64
  np : 1 ≤ D.npages ∧ D.npages ≤ 32
  left : D.left < 4611686018427387904
  ops : ∀ o ∈ D.pending, o.block < D.now.length ∧ o.page < D.npages
def DevAt (w : World) (S : Nat → Prop) (d : Nat) (D : Dev) : Prop := ∃ F, DevAtF w S d F D
theorem PgV.mod {w w' : World} {F : Nat → Prop} {v : Value} {p : Option Bs} (h : PgV w v p) (hm : Mod F w w') (h8 : No8 w F) : PgV w' v p := by
  cases p with
  | none => exact h
  | some x => exact ⟨h.1.mod hm h8, h.2⟩
theorem PgsAt.mod {w w' : World} {F : Nat → Prop} {g : Nat} {l : List (Option Bs)} (h : PgsAt w g l) (hm : Mod F w w') (h8 : No8 w F) (hg : ¬ F g) : PgsAt w' g l := by
  obtain ⟨vs, h1, h2, h3⟩ := h
  exact ⟨vs, hm.rowB h1 hg, h2, fun i v p hv hp => (h3 i v p hv hp).mod hm h8⟩
theorem BlksAt.mod {w w' : World} {F : Nat → Prop} {g : Nat} {ps : List (Nat × Nat)} {np : Nat} {bs : List Blk} (h : BlksAt w g ps np bs) (hm : Mod F w w') (h8 : No8 w F) (hg : ¬ F g) (hp : ∀ p ∈ ps, ¬ F p.1) : BlksAt w' g ps np bs :=
  ⟨hm.rowB h.row hg, h.len, fun i p b h1 h2 => ⟨(h.pgs i p b h1 h2).1.mod hm h8 (hp p (List.mem_of_getElem? h1)), (h.pgs i p b h1 h2).2⟩⟩
theorem own_mod {w w' : World} {F : Nat → Prop} {B : Nat} {e : TypeId} {k n : Nat} {v : Value} {xs : List Value} (h : w.ownsRow B e k v n xs) (hm : Mod F w w') (hF : ∀ x, v.ownBlock = some x → ¬ F x) : w'.ownsRow B e k v n xs := by
  refine ⟨h.1, h.2.imp id ?_⟩
  rintro ⟨g, cap, cur, rfl, h1, h2, h3⟩
  exact ⟨g, cap, cur, rfl, h1, (hm.block g (Array.getElem?_eq_some_iff.1 h2).1 (hF g rfl)).trans h2, h3⟩
theorem OpsAt.mod {w w' : World} {F : Nat → Prop} {v : Value} {l : List FL.Oper} (h : OpsAt w v l) (hm : Mod F w w') (h8 : No8 w F) (hF : ∀ x, v.ownBlock = some x → ¬ F x) : OpsAt w' v l := by
  obtain ⟨rows, h1, h2, h3⟩ := h
  exact ⟨rows, h1, own_mod h2 hm hF, fun i r o hr ho => (h3 i r o hr ho).imp fun v hv => ⟨hv.1, hv.2.mod hm h8⟩⟩
theorem DevAtF.mod {w w' : World} {S F : Nat → Prop} {d : Nat} {G : DevF} {D : Dev} (h : DevAtF w S d G D) (hm : Mod F w w') (h8 : No8 w F) (hF : ∀ x, S x → ¬ F x) : DevAtF w' S d G D :=
  { h with
    row := hm.rowB h.row (hF _ h.inS.1)
    dur := h.dur.mod hm h8 (hF _ h.inS.2.1) (fun p hp => hF _ (h.inS.2.2.2.1 p (List.mem_append_right _ hp)))
    now := h.now.mod hm h8 (hF _ h.inS.2.2.1) (fun p hp => hF _ (h.inS.2.2.2.1 p (List.mem_append_left _ hp)))
    pend := h.pend.mod hm h8 (fun x hx => hF _ (h.inS.2.2.2.2 x hx))
    ty := h.ty.mod hm hF }
theorem DevAt.mod {w w' : World} {S F : Nat → Prop} {d : Nat} {D : Dev} (h : DevAt w S d D) (hm : Mod F w w') (h8 : No8 w F) (hF : ∀ x, S x → ¬ F x) : DevAt w' S d D := h.imp fun _ h => h.mod hm h8 hF
theorem no8_false (w : World) : No8 w (fun _ => False) := fun _ _ _ _ h => h
theorem DevAt.ext {w w' : World} {S : Nat → Prop} {d : Nat} {D : Dev} (h : DevAt w S d D) (hx : Ext w w') : DevAt w' S d D := h.mod (Mod.of_ext (fun _ => False) hx) (no8_false w) (fun _ _ h => h)
theorem DevAtF.ext {w w' : World} {S : Nat → Prop} {d : Nat} {G : DevF} {D : Dev} (h : DevAtF w S d G D) (hx : Ext w w') : DevAtF w' S d G D := h.mod (Mod.of_ext (fun _ => False) hx) (no8_false w) (fun _ _ h => h)
theorem DevAtF.no8 {w : World} {S : Nat → Prop} {d : Nat} {G : DevF} {D : Dev} (h : DevAtF w S d G D) : No8 w S := h.ty.no8 (by decide)
/-- the cells of a block's record -/
theorem BlksAt.cells {w : World} {g : Nat} {ps : List (Nat × Nat)} {np : Nat} {bs : List Blk} (h : BlksAt w g ps np bs) {i : Nat} {b : Blk} (hb : bs[i]? = some b) :
    ∃ p cap, ps[i]? = some (p, cap) ∧ w.cell? ⟨g, i * 2, none⟩ = some (.slice (some ⟨p, 0, none⟩) np cap) ∧ w.cell? ⟨g, i * 2 + 1, none⟩ = some (.int .i64 b.worn) ∧ PgsAt w p b.pages ∧ b.pages.length = np ∧ np ≤ cap := by
  have hi := (List.getElem?_eq_some_iff.1 hb).1
  rw [← h.len] at hi
  obtain ⟨pc, hpc⟩ : ∃ pc, ps[i]? = some pc := ⟨_, List.getElem?_eq_getElem hi⟩
  obtain ⟨p, cap⟩ := pc
  obtain ⟨h1, h2, h3⟩ := h.pgs i _ _ hpc hb
  have hz : (ps.zip bs)[i]? = some ((p, cap), b) := by rw [List.getElem?_zip_eq_some]; exact ⟨hpc, hb⟩
  refine ⟨p, cap, hpc, h.row.cell ?_, h.row.cell ?_, h1, h2, h3⟩
  · have := flat_get blkCells 2 (fun _ => rfl) (ps.zip bs) i 0 (by decide)
    rw [Nat.add_zero] at this
    rw [this, hz]
    simp [blkCells, h2]
  · rw [flat_get blkCells 2 (fun _ => rfl) (ps.zip bs) i 1 (by decide), hz]
    rfl
end Go.Proofs.Ytepigkjgjlibcaa
namespace Go.Proofs.Ytepigkjgjlibcaa
open Go.RowKit Go.Deep Go.Proofs.Ytepigkjgjlibcaa.FL
theorem row_typed {w : World} {g : Nat} {T : TypeId} {xs : List Value} (h : RowB w g T xs) {tys : List TypeId} (ht : T ∈ tys) : ∃ C T' fr, w.heap[g]? = some (.cells C T' fr) ∧ T' ∈ tys := by
  obtain ⟨C, fr, rest, h1, -, -⟩ := h
  exact ⟨C, T, fr, h1, ht⟩
theorem DevAtF.no8d {w : World} {S : Nat → Prop} {d : Nat} {G : DevF} {D : Dev} (h : DevAtF w S d G D) : No8 w (fun x => x = d) := no8_row h.row (by decide)
/-- the head of the device alone changes -/
theorem DevAtF.head {w w' : World} {S : Nat → Prop} {d : Nat} {G : DevF} {D : Dev} (h : DevAtF w S d G D) (hm : Mod (fun x => x = d) w w') {off planned : Bool} {left : Nat}
    (hr : RowB w' d 99 [.slice (some ⟨G.gd, 0, none⟩) D.durable.length D.durable.length, .slice (some ⟨G.gn, 0, none⟩) D.now.length D.now.length, G.pv, .bool off, .bool planned, .int .i64 left]) (hl : left < 4611686018427387904) :
    DevAtF w' S d G { D with off := off, planned := planned, left := left } :=
  { row := hr
    dur := h.dur.mod hm h.no8d (h.row.apart h.dur.row (by decide)).symm (fun p hp e => by
      obtain ⟨i, hi⟩ := List.getElem?_of_mem hp
      obtain ⟨vs, h1, -⟩ := (h.dur.pgs i p _ hi (List.getElem?_eq_getElem (by have := (List.getElem?_eq_some_iff.1 hi).1; rw [h.dur.len] at this; exact this))).1
      exact h.row.apart h1 (by decide) e.symm)
    now := h.now.mod hm h.no8d (h.row.apart h.now.row (by decide)).symm (fun p hp e => by
      obtain ⟨i, hi⟩ := List.getElem?_of_mem hp
      obtain ⟨vs, h1, -⟩ := (h.now.pgs i p _ hi (List.getElem?_eq_getElem (by have := (List.getElem?_eq_some_iff.1 hi).1; rw [h.now.len] at this; exact this))).1
      exact h.row.apart h1 (by decide) e.symm)
    pend := h.pend.mod hm h.no8d (fun x hx e => by
      obtain ⟨rows, -, h2, -⟩ := h.pend
      rcases h2.2 with ⟨e2, -⟩ | ⟨g, cap, cur, e2, -, hg, -⟩
      · rw [e2] at hx; cases hx
      · rw [e2] at hx
        cases hx
        obtain ⟨C, fr, rest, h1, -, -⟩ := h.row
        rw [← e, hg] at h1
        simp at h1)
    nodup := h.nodup
    gne := h.gne
    inS := h.inS
    ty := fun x hx => by
      by_cases hxd : x = d
      · subst hxd; exact row_typed hr (by decide)
      · obtain ⟨C, T, fr, h1, h2⟩ := h.ty x hx
        exact ⟨C, T, fr, (hm.block x (Typed.lt h.ty hx) hxd).trans h1, h2⟩
    lens := h.lens
    nb := h.nb
    np := h.np
    left := hl
    ops := h.ops }
theorem blocks_any {w : World} {S : Nat → Prop} {d : Nat} {G : DevF} {D : Dev} (h : DevAtF w S d G D) : Calls Try.prog 32 #[.pointer (some ⟨d, 0, none⟩)] w fun e w' => e = .returned (.int .i64 D.now.length) ∧ w = w' := by
  have c1 := h.row.cell (j := 1) rfl
  go_enter Try.func32, Try.ntmps32
  go_wp2_with fail
  go_ret
  exact ⟨rfl, rfl⟩
theorem npages_of {D : Dev} {b : Blk} (hb : D.now[0]? = some b) : D.npages = b.pages.length := by
  unfold Dev.npages
  cases h : D.now with
  | nil => rw [h] at hb; cases hb
  | cons x r => rw [h] at hb; cases hb; rfl
theorem pages_any {w : World} {S : Nat → Prop} {d : Nat} {G : DevF} {D : Dev} (h : DevAtF w S d G D) : Calls Try.prog 19 #[.pointer (some ⟨d, 0, none⟩)] w fun e w' => e = .returned (.int .i64 D.npages) ∧ w = w' := by
  have c1 := h.row.cell (j := 1) rfl
  have hn := h.nb.1
  obtain ⟨b, hb⟩ : ∃ b, D.now[0]? = some b := ⟨_, List.getElem?_eq_getElem (by omega)⟩
  obtain ⟨p, cap, -, e0, -, -, -, -⟩ := h.now.cells hb
  rw [Nat.zero_mul] at e0
  have hni : (0 : Int) < (D.now.length : Int) := by omega
  clear h hb
  go_enter Try.func19, Try.ntmps19
  go_wp2_with fail
  go_ret
  exact ⟨rfl, rfl⟩
def inR (D : Dev) (block : Int) : Prop := 0 ≤ block ∧ block < D.now.length
theorem check_ok {w : World} {S : Nat → Prop} {d : Nat} {G : DevF} {D : Dev} (h : DevAtF w S d G D) (i : Int) (hi : 0 ≤ i ∧ i < D.now.length) : Calls Try.prog 54 #[.pointer (some ⟨d, 0, none⟩), .int .i64 i] w fun e w' => e = .returned .nilIface ∧ w = w' := by
  have c1 := h.row.cell (j := 1) rfl
  obtain ⟨h0, h1⟩ := hi
  clear h
  go_enter Try.func54, Try.ntmps54
  go_wp2_with fail
  go_ret
  exact ⟨rfl, rfl⟩
theorem page_ok {w : World} {S : Nat → Prop} {d : Nat} {G : DevF} {D : Dev} (h : DevAtF w S d G D) (i k : Int) (hi : 0 ≤ i ∧ i < D.now.length) (hk : 0 ≤ k ∧ k < D.npages) : Calls Try.prog 47 #[.pointer (some ⟨d, 0, none⟩), .int .i64 i, .int .i64 k] w fun e w' => e = .returned .nilIface ∧ w = w' := by
  have HC := Lib.hid (check_ok h i hi)
  have HP := Lib.hid (pages_any h)
  obtain ⟨h0, h1⟩ := hk
  clear h
  go_enter Try.func47, Try.ntmps47
  go_wp2_with (first
    | (go_at_call 54; refine HC.out.mono ?_; rintro e w1 ⟨rfl, rfl⟩)
    | (go_at_call 19; refine HP.out.mono ?_; rintro e w1 ⟨rfl, rfl⟩))
  go_ret
  exact ⟨rfl, rfl⟩
theorem page_big {w : World} {S : Nat → Prop} {d : Nat} {G : DevF} {D : Dev} (h : DevAtF w S d G D) (i k : Int) (hi : 0 ≤ i ∧ i < D.now.length) (hk : D.npages ≤ k) : Calls Try.prog 47 #[.pointer (some ⟨d, 0, none⟩), .int .i64 i, .int .i64 k] w fun e w' => e = .returned (errV 1) ∧ w = w' := by
  have HC := Lib.hid (check_ok h i hi)
  have HP := Lib.hid (pages_any h)
  have h0 : 0 ≤ k := by omega
  clear h
  go_enter Try.func47, Try.ntmps47
  go_wp2_with (first
    | (go_at_call 54; refine HC.out.mono ?_; rintro e w1 ⟨rfl, rfl⟩)
    | (go_at_call 19; refine HP.out.mono ?_; rintro e w1 ⟨rfl, rfl⟩))
  go_ret
  exact ⟨rfl, rfl⟩
set_option maxRecDepth 100000 in
theorem power_any {w : World} {S : Nat → Prop} {d : Nat} {G : DevF} {D : Dev} (h : DevAtF w S d G D) : Calls Try.prog 49 #[.pointer (some ⟨d, 0, none⟩)] w fun e w' =>
    e = .returned (.bool (powerF D).1) ∧ DevAtF w' S d G (powerF D).2 ∧ Mod (fun x => x = d) w w' := by
  have H := Lib.hid h
  have HR := Lib.hid h.row
  obtain ⟨du, no, pe, off, pl, lf⟩ := D
  simp only at HR
  have HL : Hid (lf < 4611686018427387904) := Lib.hid h.left
  clear h
  have c3 := HR.out.cell (j := 3) rfl
  have c4 := HR.out.cell (j := 4) rfl
  have c5 := HR.out.cell (j := 5) rfl
  have f3 := HR.out.frozen (j := 3) (by simp)
  have f4 := HR.out.frozen (j := 4) (by simp)
  have f5 := HR.out.frozen (j := 5) (by simp)
  cases pl with
  | false =>
    cases off with
    | true =>
      go_enter Try.func49, Try.ntmps49
      go_wp2_with fail
      go_ret
      exact ⟨rfl, H.out, Mod.refl _ _⟩
    | false =>
      go_enter Try.func49, Try.ntmps49
      go_wp2_with fail
      go_ret
      exact ⟨rfl, H.out, Mod.refl _ _⟩
  | true =>
    by_cases hz : lf = 0
    · subst hz
      have HM := Lib.hid (((Mod.refl (fun x => x = d) w).setCell (p := ⟨d, 3, none⟩) (.inl rfl) (.bool true)).setCell (p := ⟨d, 4, none⟩) (.inl rfl) (.bool false))
      have HR2 := Lib.hid (((HR.out.set 3 (.bool true) (by simp)).set 4 (.bool false) (by simp)))
      go_enter Try.func49, Try.ntmps49
      go_wp2_with fail
      go_ret
      exact ⟨rfl, H.out.head (left := 0) HM.out HR2.out (by omega), HM.out⟩
    · have hzi : ((lf : Int) == 0) = false := by rw [beq_eq_false_iff_ne]; omega
      have hzp : (1 : Int) ≤ (lf : Int) := by omega
      have hw : IntKind.i64.wrap ((lf : Int) - 1) = ((lf - 1 : Nat) : Int) := by rw [IntWalk.i64_in _ (by have := HL.out; omega)]; omega
      have HZ := Lib.hid hz
      clear hz
      cases off with
      | true =>
        go_enter Try.func49, Try.ntmps49
        go_wp2_with fail
        go_ret
        refine ⟨?_, ?_, Mod.refl _ _⟩
        · simp [powerF, HZ.out]
        · have h1 := H.out
          simpa [powerF, HZ.out] using h1
      | false =>
        have HM := Lib.hid (((Mod.refl (fun x => x = d) w).setCell (p := ⟨d, 5, none⟩) (.inl rfl) (.int .i64 ((lf - 1 : Nat) : Int))))
        have HR2 := Lib.hid (((HR.out.set 5 (.int .i64 ((lf - 1 : Nat) : Int)) (by simp))))
        go_enter Try.func49, Try.ntmps49
        go_wp2_with fail
        go_ret
        refine ⟨?_, ?_, HM.out⟩
        · simp [powerF, HZ.out]
        · have h1 := H.out.head HM.out HR2.out (by have := HL.out; omega)
          simpa [powerF, HZ.out] using h1
end Go.Proofs.Ytepigkjgjlibcaa
namespace Go.Proofs.Ytepigkjgjlibcaa
open Go.RowKit Go.Deep Go.Proofs.Ytepigkjgjlibcaa.FL
set_option maxRecDepth 100000
theorem OB.set {w : World} {B g n cap : Nat} {l : Bs} (h : OB w B (.slice (some ⟨g, 0, none⟩) n cap) l) (i : Nat) (b : UInt8) : OB (w.setCell ⟨g, i, none⟩ (.int .u8 b.toNat)) B (.slice (some ⟨g, 0, none⟩) n cap) (l.set i b) := by
  obtain ⟨h1, h2⟩ := h
  rcases h2 with ⟨e, -⟩ | ⟨g', cap', cur, e, hb, hg, hn, hm, hs, ht⟩
  · cases e
  · cases e
    refine ⟨by simp, .inr ⟨g, cap, cur.setIfInBounds i (.int .u8 b.toNat), by rw [List.length_set], hb, ?_, by rw [List.length_set]; exact hn, hm, by simpa using hs, ?_⟩⟩
    · simp [World.setCell, Array.getElem?_modify, hg]
    · rw [List.length_set, Nat.mul_one, Array.toList_setIfInBounds, List.take_set]
      rw [Nat.mul_one] at ht
      rw [ht]
      unfold by8
      rw [List.map_set]
theorem OB.froz {w : World} {B g n cap : Nat} {l : Bs} (h : OB w B (.slice (some ⟨g, 0, none⟩) n cap) l) (i : Nat) : w.frozen? ⟨g, i, none⟩ = false := by
  rcases h.2 with ⟨e, -⟩ | ⟨g', cap', cur, e, hb, hg, -⟩
  · cases e
  · cases e
    unfold World.frozen?
    rw [show (⟨g, i, none⟩ : Addr).block = g from rfl, hg]
    simp
theorem filled_len {l : Bs} (h : l.length ≤ 512) : (filled l).length = 512 := by unfold filled; simp; omega
theorem filled_get {l : Bs} {k : Nat} (h1 : l.length ≤ k) (h2 : k < 512) : (filled l)[k]? = some 255 := by
  unfold filled
  rw [List.getElem?_append_right h1, List.getElem?_replicate, if_pos (by omega)]
/-- a row of bytes that the heap shows -/
theorem ob_of_heap {w : World} {B g n : Nat} {l : Bs} {xs : List Value} (hb : B ≤ g) (hg : w.heap[g]? = some (.cells xs.toArray 5 (0, 0))) (hx : xs = by8 l) (hn : n = l.length) (hm : n ≤ 1000000) : OB w B (.slice (some ⟨g, 0, none⟩) n n) l := by
  subst hx
  subst hn
  refine ⟨by simp, .inr ⟨g, l.length, (by8 l).toArray, rfl, hb, hg, Nat.le_refl _, by simp only [maxLen]; omega, by simp, ?_⟩⟩
  rw [Nat.mul_one, List.take_of_length_le (by simp)]
set_option maxHeartbeats 4000000 in
theorem filled_any {w : World} {v : Value} {l : Bs} (h : BS w v l) (hl : l.length ≤ 512) :
    Calls Try.prog 50 #[v] w fun e w' => ∃ u, e = .returned u ∧ Ext w w' ∧ OB w' w.heap.size u (filled l) := by
  have hmk : ∀ W : World, (Instr.makeSlice 42 (.int .i64 512) (.int .i64 512)).run Try.prog W = .ok (.slice (some ⟨W.heap.size, 0, none⟩) 512 512) (W.alloc (.cells (madeCells #[.int .u8 0] 512) 5)) := fun W => run_make_row' (P := Try.prog) 42 5 (.int .u8 0) 1 Try.underlying42 (by kernel_rfl) rfl .i64 .i64 512 (by omega) (by omega) W
  obtain ⟨A, cap, rfl, -, hne⟩ := h.slice
  have HL := Lib.hid hl
  have HB := Lib.hid h
  obtain ⟨Z, hZ⟩ : ∃ Z : List Value, Z = List.replicate 512 (.int .u8 0) := ⟨_, rfl⟩
  have HZ := Lib.hid hZ
  obtain ⟨C8, hC8⟩ : ∃ C8 : List Value, C8 = by8 l := ⟨_, rfl⟩
  have HC8 := Lib.hid hC8
  obtain ⟨wm, hwm⟩ : ∃ x, x = w.alloc (.cells (madeCells #[.int .u8 0] 512) 5) := ⟨_, rfl⟩
  have HXM : Hid (Ext w wm) := Lib.hid (by rw [hwm]; exact (Ext.refl w).alloc _)
  have HGM : Hid (wm.heap[w.heap.size]? = some (.cells Z.toArray 5 (0, 0))) := Lib.hid (by
    rw [hwm, heap_alloc_new, hZ, ← toList_madeCells_one])
  have HSR := Lib.hid ((HB.out.ext HXM.out).reads.2)
  have hl5 : (l.length : Int) ≤ 512 := by have := HL.out; omega
  have hmn : min l.length 512 = l.length := by have := HL.out; omega
  clear h hl hZ hC8
  go_enter Try.func50, Try.ntmps50
  go_upto_region 2 with fail
  rw [← hwm]
  clear hwm hmk
  go_wp2_with (refine wpList_copy_splice rfl (.tmp 6) (.tmp 7) 42 42 rfl 5 Try.underlying42 (by kernel_rfl) (some ⟨w.heap.size, 0, none⟩) A 512 512 l.length cap rfl rfl w.heap.size 0 Z 5 HGM.out C8 (by rw [HC8.out, by8_length]; exact hmn.symm) (fun h0 => ⟨rfl, by
      obtain ⟨ad, e, -, h1⟩ := HSR.out.2 (by rw [HC8.out, by8_length] at h0; exact h0)
      exact ⟨ad, e, fun j v hv => by rw [HC8.out] at hv; exact h1 j v hv⟩⟩) (by rw [HC8.out, HZ.out, by8_length, List.length_replicate]; have := HL.out; omega) (fun v hv => by rw [HC8.out] at hv; exact by8_one v hv) w.heap.size w HXM.out (Nat.le_refl _) ?_; intro w2 hg2 hb2)
  go_loopw [4] (fun i wr => ∃ (k : Nat) (x : Bs), i = .int .i64 k ∧ l.length ≤ k ∧ k ≤ 512 ∧ Hid (Ext w wr ∧ OB wr w.heap.size (.slice (some ⟨w.heap.size, 0, none⟩) 512 512) x ∧ x.length = 512 ∧ x.take k = (filled l).take k)) (fun i _ => 512 - (intOf i).toNat)
  case atStart =>
    refine ⟨l.length, l ++ List.replicate (512 - l.length) 0, by rw [HC8.out, by8_length], Nat.le_refl _, HL.out, Lib.hid ⟨hb2, ob_of_heap (Nat.le_refl _) hg2.out ?_ ?_ (by decide), ?_, ?_⟩⟩
    · rw [HC8.out, HZ.out]
      unfold splice
      rw [by8_append, List.take_zero, List.nil_append, by8_length, Nat.zero_add, List.drop_replicate]
      congr 1
      unfold by8
      rw [List.map_replicate]
      rfl
    · have := HL.out; simp; omega
    · have := HL.out; simp; omega
    · unfold filled
      rw [List.take_left' rfl, List.take_left' rfl]
  case round =>
    obtain ⟨k, x, rfl, hk1, hk2, hW⟩ := hrel
    by_cases hk : k < 512
    · have hki : (k : Int) < 512 := by omega
      obtain ⟨c, hc⟩ : ∃ c, wr.cell? ⟨w.heap.size, k, none⟩ = some c := by
        obtain ⟨g, o, e, h1⟩ := hW.out.2.1.bs.at k (by rw [hW.out.2.2.1]; exact hk)
        cases e
        rw [Nat.zero_add] at h1
        exact ⟨_, h1⟩
      have hf := hW.out.2.1.froz k
      have HX2 := Lib.hid (hW.out.1.setCell (p := ⟨w.heap.size, k, none⟩) (Nat.le_refl _) (.int .u8 255))
      have HO2 := Lib.hid (hW.out.2.1.set k 255)
      go_wp2_with fail
      exact ⟨⟨k + 1, x.set k 255, by go_num, by omega, by omega, Lib.hid ⟨HX2.out, HO2.out, by rw [List.length_set]; exact hW.out.2.2.1, by
        rw [List.take_add_one, List.take_add_one, List.take_set_of_le (Nat.le_refl _), hW.out.2.2.2, filled_get hk1 hk, List.getElem?_set_self (by rw [hW.out.2.2.1]; exact hk)]⟩⟩, by simp [intOf]; omega⟩
    · have hki : (512 : Int) ≤ (k : Int) := by omega
      obtain rfl : k = 512 := by omega
      go_wp2_with fail
      go_ret
      refine ⟨_, rfl, hW.out.1, ?_⟩
      have h1 := hW.out.2.2.2
      rw [List.take_of_length_le (by rw [hW.out.2.2.1]; exact Nat.le_refl _), List.take_of_length_le (by rw [filled_len HL.out]; exact Nat.le_refl _)] at h1
      rw [← h1]
      exact hW.out.2.1
/-! the least page that is not programmed -/
theorem nextfn_nil (w : World) : Calls Try.prog 68 #[.slice none 0 0] w fun e w' => e = .returned (.bool true) ∧ w = w' := by
  have hb : (binOp .eql 42 (.slice none 0 0) (.slice none 0 0)).run Try.prog w = .ok (.bool true) w := by kernel_rfl
  go_enter Try.func68, Try.ntmps68
  go_wp2_with fail
  go_ret
  exact ⟨rfl, rfl⟩
theorem nextfn_some (w : World) (ad : Addr) (n c : Nat) : Calls Try.prog 68 #[.slice (some ad) n c] w fun e w' => e = .returned (.bool false) ∧ w = w' := by
  have hb : (binOp .eql 42 (.slice (some ad) n c) (.slice none 0 0)).run Try.prog w = .ok (.bool false) w := by kernel_rfl
  go_enter Try.func68, Try.ntmps68
  go_wp2_with fail
  go_ret
  exact ⟨rfl, rfl⟩
theorem PgV.some_ {w : World} {v : Value} {x : Bs} (h : PgV w v (some x)) : ∃ g o c, v = .slice (some ⟨g, o, none⟩) 512 c ∧ 512 ≤ c := by
  obtain ⟨h1, h2⟩ := h
  rcases h1 with ⟨-, rfl⟩ | ⟨g, o, c, e, hc, -, -⟩
  · cases h2
  · rw [h2] at e hc
    exact ⟨g, o, c, e, hc⟩
theorem PgsAt.at_ {w : World} {p : Nat} {l : List (Option Bs)} (h : PgsAt w p l) {i : Nat} {x : Option Bs} (hx : l[i]? = some x) : ∃ v, w.cell? ⟨p, i, none⟩ = some v ∧ w.frozen? ⟨p, i, none⟩ = false ∧ PgV w v x := by
  obtain ⟨vs, h1, h2, h3⟩ := h
  have hi := (List.getElem?_eq_some_iff.1 hx).1
  obtain ⟨v, hv⟩ : ∃ v, vs[i]? = some v := ⟨_, List.getElem?_eq_getElem (by omega)⟩
  exact ⟨v, h1.cell hv, h1.frozen (by omega), h3 i v x hv hx⟩
theorem indexfn_any {w : World} {p cap : Nat} {l : List (Option Bs)} (h : PgsAt w p l) (hl : l.length ≤ 32) :
    Calls Try.prog 67 #[.slice (some ⟨p, 0, none⟩) l.length cap, .func (.func 68) #[] #[]] w fun e w' =>
      e = .returned (.int .i64 (if l.findIdx (fun p => p.isNone) < l.length then ((l.findIdx (fun p => p.isNone) : Nat) : Int) else (-1 : Int))) ∧ w = w' := by
  have HL := Lib.hid hl
  have H := Lib.hid h
  obtain ⟨n, hn⟩ : ∃ n, n = l.length := ⟨_, rfl⟩
  have HN := Lib.hid hn
  rw [← hn] at hl ⊢
  obtain ⟨q, hq⟩ : ∃ q : Int, q = (if l.findIdx (fun p => p.isNone) < n then ((l.findIdx (fun p => p.isNone) : Nat) : Int) else (-1 : Int)) := ⟨_, rfl⟩
  have HQ := Lib.hid hq
  rw [← hq]
  clear h hn hq
  go_enter Try.func67, Try.ntmps67
  go_wp2_with fail
  go_loopw [8] (fun i wr => ∃ k : Nat, i = .int .i64 k ∧ k ≤ n ∧ w = wr ∧ Hid (∀ j, j < k → ∃ x, l[j]? = some (some x))) (fun i _ => n - (intOf i).toNat)
  case atStart => exact ⟨0, rfl, by omega, rfl, Lib.hid (fun j hj => by omega)⟩
  case round =>
    obtain ⟨k, rfl, hk, rfl, hW⟩ := hrel
    by_cases hkn : k < n
    · have hki : (k : Int) < (n : Int) := by omega
      obtain ⟨x, hx⟩ : ∃ x, l[k]? = some x := ⟨_, List.getElem?_eq_getElem (by rw [← HN.out]; exact hkn)⟩
      obtain ⟨v, hv, -, hp⟩ := H.out.at_ hx
      have HX := Lib.hid hx
      clear hx
      cases x with
      | none =>
        obtain rfl : v = .slice none 0 0 := hp
        have hfi : l.findIdx (fun p => p.isNone) = k := by
          rw [List.findIdx_eq (by rw [← HN.out]; exact hkn)]
          refine ⟨?_, fun j hj => ?_⟩
          · have := (List.getElem?_eq_some_iff.1 HX.out).2
            simp [this]
          · obtain ⟨y, hy⟩ := hW.out j hj
            have := (List.getElem?_eq_some_iff.1 hy).2
            simp [this]
        have HF := Lib.hid hfi
        clear hfi
        go_wp2_with (go_at_call 68; refine (nextfn_nil _).mono ?_; rintro e w1 ⟨rfl, rfl⟩)
        go_ret
        exact ⟨by rw [HQ.out, HF.out, if_pos hkn]; rfl, rfl⟩
      | some x =>
        obtain ⟨g, o, c, rfl, -⟩ := hp.some_
        clear hp
        go_wp2_with (go_at_call 68; refine (nextfn_some _ _ _ _).mono ?_; rintro e w1 ⟨rfl, rfl⟩)
        exact ⟨⟨k + 1, by go_num, by omega, (by first | rfl | trivial), Lib.hid (fun j hj => by
          rcases Nat.lt_or_ge j k with h1 | h1
          · exact hW.out j h1
          · obtain rfl : j = k := by omega
            exact ⟨x, HX.out⟩)⟩, by simp [intOf]; omega⟩
    · have hki : (n : Int) ≤ (k : Int) := by omega
      obtain rfl : k = n := by omega
      go_wp2_with fail
      go_ret
      refine ⟨?_, rfl⟩
      have hfi : l.findIdx (fun p => p.isNone) = l.length := by
        rw [List.findIdx_eq_length]
        intro x hx
        obtain ⟨j, hj⟩ := List.getElem?_of_mem hx
        obtain ⟨y, hy⟩ := hW.out j (by rw [HN.out]; exact (List.getElem?_eq_some_iff.1 hj).1)
        rw [hj] at hy
        cases hy
        rfl
      rw [HQ.out, hfi, ← HN.out, if_neg (Nat.lt_irrefl _)]
      rfl
end Go.Proofs.Ytepigkjgjlibcaa
namespace Go.Proofs.Ytepigkjgjlibcaa
open Go.RowKit Go.Deep Go.Proofs.Ytepigkjgjlibcaa.FL
set_option maxRecDepth 100000
theorem nextF_le (b : Blk) : nextF b ≤ b.pages.length := List.findIdx_le_length
set_option maxHeartbeats 4000000 in
theorem next_any {w : World} {p cap : Nat} {b : Blk} (h : PgsAt w p b.pages) (hl : b.pages.length ≤ 32) (wn : Int) :
    Calls Try.prog 48 #[.agg #[.slice (some ⟨p, 0, none⟩) b.pages.length cap, .int .i64 wn]] w fun e w' => e = .returned (.int .i64 (nextF b)) ∧ Ext w w' := by
  have HX := Lib.hid ((Ext.refl w).alloc (.cells #[.slice (some ⟨p, 0, none⟩) b.pages.length cap, .int .i64 wn] 95))
  have HI := Lib.hid (indexfn_any (cap := cap) (h.mod (Mod.of_ext (fun _ => False) HX.out) (no8_false w) (fun h => h)) hl)
  have HN := Lib.hid (nextF_le b)
  unfold nextF at HN ⊢
  obtain ⟨q, hq⟩ : ∃ q, q = b.pages.findIdx (fun p => p.isNone) := ⟨_, rfl⟩
  rw [← hq] at HI HN ⊢
  obtain ⟨n, hn⟩ : ∃ n, n = b.pages.length := ⟨_, rfl⟩
  rw [← hn] at HI HN hl HX ⊢
  clear h hq hn
  by_cases hqn : q < n
  · rw [if_pos hqn] at HI
    go_enter Try.func48, Try.ntmps48
    go_wp2_with (go_at_call 67; refine HI.out.mono ?_; rintro e w1 ⟨rfl, rfl⟩)
    go_ret
    exact ⟨rfl, HX.out⟩
  · rw [if_neg hqn] at HI
    have HE : Hid (n = q) := Lib.hid (by have := HN.out; omega)
    go_enter Try.func48, Try.ntmps48
    go_wp2_with (go_at_call 67; refine HI.out.mono ?_; rintro e w1 ⟨rfl, rfl⟩)
    go_ret
    exact ⟨by rw [HE.out]; rfl, HX.out⟩
def pageOf (D : Dev) (i k : Nat) : Option Bs := (D.now[i]?).bind fun b => (b.pages[k]?).join
theorem devread_any {w : World} {S : Nat → Prop} {d : Nat} {G : DevF} {D : Dev} (h : DevAtF w S d G D) {i k : Nat} {b : Blk} {x : Option Bs} (hb : D.now[i]? = some b) (hx : b.pages[k]? = some x) :
    Calls Try.prog 70 #[.pointer (some ⟨d, 0, none⟩), .int .i64 i, .int .i64 k] w fun e w' => ∃ u, e = .returned (.tuple #[u, .nilIface]) ∧ Ext w w' ∧ OB w' w.heap.size u (filled (x.getD [])) := by
  have hi := (List.getElem?_eq_some_iff.1 hb).1
  obtain ⟨p, cap, -, e0, -, e2, e3, e4⟩ := h.now.cells hb
  have hk := (List.getElem?_eq_some_iff.1 hx).1
  have HP := Lib.hid (page_ok h i k (by omega) (by omega))
  have c1 := h.row.cell (j := 1) rfl
  obtain ⟨v, c2, -, hv⟩ := e2.at_ hx
  have HV : Hid (BS w v (x.getD []) ∧ (x.getD []).length ≤ 512) := Lib.hid (by
    cases x with
    | none => rw [show v = .slice none 0 0 from hv]; exact ⟨BS.nil w, by simp⟩
    | some y => exact ⟨hv.1, by have := hv.2; simp; omega⟩)
  obtain ⟨A, c, rfl, -, -⟩ := HV.out.1.slice
  have HF := Lib.hid (filled_any HV.out.1 HV.out.2)
  have hii : (i : Int) < (D.now.length : Int) := by omega
  have hki : (k : Int) < (D.npages : Int) := by omega
  clear h hb hx e2 hv
  go_enter Try.func70, Try.ntmps70
  go_wp2_with (first
    | (go_at_call 47; refine HP.out.mono ?_; rintro e w1 ⟨rfl, rfl⟩)
    | (go_at_call 50; refine HF.out.mono ?_; rintro e w2 ⟨u, rfl, hx2, ho2⟩))
  go_ret2
  exact ⟨_, rfl, hx2, ho2⟩
theorem devnext_any {w : World} {S : Nat → Prop} {d : Nat} {G : DevF} {D : Dev} (h : DevAtF w S d G D) {i : Nat} {b : Blk} (hb : D.now[i]? = some b) :
    Calls Try.prog 69 #[.pointer (some ⟨d, 0, none⟩), .int .i64 i] w fun e w' => e = .returned (.tuple #[.int .i64 (nextF b), .nilIface]) ∧ Ext w w' := by
  have hi := (List.getElem?_eq_some_iff.1 hb).1
  obtain ⟨p, cap, -, e0, e1, e2, e3, e4⟩ := h.now.cells hb
  have HP := Lib.hid (check_ok h i (by omega))
  have c1 := h.row.cell (j := 1) rfl
  have hn2 := h.np.2
  have HF := Lib.hid (next_any (cap := cap) e2 (by omega) b.worn)
  rw [e3] at HF
  have hii : (i : Int) < (D.now.length : Int) := by omega
  clear h hb e2 hn2 e3
  go_enter Try.func69, Try.ntmps69
  go_wp2_with (first
    | (go_at_call 54; refine HP.out.mono ?_; rintro e w1 ⟨rfl, rfl⟩)
    | (go_at_call 48; refine HF.out.mono ?_; rintro e w2 ⟨rfl, hx2⟩))
  go_ret2
  exact ⟨rfl, hx2⟩
theorem worn_any {w : World} {S : Nat → Prop} {d : Nat} {G : DevF} {D : Dev} (h : DevAtF w S d G D) {i : Nat} {b : Blk} (hb : D.now[i]? = some b) :
    Calls Try.prog 75 #[.pointer (some ⟨d, 0, none⟩), .int .i64 i] w fun e w' => e = .returned (.tuple #[.int .i64 b.worn, .nilIface]) ∧ w = w' := by
  have hi := (List.getElem?_eq_some_iff.1 hb).1
  obtain ⟨p, cap, -, e0, e1, e2, e3, e4⟩ := h.now.cells hb
  have HP := Lib.hid (check_ok h i (by omega))
  have c1 := h.row.cell (j := 1) rfl
  have hii : (i : Int) < (D.now.length : Int) := by omega
  clear h hb e2 e3
  go_enter Try.func75, Try.ntmps75
  go_wp2_with (go_at_call 54; refine HP.out.mono ?_; rintro e w1 ⟨rfl, rfl⟩)
  go_ret2
  exact ⟨rfl, rfl⟩
end Go.Proofs.Ytepigkjgjlibcaa
namespace Go.Proofs.Ytepigkjgjlibcaa
open Go.RowKit Go.Deep Go.Proofs.Ytepigkjgjlibcaa.FL
set_option maxRecDepth 100000
def codeV (c : Nat) : Value := if c = 0 then .nilIface else errV c
theorem codeV_zero : codeV 0 = .nilIface := rfl
theorem codeV_pos {c : Nat} (h : c ≠ 0) : codeV c = errV c := by unfold codeV; rw [if_neg h]
theorem OpsAt.blk {w : World} {v : Value} {l : List FL.Oper} (h : OpsAt w v l) {x : Nat} (hx : v.ownBlock = some x) : ∃ C, w.heap[x]? = some (.cells C 103 (0, 0)) := by
  obtain ⟨rows, -, h2, -⟩ := h
  rcases h2.2 with ⟨e2, -⟩ | ⟨g, cap, cur, e2, -, hg, -⟩
  · rw [e2] at hx; cases hx
  · rw [e2] at hx; cases hx; exact ⟨_, hg⟩
theorem OpsAt.ne {w : World} {v : Value} {l : List FL.Oper} (h : OpsAt w v l) {x : Nat} (hx : v.ownBlock = some x) {g : Nat} {T : TypeId} {xs : List Value} (hr : RowB w g T xs) (hT : 103 ≠ T) : x ≠ g := by
  rintro rfl
  obtain ⟨C, h1⟩ := h.blk hx
  obtain ⟨C', fr, rest, h2, -⟩ := hr
  rw [h1] at h2
  cases h2
  exact hT rfl
theorem OpsAt.no8 {w : World} {v : Value} {l : List FL.Oper} (h : OpsAt w v l) : No8 w (fun x => v.ownBlock = some x) := by
  intro g C fr hg hx
  obtain ⟨C', h1⟩ := h.blk hx
  rw [hg] at h1
  simp at h1
theorem BlksAt.prow {w : World} {g : Nat} {ps : List (Nat × Nat)} {np : Nat} {bs : List Blk} (h : BlksAt w g ps np bs) {p : Nat × Nat} (hp : p ∈ ps) : ∃ vs, RowB w p.1 42 vs := by
  obtain ⟨i, hi⟩ := List.getElem?_of_mem hp
  obtain ⟨vs, h1, -⟩ := (h.pgs i p _ hi (List.getElem?_eq_getElem (by have := (List.getElem?_eq_some_iff.1 hi).1; rw [h.len] at this; exact this))).1
  exact ⟨vs, h1⟩
/-- one more pending operation -/
theorem DevAtF.pushed {w w' : World} {S : Nat → Prop} {d : Nat} {G : DevF} {D : Dev} (h : DevAtF w S d G D) {v' : Value} {o : FL.Oper} (hm : Mod (fun x => G.pv.ownBlock = some x) w w')
    (ho : OpsAt w' v' (D.pending ++ [o])) (hob : o.block < D.now.length ∧ o.page < D.npages) :
    DevAtF (w'.setCell ⟨d, 2, none⟩ v') (fun x => (S x ∧ G.pv.ownBlock ≠ some x) ∨ v'.ownBlock = some x) d { G with pv := v' } { D with pending := D.pending ++ [o] } ∧ Mod S w (w'.setCell ⟨d, 2, none⟩ v') := by
  have hrow : RowB w' d 99 _ := hm.rowB h.row (fun e => h.pend.ne e h.row (by decide) rfl)
  have hrow2 := hrow.set 2 v' (by simp)
  have hmd : Mod (fun x => x = d) w' (w'.setCell ⟨d, 2, none⟩ v') := mod_set w' d 2 v'
  have h8 : No8 w' (fun x => x = d) := no8_row hrow (by decide)
  have hma : Mod (fun x => x = d ∨ G.pv.ownBlock = some x) w (w'.setCell ⟨d, 2, none⟩ v') := (hm.mono (fun _ _ h => .inr h)).then hmd (fun i hi => .inl (.inl hi))
  have h8a : No8 w (fun x => x = d ∨ G.pv.ownBlock = some x) := fun g C fr hg hx => hx.elim (fun e => no8_row h.row (by decide) g C fr hg e) (fun e => h.pend.no8 g C fr hg e)
  have hnr : ∀ {g : Nat} {T : TypeId} {xs : List Value}, RowB w g T xs → 103 ≠ T → 99 ≠ T → ¬ (g = d ∨ G.pv.ownBlock = some g) := fun hr h1 h2 hx => hx.elim (fun e => (h.row.apart hr h2) e.symm) (fun e => h.pend.ne e hr h1 rfl)
  refine ⟨{ row := hrow2, dur := ?_, now := ?_, pend := ?_, nodup := h.nodup, gne := h.gne, inS := ?_, ty := ?_, lens := h.lens, nb := h.nb, np := h.np, left := h.left, ops := ?_ }, ?_⟩
  · exact h.dur.mod hma h8a (hnr h.dur.row (by decide) (by decide)) (fun p hp => by obtain ⟨vs, hvs⟩ := h.dur.prow hp; exact hnr hvs (by decide) (by decide))
  · exact h.now.mod hma h8a (hnr h.now.row (by decide) (by decide)) (fun p hp => by obtain ⟨vs, hvs⟩ := h.now.prow hp; exact hnr hvs (by decide) (by decide))
  · exact ho.mod hmd h8 (fun x hx e => ho.ne hx hrow (by decide) e)
  · have hn : ∀ {g : Nat} {T : TypeId} {xs : List Value}, RowB w g T xs → 103 ≠ T → G.pv.ownBlock ≠ some g := fun hr hT e => h.pend.ne e hr hT rfl
    refine ⟨.inl ⟨h.inS.1, hn h.row (by decide)⟩, .inl ⟨h.inS.2.1, hn h.dur.row (by decide)⟩, .inl ⟨h.inS.2.2.1, hn h.now.row (by decide)⟩, fun p hp => ?_, fun x hx => .inr hx⟩
    have hp2 := h.inS.2.2.2.1 p hp
    rcases List.mem_append.1 hp with hp | hp
    · obtain ⟨vs, hvs⟩ := h.now.prow hp
      exact .inl ⟨hp2, hn hvs (by decide)⟩
    · obtain ⟨vs, hvs⟩ := h.dur.prow hp
      exact .inl ⟨hp2, hn hvs (by decide)⟩
  · intro x hx
    have key : ∀ y, v'.ownBlock = some y → ∃ C T fr, (w'.setCell ⟨d, 2, none⟩ v').heap[y]? = some (.cells C T fr) ∧ T ∈ devTys := fun y hy => by
      obtain ⟨C, h1⟩ := ho.blk hy
      exact ⟨C, _, _, (hmd.block y (Array.getElem?_eq_some_iff.1 h1).1 (fun e => ho.ne hy hrow (by decide) e)).trans h1, by decide⟩
    rcases hx with ⟨hx, hxp⟩ | hx
    · by_cases hxd : x = d
      · subst hxd; exact row_typed hrow2 (by decide)
      · obtain ⟨C, T, fr, h1, h2⟩ := h.ty x hx
        exact ⟨C, T, fr, (hma.block x (Typed.lt h.ty hx) (fun e => e.elim hxd hxp)).trans h1, h2⟩
    · exact key x hx
  · intro q hq
    rcases List.mem_append.1 hq with hq | hq
    · exact h.ops q hq
    · rw [List.mem_singleton] at hq; subst hq; exact hob
  · exact hma.mono (fun x _ hx => hx.elim (fun e => e ▸ h.inS.1) (fun e => h.inS.2.2.2.2 x e))
theorem nodup_ne {l : List (Nat × Nat)} (h : (l.map (·.1)).Nodup) {i j : Nat} {p q : Nat × Nat} (hi : l[i]? = some p) (hj : l[j]? = some q) (hn : i ≠ j) : p.1 ≠ q.1 := by
  intro e
  have h1 : (l.map (·.1))[i]? = some p.1 := by rw [List.getElem?_map, hi]; rfl
  have h2 : (l.map (·.1))[j]? = some q.1 := by rw [List.getElem?_map, hj]; rfl
  rw [← e] at h2
  have l1 := (List.getElem?_eq_some_iff.1 h1).1
  exact hn ((List.getElem?_inj l1 h).1 (h1.trans h2.symm))
/-- a page is laid into the pages of a block -/
theorem BlksAt.put {w : World} {g : Nat} {ps : List (Nat × Nat)} {np : Nat} {bs : List Blk} (h : BlksAt w g ps np bs) (hnd : (ps.map (·.1)).Nodup) {i k : Nat} {b : Blk} {p cap : Nat} (hk : k < np) (hb : bs[i]? = some b) (hp : ps[i]? = some (p, cap)) {u : Value} {x : Option Bs} (hu : PgV w u x) :
    BlksAt (w.setCell ⟨p, k, none⟩ u) g ps np (bs.set i (setPage b k x)) := by
  obtain ⟨⟨vs, hv1, hv2, hv3⟩, hbn, hbc⟩ := h.pgs i _ _ hp hb
  have hm : Mod (fun y => y = p) w (w.setCell ⟨p, k, none⟩ u) := mod_set w p k u
  have h8 : No8 w (fun y => y = p) := no8_row hv1 (by decide)
  refine ⟨?_, by rw [h.len]; simp, fun j q c hq hc => ?_⟩
  · have e : (ps.zip (bs.set i (setPage b k x))).flatMap blkCells = (ps.zip bs).flatMap blkCells := by
      clear hm h8 hv1 hv2 hv3 hu hnd hbn hbc
      have hl := h.len
      clear h
      induction ps generalizing bs i with
      | nil => simp at hp
      | cons q r ih =>
        cases bs with
        | nil => simp at hb
        | cons c s =>
          cases i with
          | zero =>
            simp only [List.getElem?_cons_zero, Option.some.injEq] at hb hp
            subst hb
            simp [blkCells, setPage]
          | succ i =>
            simp only [List.getElem?_cons_succ] at hb hp
            simp only [List.set_cons_succ, List.zip_cons_cons, List.flatMap_cons]
            rw [ih hb hp (by simpa using hl)]
    rw [e]
    exact hm.rowB h.row (hv1.apart h.row (by decide)).symm
  · by_cases hji : j = i
    · subst hji
      rw [hp] at hq
      cases hq
      rw [List.getElem?_set_self (List.getElem?_eq_some_iff.1 hb).1] at hc
      cases hc
      refine ⟨?_, by simp [setPage, hbn], hbc⟩
      have hk : k < vs.length := by rw [hv2, hbn]; exact hk
      · refine ⟨vs.set k u, hv1.set k u hk, by simp [setPage, hv2], fun a v y hv hy => ?_⟩
        by_cases hak : a = k
        · subst hak
          rw [List.getElem?_set_self hk] at hv
          unfold setPage at hy
          rw [List.getElem?_set_self (by rw [← hv2]; exact hk)] at hy
          cases hv
          cases hy
          exact hu.mod hm h8
        · rw [List.getElem?_set_ne (Ne.symm hak)] at hv
          unfold setPage at hy
          rw [List.getElem?_set_ne (Ne.symm hak)] at hy
          exact (hv3 a v y hv hy).mod hm h8
    · rw [List.getElem?_set_ne (Ne.symm hji)] at hc
      obtain ⟨a1, a2⟩ := h.pgs j q c hq hc
      exact ⟨a1.mod hm h8 (nodup_ne hnd hq hp hji), a2⟩
theorem npages_set {D : Dev} {i : Nat} {b c : Blk} (hb : D.now[i]? = some b) (hc : c.pages.length = b.pages.length) : ({ D with now := D.now.set i c } : Dev).npages = D.npages := by
  obtain ⟨du, no, pe, off, pl, lf⟩ := D
  simp only at hb
  cases no with
  | nil => simp at hb
  | cons x r =>
    cases i with
    | zero =>
      simp only [List.getElem?_cons_zero, Option.some.injEq] at hb
      subst hb
      exact hc
    | succ i => rfl
theorem DevAtF.put {w : World} {S : Nat → Prop} {d : Nat} {G : DevF} {D : Dev} (h : DevAtF w S d G D) {i k : Nat} {b : Blk} {p cap : Nat} {u : Value} {x : Option Bs} (hb : D.now[i]? = some b) (hp : G.pn[i]? = some (p, cap)) (hk : k < D.npages) (hu : PgV w u x) :
    DevAtF (w.setCell ⟨p, k, none⟩ u) S d G { D with now := D.now.set i (setPage b k x) } ∧ Mod (fun y => y = p) w (w.setCell ⟨p, k, none⟩ u) := by
  have hpm := List.mem_of_getElem? hp
  obtain ⟨vs, hv⟩ := h.now.prow hpm
  have hm : Mod (fun y => y = p) w (w.setCell ⟨p, k, none⟩ u) := mod_set w p k u
  have h8 : No8 w (fun y => y = p) := no8_row hv (by decide)
  have hnp := npages_set (D := D) (c := setPage b k x) hb (by simp [setPage])
  have hnd := h.nodup
  rw [List.map_append, List.nodup_append] at hnd
  have hSp := h.inS.2.2.2.1 _ (List.mem_append_left _ hpm)
  refine ⟨{ row := ?_, dur := ?_, now := ?_, pend := ?_, nodup := h.nodup, gne := h.gne, inS := h.inS, ty := ?_, lens := by rw [List.length_set]; exact h.lens, nb := by rw [List.length_set]; exact h.nb, np := by rw [hnp]; exact h.np, left := h.left, ops := ?_ }, hm⟩
  · have h1 := hm.rowB h.row (hv.apart h.row (by decide)).symm
    simpa using h1
  · rw [hnp]
    exact h.dur.mod hm h8 (hv.apart h.dur.row (by decide)).symm (fun q hq e => hnd.2.2 p (List.mem_map_of_mem hpm) q.1 (List.mem_map_of_mem hq) e.symm)
  · rw [hnp]
    exact h.now.put hnd.1 hk hb hp hu
  · exact h.pend.mod hm h8 (fun y hy e => h.pend.ne hy hv (by decide) e)
  · intro y hy
    obtain ⟨C, T, fr, h1, h2⟩ := h.ty y hy
    by_cases hyp : y = p
    · subst hyp
      obtain ⟨vs', hv', -⟩ := (h.now.put hnd.1 hk hb hp hu).pgs i _ _ hp (List.getElem?_set_self (List.getElem?_eq_some_iff.1 hb).1) |>.1
      exact row_typed hv' (by decide)
    · exact ⟨C, T, fr, (hm.block y (Typed.lt h.ty hy) hyp).trans h1, h2⟩
  · intro o ho
    rw [hnp]
    simp only [List.length_set]
    exact h.ops o ho
/-- the operations' rows, one more -/
theorem OpsAt.push {w w' : World} {v v' : Value} {l : List FL.Oper} {rows : List (List Value)} (h1 : rows.length = l.length) (h3 : ∀ (i : Nat) (r : List Value) (o : FL.Oper), rows[i]? = some r → l[i]? = some o → operCells w o r)
    (hm : Mod (fun x => v.ownBlock = some x) w w') (h8 : No8 w (fun x => v.ownBlock = some x)) {o : FL.Oper} {u : Value} (hu : PgV w u o.data) (hown : w'.ownsRow 0 103 3 v' (rows.length + 1) (rows.flatten ++ [.int .i64 o.block, .int .i64 o.page, u])) : OpsAt w' v' (l ++ [o]) := by
  refine ⟨rows ++ [[.int .i64 o.block, .int .i64 o.page, u]], by simp [h1], by simpa using hown, fun i r q hr hq => ?_⟩
  by_cases hi : i < rows.length
  · rw [List.getElem?_append_left hi] at hr
    rw [List.getElem?_append_left (by omega)] at hq
    exact (h3 i r q hr hq).imp fun v hv => ⟨hv.1, hv.2.mod hm h8⟩
  · rw [List.getElem?_append_right (by omega)] at hr
    rw [List.getElem?_append_right (by omega)] at hq
    rw [h1] at hr
    cases hz : i - l.length with
    | zero =>
      rw [hz] at hr hq
      cases hr
      cases hq
      exact ⟨u, rfl, hu.mod hm h8⟩
    | succ z =>
      rw [hz] at hr
      simp at hr
end Go.Proofs.Ytepigkjgjlibcaa
namespace Go.Proofs.Ytepigkjgjlibcaa
open Go.RowKit Go.Deep Go.Proofs.Ytepigkjgjlibcaa.FL
set_option maxRecDepth 100000
section
variable {D : Dev} {i k : Nat} {b : Blk} {l : Bs}
theorem programD_big (hb : D.now[i]? = some b) (hk : D.npages ≤ k) : programD D i k l = (1, D) := by
  have hi := (List.getElem?_eq_some_iff.1 hb).1
  unfold programD
  rw [if_neg (by omega), if_pos (by omega)]
theorem programD_state (hb : D.now[i]? = some b) (hk : k < D.npages) (hl : l.length ≤ 512) (hn : nextF b ≠ k) : programD D i k l = (6, D) := by
  have hi := (List.getElem?_eq_some_iff.1 hb).1
  unfold programD
  rw [if_neg (by omega), if_neg (by omega), if_neg (by omega)]
  simp only [Int.toNat_natCast, hb]
  rw [if_pos (by omega)]
theorem powerF_same : (powerF D).2.now = D.now ∧ (powerF D).2.pending = D.pending ∧ (powerF D).2.durable = D.durable ∧ (powerF D).2.npages = D.npages := by
  unfold powerF
  simp only
  split <;> split <;> (try split) <;> exact ⟨rfl, rfl, rfl, rfl⟩
theorem setB_at {bs : List Blk} {f : Blk → Blk} (hb : bs[i]? = some b) : setB bs i f = bs.set i (f b) := by
  unfold setB
  rw [hb]
theorem programD_down (hb : D.now[i]? = some b) (hk : k < D.npages) (hl : l.length ≤ 512) (hn : nextF b = k) (hp : (powerF D).1 = false) : programD D i k l = (11, (powerF D).2) := by
  have hi := (List.getElem?_eq_some_iff.1 hb).1
  unfold programD
  rw [if_neg (by omega), if_neg (by omega), if_neg (by omega)]
  simp only [Int.toNat_natCast, hb]
  rw [if_neg (by omega)]
  rcases h : powerF D with ⟨x, d1⟩
  rw [h] at hp
  simp only at hp
  subst hp
  rfl
theorem programD_ok (hb : D.now[i]? = some b) (hk : k < D.npages) (hl : l.length ≤ 512) (hn : nextF b = k) (hp : (powerF D).1 = true) :
    programD D i k l = (0, { (powerF D).2 with now := (powerF D).2.now.set i (setPage b k (some (filled l))), pending := (powerF D).2.pending ++ [⟨i, k, some (filled l)⟩] }) := by
  have hi := (List.getElem?_eq_some_iff.1 hb).1
  unfold programD
  rw [if_neg (by omega), if_neg (by omega), if_neg (by omega)]
  simp only [Int.toNat_natCast, hb]
  rw [if_neg (by omega)]
  have hs := (powerF_same (D := D)).1
  rcases h : powerF D with ⟨x, d1⟩
  rw [h] at hp hs
  simp only at hp hs
  subst hp
  simp only
  rw [setB_at (by rw [hs]; exact hb)]
end
/-- the device behind a call that began in w: its blocks are those of S or new -/
def DevStep (w w' : World) (S : Nat → Prop) (d : Nat) (D : Dev) : Prop := ∃ S' G', DevAtF w' S' d G' D ∧ Mod S w w' ∧ ∀ x, S' x → S x ∨ w.heap.size ≤ x
theorem reads_laid (w : World) (T : TypeId) (xs : List Value) (k n : Nat) (h : xs.length = n * k) : Reads (w.alloc (.cells xs.toArray T)) (w.heap.size + 1) k (some ⟨w.heap.size, 0, none⟩) n xs := by
  refine ⟨h, fun _ => ⟨_, rfl, by simp, fun j u hj => ?_⟩⟩
  rw [show (⟨w.heap.size, 0, none⟩ : Addr).add j = ⟨w.heap.size, j, none⟩ by unfold Addr.add; split <;> simp_all]
  exact (row_laid w T xs).cell hj
theorem grown_mod {w w' : World} {o : Option Nat} (h : w.grownBy w' o) : Mod (fun x => o = some x) w w' := ⟨h.os, h.tape, h.output, h.size, fun k hk hn => h.block k hk (fun e => hn e.symm)⟩
theorem own_slice {w : World} {B : Nat} {e : TypeId} {k n : Nat} {v : Value} {xs : List Value} (h : w.ownsRow B e k v n xs) : ∃ A c, v = .slice A n c := by
  rcases h.2 with ⟨e2, e3⟩ | ⟨g, cap, cur, e2, -⟩
  · exact ⟨none, 0, by rw [e2, e3]⟩
  · exact ⟨_, _, e2⟩
theorem OpsAt.own_lt {w : World} {v : Value} {l : List FL.Oper} (h : OpsAt w v l) {x : Nat} (hx : v.ownBlock = some x) : x < w.heap.size := by
  obtain ⟨C, h1⟩ := h.blk hx
  exact (Array.getElem?_eq_some_iff.1 h1).1
theorem oper_info23 : (Try.prog.info? 103).map (fun i => (i.zero, i.size, i.bytes)) = some (some (.agg #[.int .i64 0, .int .i64 0, .slice none 0 0]), 3, 40) := by kernel_rfl
set_option maxHeartbeats 4000000 in
theorem devprog_any {w : World} {S : Nat → Prop} {d : Nat} {G : DevF} {D : Dev} (h : DevAtF w S d G D) {i k : Nat} {b : Blk} (hb : D.now[i]? = some b) {v : Value} {l : Bs} (hd : BS w v l) (hl : l.length ≤ 512) (hpl : D.pending.length ≤ 1000000) (hkl : k ≤ 1000000) :
    Calls Try.prog 21 #[.pointer (some ⟨d, 0, none⟩), .int .i64 i, .int .i64 k, v] w fun e w' => e = .returned (codeV (programD D i k l).1) ∧ DevStep w w' S d (programD D i k l).2 := by
  have hi := (List.getElem?_eq_some_iff.1 hb).1
  have hii : (i : Int) < (D.now.length : Int) := by omega
  obtain ⟨A, cap, rfl, hcap, -⟩ := hd.slice
  have H := Lib.hid h
  have HD := Lib.hid hd
  have HL := Lib.hid hl
  have HB := Lib.hid hb
  have hll : (l.length : Int) ≤ 512 := by omega
  obtain ⟨p, pc, hpn, e0, e1, e2, e3, e4⟩ := h.now.cells hb
  have HPN := Lib.hid hpn
  have c1 := h.row.cell (j := 1) rfl
  have HNX := Lib.hid (next_any (cap := pc) e2 (by have := h.np.2; omega) b.worn)
  rw [e3] at HNX
  by_cases hk : D.npages ≤ k
  · have HP := Lib.hid (page_big h i k (by omega) (by omega))
    have HE := Lib.hid (programD_big (l := l) hb hk)
    clear h hb hd hl hcap e2 e3 hk hpn
    go_enter Try.func21, Try.ntmps21
    go_wp2_with (go_at_call 47; refine HP.out.mono ?_; rintro e w1 ⟨rfl, rfl⟩)
    go_ret
    rw [HE.out]
    exact ⟨rfl, S, G, H.out, Mod.refl _ _, fun x hx => .inl hx⟩
  · have hkk : k < D.npages := by omega
    have HP := Lib.hid (page_ok h i k (by omega) (by omega))
    by_cases hn : nextF b = k
    · have HE0 := Lib.hid (programD_down (l := l) hb hkk hl hn)
      have HE1 := Lib.hid (programD_ok (l := l) hb hkk hl hn)
      have hnq : ((nextF b : Int) != (k : Int)) = false := by rw [hn]; simp
      clear h hb hd hl hcap e2 e3 hk hn hpn
      cases hpw : (powerF D).1 with
      | false =>
        have HPW := Lib.hid hpw
        clear hpw
        go_enter Try.func21, Try.ntmps21
        go_wp2_with (first
          | (go_at_call 49; refine (power_any (H.out.ext hx1)).mono ?_; rintro e w2 ⟨rfl, hd2, hm2⟩; rw [HPW.out])
          | (go_at_call 47; refine HP.out.mono ?_; rintro e w1 ⟨rfl, rfl⟩)
          | (go_at_call 48; refine HNX.out.mono ?_; rintro e w1 ⟨rfl, hx1⟩))
        go_ret
        rw [HE0.out HPW.out]
        exact ⟨rfl, S, G, hd2, (Mod.of_ext _ hx1).then hm2 (fun x hx => .inl (by rw [hx]; exact H.out.inS.1)), fun x hx => .inl hx⟩
      | true =>
        have HPW := Lib.hid hpw
        clear hpw
        go_enter Try.func21, Try.ntmps21
        go_upto_region 11 with (first
          | (go_at_call 50; refine (filled_any ((HD.out.ext hx1).mod hm2 ((H.out.ext hx1).no8d)) HL.out).mono ?_; rintro e w3 ⟨u, rfl, hx3, ho3⟩)
          | (go_at_call 49; refine (power_any (H.out.ext hx1)).mono ?_; rintro e w2 ⟨rfl, hd2, hm2⟩; rw [HPW.out])
          | (go_at_call 47; refine HP.out.mono ?_; rintro e w1 ⟨rfl, rfl⟩)
          | (go_at_call 48; refine HNX.out.mono ?_; rintro e w1 ⟨rfl, hx1⟩))
        have HX1 := Lib.hid hx1
        have HM2 := Lib.hid hm2
        have HX3 := Lib.hid hx3
        have HD3 := Lib.hid (hd2.ext hx3)
        obtain ⟨A3, n3, rfl, -, -⟩ := ho3.bs.slice
        have HO3 := Lib.hid ho3.bs
        clear hx1 hm2 hx3 hd2 ho3
        have HS := Lib.hid (powerF_same (D := D))
        obtain ⟨D1, hD1⟩ : ∃ D1, D1 = (powerF D).2 := ⟨_, rfl⟩
        rw [← hD1] at HD3 HS HE1
        have HB1 : Hid (D1.now[i]? = some b) := Lib.hid (by rw [HS.out.1]; exact HB.out)
        have HU : Hid (PgV w3 (.slice A3 (filled l).length n3) (some (filled l))) := Lib.hid ⟨HO3.out, filled_len HL.out⟩
        have HPUT := Lib.hid (HD3.out.put (k := k) HB1.out HPN.out (by rw [HS.out.2.2.2]; exact hkk) HU.out)
        have d1 := HD3.out.row.cell (j := 1) rfl
        rw [HS.out.1] at d1
        obtain ⟨p', pc', hp', d2, -, -, -, -⟩ := HD3.out.now.cells HB1.out
        rw [HPN.out] at hp'
        cases hp'
        rw [HS.out.2.2.2] at d2
        obtain ⟨vs, hvs1, hvs2, -⟩ := (HD3.out.now.pgs i _ _ HPN.out HB1.out).1
        have hkv : k < vs.length := by rw [hvs2]; have := (HD3.out.now.pgs i _ _ HPN.out HB1.out).2.1; rw [HS.out.2.2.2] at this; omega
        obtain ⟨v0, hv0⟩ : ∃ v0, vs[k]? = some v0 := ⟨_, List.getElem?_eq_getElem hkv⟩
        have HVS := Lib.hid hvs1
        have s1 := hvs1.cell hv0
        have s2 := hvs1.frozen hkv
        have hkki : (k : Int) < (D.npages : Int) := by omega
        clear hvs1 hvs2 hkv hv0 hD1
        go_upto_region 12 with fail
        obtain ⟨w4, hw4⟩ : ∃ x, x = w3.setCell ⟨p, k, none⟩ (.slice A3 (filled l).length n3) := ⟨_, rfl⟩
        rw [← hw4] at HPUT
        rw [← hw4]
        have HD4 := Lib.hid HPUT.out.1
        have HM4 := Lib.hid HPUT.out.2
        have HD5 := Lib.hid (HD4.out.ext ((Ext.refl w4).alloc (.cells #[.int .i64 i, .int .i64 k, .slice A3 (filled l).length n3] 103)))
        have hpend := HD5.out.pend
        obtain ⟨rows, hr1, hr2, hr3⟩ := hpend
        have HR1 := Lib.hid hr1
        have HR2 := Lib.hid hr2
        have HR3 := Lib.hid hr3
        have HRL := Lib.hid (show rows.length ≤ 1000000 by rw [hr1]; rw [show ({ D1 with now := D1.now.set i (setPage b k (some (filled l))) } : Dev).pending = D1.pending from rfl, HS.out.2.1]; exact hpl)
        have HRD := Lib.hid (reads_laid w4 103 [.int .i64 i, .int .i64 k, .slice A3 (filled l).length n3] 3 1 rfl)
        obtain ⟨i0, hi0, hz0, hz1, hz2⟩ := info_parts oper_info23
        have c2 := HD4.out.row.cell (j := 2) rfl
        clear hw4 HPUT hr1 hr2 hr3 s1 s2 d1 d2
        go_wp2_with (at_builtin; refine wpList_append_any _ rfl (.tmp 57) (.tmp 62) 97 rfl 0 103 i0 _ 3 40 Try.underlying97 hi0 hz0 hz1 hz2 rfl (by decide) G.pv rows.length rows.flatten rfl HR2.out _ (some ⟨w4.heap.size, 0, none⟩) 1 1 _ rfl HRD.out (by simp [Value.oneCell']) (by have := HRL.out; simp only [maxLen]; omega) (by have := HRL.out; omega) (Nat.zero_le _) ?_; intro v6 w6 ho6 hg6 hb6; obtain ⟨A6, c6, rfl⟩ := own_slice ho6; have hrw6 := (grown_mod hg6).rowB HD5.out.row (fun e => HD5.out.pend.ne e HD5.out.row (by decide) rfl); have u1 := hrw6.cell (j := 2) rfl; have u2 := hrw6.frozen (j := 2) (by simp))
        have HOP := Lib.hid (OpsAt.push (o := ⟨i, k, some (filled l)⟩) HR1.out HR3.out (grown_mod hg6) HD5.out.pend.no8 (HU.out.mod (HM4.out.ext' ((Ext.refl w4).alloc _)) (no8_row HVS.out (by decide))) ho6)
        obtain ⟨hd7, hm7⟩ := HD5.out.pushed (grown_mod hg6) HOP.out ⟨by simp only [List.length_set]; rw [HS.out.1]; exact hi, by rw [npages_set HB1.out (by simp [setPage]), HS.out.2.2.2]; exact hkk⟩
        go_ret
        rw [HE1.out HPW.out]
        have hm4 : Mod S w (w4.alloc (.cells #[.int .i64 i, .int .i64 k, .slice A3 (filled l).length n3] 103)) := by
          refine (((Mod.of_ext S HX1.out).then HM2.out (fun x hx => .inl (by rw [hx]; exact H.out.inS.1))).ext' HX3.out |>.then HM4.out (fun x hx => .inl (by rw [hx]; exact H.out.inS.2.2.2.1 _ (List.mem_append_left _ (List.mem_of_getElem? HPN.out))))).alloc _
        refine ⟨rfl, _, _, hd7, hm4.then hm7 (fun x hx => .inl hx), fun x hx => ?_⟩
        rcases hx with hx | hx
        · exact .inl hx.1
        · rcases hb6 with e | e
          · exact .inl (H.out.inS.2.2.2.2 x (e ▸ hx))
          · right
            have e2 : some (w4.alloc (.cells #[.int .i64 i, .int .i64 k, .slice A3 (filled l).length n3] 103)).heap.size = some x := by rw [← e]; exact hx
            have := hm4.size
            cases e2
            exact this
    · have HE := Lib.hid (programD_state (l := l) hb hkk hl hn)
      have hnq : ((nextF b : Int) != (k : Int)) = true := by rw [bne_iff_ne]; omega
      clear h hb hd hl hcap e2 e3 hk hn hpn
      go_enter Try.func21, Try.ntmps21
      go_wp2_with (first
        | (go_at_call 47; refine HP.out.mono ?_; rintro e w1 ⟨rfl, rfl⟩)
        | (go_at_call 48; refine HNX.out.mono ?_; rintro e w1 ⟨rfl, hx1⟩))
      go_ret
      rw [HE.out]
      exact ⟨rfl, S, G, H.out.ext hx1, Mod.of_ext _ hx1, fun x hx => .inl hx⟩
end Go.Proofs.Ytepigkjgjlibcaa
