/- Chapter 23: package flashlog: the pages of a block as rows in memory; lists of entries. The built-ins max and min of two integers inside a region that draws its order. -/
import Derived.Test.YtepigkjgjlibcaaGAG
import Derived.Test.YtepigkjgjlibcaaGAA
import Derived.Lib.MinMax
namespace Go.Proofs.Ytepigkjgjlibcaa
open Go.RowKit Go.Deep Go.Proofs.Ytepigkjgjlibcaa.FL
set_option maxRecDepth 100000
theorem flat_set6 {α β : Type} (f : α → List β) (hk : ∀ x, (f x).length = 6) (l : List α) (i : Nat) (y : α) (hi : i < l.length) (a0 a1 a2 a3 a4 a5 : β) (hy : f y = [a0, a1, a2, a3, a4, a5]) :
    ((((((l.flatMap f).set (i * 6) a0).set (i * 6 + 1) a1).set (i * 6 + 2) a2).set (i * 6 + 3) a3).set (i * 6 + 4) a4).set (i * 6 + 5) a5 = (l.set i y).flatMap f := by
  induction l generalizing i with
  | nil => simp at hi
  | cons z r ih =>
    cases i with
    | zero =>
      rw [List.flatMap_cons, List.set_cons_zero, List.flatMap_cons, hy]
      match f z, hk z with
      | [b0, b1, b2, b3, b4, b5], _ => rfl
    | succ i =>
      rw [List.flatMap_cons, List.set_cons_succ, List.flatMap_cons, ← ih i (by simpa using hi)]
      have e : ∀ (L : List β) (j : Nat) (v : β), (f z ++ L).set ((i + 1) * 6 + j) v = f z ++ L.set (i * 6 + j) v := fun L j v => by
        rw [List.set_append_right _ _ (by rw [hk]; omega), hk]
        congr 2
        omega
      have e0 : ∀ (L : List β) (v : β), (f z ++ L).set ((i + 1) * 6) v = f z ++ L.set (i * 6) v := fun L v => e L 0 v
      rw [e0, e, e, e, e, e]
def pgCells (q : Option Pg × Value) : List Value := match q.1 with
  | none => [.int .i64 0, .int .i64 0, .int .i64 0, .int .i64 0, .int .i64 0, .slice none 0 0]
  | some p => [.int .i64 p.kind, .int .i64 p.number, .int .i64 p.segment, .int .i64 p.part, .int .i64 p.parts, q.2]
theorem pgCells_len (q : Option Pg × Value) : (pgCells q).length = 6 := by
  unfold pgCells
  split <;> rfl
def pgVal (w : World) (v : Value) : Option Pg → Prop
  | none => True
  | some p => ∃ A c, v = .slice A p.data.length c ∧ BS w v p.data
/-- the rows of the pages and of the marks -/
structure PagesRow (w : World) (pg vb : Nat) (cur : List (Option Pg)) (vs : List Value) : Prop where
  len : vs.length = cur.length
  row : RowB w pg 129 ((cur.zip vs).flatMap pgCells)
  marks : RowB w vb 4 (cur.map fun x => .bool x.isSome)
  val : ∀ (j : Nat) (x : Option Pg) (v : Value), cur[j]? = some x → vs[j]? = some v → pgVal w v x
theorem pgVal.ext {w w' : World} {v : Value} {x : Option Pg} (h : pgVal w v x) (hx : Ext w w') : pgVal w' v x := by
  cases x with
  | none => trivial
  | some p => obtain ⟨A, c, e, hb⟩ := h; exact ⟨A, c, e, hb.ext hx⟩
theorem pgVal.mod {w w' : World} {F : Nat → Prop} {v : Value} {x : Option Pg} (h : pgVal w v x) (hm : Mod F w w') (h8 : No8 w F) : pgVal w' v x := by
  cases x with
  | none => trivial
  | some p => obtain ⟨A, c, e, hb⟩ := h; exact ⟨A, c, e, hb.mod hm h8⟩
theorem PagesRow.ext {w w' : World} {pg vb : Nat} {cur : List (Option Pg)} {vs : List Value} (h : PagesRow w pg vb cur vs) (hx : Ext w w') : PagesRow w' pg vb cur vs :=
  ⟨h.len, h.row.ext hx, h.marks.ext hx, fun j x v h1 h2 => (h.val j x v h1 h2).ext hx⟩
theorem PagesRow.mod {w w' : World} {F : Nat → Prop} {pg vb : Nat} {cur : List (Option Pg)} {vs : List Value} (h : PagesRow w pg vb cur vs) (hm : Mod F w w') (h8 : No8 w F) (h1 : ¬ F pg) (h2 : ¬ F vb) : PagesRow w' pg vb cur vs :=
  ⟨h.len, hm.rowB h.row h1, hm.rowB h.marks h2, fun j x v h1 h2 => (h.val j x v h1 h2).mod hm h8⟩
theorem PagesRow.st {w : World} {pg vb : Nat} {cur : List (Option Pg)} {vs : List Value} (h : PagesRow w pg vb cur vs) (hb : ∀ p, some p ∈ cur → p.data.length ≤ 512 ∧ 1 ≤ p.parts) : PagesSt w pg vb cur := by
  refine ⟨fun i x hi => h.marks.cell (by rw [List.getElem?_map, hi]; rfl), fun i p hi => ?_⟩
  obtain ⟨v, hv⟩ : ∃ v, vs[i]? = some v := ⟨_, List.getElem?_eq_getElem (by rw [h.len]; exact (List.getElem?_eq_some_iff.1 hi).1)⟩
  obtain ⟨A, c, rfl, hbs⟩ := h.val i _ v hi hv
  have hz : (cur.zip vs)[i]? = some (some p, .slice A p.data.length c) := by rw [List.getElem?_zip_eq_some]; exact ⟨hi, hv⟩
  have g : ∀ j u, j < 6 → (pgCells (some p, .slice A p.data.length c))[j]? = some u → w.cell? ⟨pg, i * 6 + j, none⟩ = some u := fun j u hj hu => h.row.cell (by rw [flat_get pgCells 6 pgCells_len _ i j hj, hz]; exact hu)
  exact ⟨⟨A, c, hbs, g 0 _ (by decide) rfl, g 1 _ (by decide) rfl, g 2 _ (by decide) rfl, g 3 _ (by decide) rfl, g 4 _ (by decide) rfl, g 5 _ (by decide) rfl⟩, hb p (List.mem_of_getElem? hi)⟩
theorem zip_set3 {α β : Type} (ps : List α) (bs : List β) (i : Nat) (a : α) (c : β) : (ps.set i a).zip (bs.set i c) = (ps.zip bs).set i (a, c) := (zip_set2 ps bs i a c).symm
/-- one page more -/
theorem PagesRow.put {w w1 w2 : World} {pg vb k : Nat} {cur : List (Option Pg)} {vs : List Value} (h : PagesRow w pg vb cur vs) (hk : k < cur.length) (x : Option Pg) (v : Value) (a0 a1 a2 a3 a4 a5 : Value) (ha : pgCells (x, v) = [a0, a1, a2, a3, a4, a5])
    (e1 : w1 = (((((w.setCell ⟨pg, k * 6, none⟩ a0).setCell ⟨pg, k * 6 + 1, none⟩ a1).setCell ⟨pg, k * 6 + 2, none⟩ a2).setCell ⟨pg, k * 6 + 3, none⟩ a3).setCell ⟨pg, k * 6 + 4, none⟩ a4).setCell ⟨pg, k * 6 + 5, none⟩ a5)
    (e2 : w2 = w1.setCell ⟨vb, k, none⟩ (.bool x.isSome)) (hv : pgVal w v x) : PagesRow w2 pg vb (cur.set k x) (vs.set k v) ∧ Mod (fun y => y = pg ∨ y = vb) w w2 := by
  have hl : (cur.zip vs).length = cur.length := by rw [List.length_zip, h.len, Nat.min_self]
  have hfl : ((cur.zip vs).flatMap pgCells).length = cur.length * 6 := by rw [flat_len pgCells 6 pgCells_len, hl]
  have m1 : Mod (fun y => y = pg) w w1 := by
    rw [e1]
    exact ((((((Mod.refl (fun y => y = pg) w).setCell (p := ⟨pg, k * 6, none⟩) (.inl rfl) a0).setCell (p := ⟨pg, k * 6 + 1, none⟩) (.inl rfl) a1).setCell (p := ⟨pg, k * 6 + 2, none⟩) (.inl rfl) a2).setCell (p := ⟨pg, k * 6 + 3, none⟩) (.inl rfl) a3).setCell (p := ⟨pg, k * 6 + 4, none⟩) (.inl rfl) a4).setCell (p := ⟨pg, k * 6 + 5, none⟩) (.inl rfl) a5
  have r1 : RowB w1 pg 129 (((cur.set k x).zip (vs.set k v)).flatMap pgCells) := by
    have h9 := (((((h.row.set (k * 6) a0 (by rw [hfl]; omega)).set (k * 6 + 1) a1 (by simp only [List.length_set]; rw [hfl]; omega)).set (k * 6 + 2) a2 (by simp only [List.length_set]; rw [hfl]; omega)).set (k * 6 + 3) a3 (by simp only [List.length_set]; rw [hfl]; omega)).set (k * 6 + 4) a4 (by simp only [List.length_set]; rw [hfl]; omega)).set (k * 6 + 5) a5 (by simp only [List.length_set]; rw [hfl]; omega)
    rw [flat_set6 pgCells pgCells_len (cur.zip vs) k (x, v) (by rw [hl]; exact hk) a0 a1 a2 a3 a4 a5 ha, ← zip_set3] at h9
    rw [e1]
    exact h9
  have hne : pg ≠ vb := h.row.apart h.marks (by decide)
  have b1 := m1.rowB h.marks (fun e => hne e.symm)
  have m2 : Mod (fun y => y = vb) w1 w2 := by rw [e2]; exact mod_set w1 vb k _
  have h81 : No8 w (fun y => y = pg) := no8_row h.row (by decide)
  have h82 : No8 w1 (fun y => y = vb) := no8_row b1 (by decide)
  refine ⟨⟨by rw [List.length_set, List.length_set]; exact h.len, m2.rowB r1 (fun e => hne e), ?_, fun j y u hy hu => ?_⟩, ((m1.mono (fun _ _ h => .inl h) : Mod (fun y => y = pg ∨ y = vb) w w1)).then m2 (fun i hi => .inl (.inr hi))⟩
  · rw [List.map_set, e2]
    exact b1.set k _ (by rw [List.length_map]; exact hk)
  · by_cases hjk : j = k
    · subst hjk
      rw [List.getElem?_set_self hk] at hy
      rw [List.getElem?_set_self (by rw [h.len]; exact hk)] at hu
      cases hy
      cases hu
      exact (hv.mod m1 h81).mod m2 h82
    · rw [List.getElem?_set_ne (Ne.symm hjk)] at hy hu
      exact ((h.val j y u hy hu).mod m1 h81).mod m2 h82
/-! entries -/
def entCells (x : Ent × Value) : List Value := [.int .i64 x.1.kind, .int .i64 x.1.number, .int .i64 x.1.segment, .int .i64 x.1.pages, .string (st x.1.key), x.2]
theorem entCells_len (x : Ent × Value) : (entCells x).length = 6 := rfl
/-- a slice of entries that is owned: its block is at B or above -/
def EntsAt (w : World) (B : Nat) (v : Value) (l : List Ent) : Prop := ∃ vs : List Value, vs.length = l.length ∧ w.ownsRow B 90 6 v l.length ((l.zip vs).flatMap entCells) ∧
  ∀ (i : Nat) (x : Ent) (u : Value), l[i]? = some x → vs[i]? = some u → ∃ A c, u = .slice A x.value.length c ∧ BS w u x.value
theorem EntsAt.nil (w : World) (B : Nat) : EntsAt w B (.slice none 0 0) [] := ⟨[], rfl, World.ownsRow_nil _ _ _ _, fun i x u h => by simp at h⟩
theorem EntsAt.mod {w w' : World} {F : Nat → Prop} {B : Nat} {v : Value} {l : List Ent} (h : EntsAt w B v l) (hm : Mod F w w') (h8 : No8 w F) (hF : ∀ x, v.ownBlock = some x → ¬ F x) : EntsAt w' B v l := by
  obtain ⟨vs, h1, h2, h3⟩ := h
  exact ⟨vs, h1, own_mod h2 hm hF, fun i x u hx hu => by obtain ⟨A, c, e, hb⟩ := h3 i x u hx hu; exact ⟨A, c, e, hb.mod hm h8⟩⟩
theorem EntsAt.ext {w w' : World} {B : Nat} {v : Value} {l : List Ent} (h : EntsAt w B v l) (hx : Ext w w') : EntsAt w' B v l := h.mod (Mod.of_ext (fun _ => False) hx) (no8_false w) (fun _ _ h => h)
theorem EntsAt.slice {w : World} {B : Nat} {v : Value} {l : List Ent} (h : EntsAt w B v l) : ∃ A c, v = .slice A l.length c := by
  obtain ⟨vs, -, h2, -⟩ := h
  exact own_slice h2
theorem EntsAt.any {w : World} {B B' : Nat} {v : Value} {l : List Ent} (h : EntsAt w B v l) (hb : B' ≤ B) : EntsAt w B' v l := by
  obtain ⟨vs, h1, h2, h3⟩ := h
  exact ⟨vs, h1, ⟨h2.1, h2.2.imp id fun ⟨g, cap, cur, e, hb', r⟩ => ⟨g, cap, cur, e, Nat.le_trans hb hb', r⟩⟩, h3⟩
theorem EntsAt.blk {w : World} {B : Nat} {v : Value} {l : List Ent} (h : EntsAt w B v l) {x : Nat} (hx : v.ownBlock = some x) : (∃ C, w.heap[x]? = some (.cells C 90 (0, 0))) ∧ B ≤ x := by
  obtain ⟨vs, -, h2, -⟩ := h
  rcases h2.2 with ⟨e2, -⟩ | ⟨g, cap, cur, e2, hb, hg, -⟩
  · rw [e2] at hx; cases hx
  · rw [e2] at hx; cases hx; exact ⟨⟨_, hg⟩, hb⟩
theorem EntsAt.no8 {w : World} {B : Nat} {v : Value} {l : List Ent} (h : EntsAt w B v l) : No8 w (fun x => v.ownBlock = some x) := by
  intro g C fr hg hx
  obtain ⟨⟨C', h1⟩, -⟩ := h.blk hx
  rw [hg] at h1
  simp at h1
/-- the cells of an entry -/
theorem EntsAt.at_ {w : World} {B g n cap : Nat} {l : List Ent} (h : EntsAt w B (.slice (some ⟨g, 0, none⟩) n cap) l) {i : Nat} {x : Ent} (hx : l[i]? = some x) :
    ∃ A c, BS w (.slice A x.value.length c) x.value ∧ w.cell? ⟨g, i * 6, none⟩ = some (.int .i64 x.kind) ∧ w.cell? ⟨g, i * 6 + 1, none⟩ = some (.int .i64 x.number) ∧ w.cell? ⟨g, i * 6 + 2, none⟩ = some (.int .i64 x.segment) ∧
      w.cell? ⟨g, i * 6 + 3, none⟩ = some (.int .i64 x.pages) ∧ w.cell? ⟨g, i * 6 + 4, none⟩ = some (.string (st x.key)) ∧ w.cell? ⟨g, i * 6 + 5, none⟩ = some (.slice A x.value.length c) := by
  obtain ⟨vs, h1, h2, h3⟩ := h
  obtain ⟨A0, c0, e0⟩ := own_slice h2
  cases e0
  obtain ⟨r1, -, -⟩ := own_row h2
  obtain ⟨v, hv⟩ : ∃ v, vs[i]? = some v := ⟨_, List.getElem?_eq_getElem (by rw [h1]; exact (List.getElem?_eq_some_iff.1 hx).1)⟩
  obtain ⟨A, c, rfl, hb⟩ := h3 i x v hx hv
  have hz : (l.zip vs)[i]? = some (x, .slice A x.value.length c) := by rw [List.getElem?_zip_eq_some]; exact ⟨hx, hv⟩
  have k : ∀ j u, j < 6 → (entCells (x, .slice A x.value.length c))[j]? = some u → w.cell? ⟨g, i * 6 + j, none⟩ = some u := fun j u hj hu => r1.cell (by rw [flat_get entCells 6 entCells_len _ i j hj, hz]; exact hu)
  exact ⟨A, c, hb, k 0 _ (by decide) rfl, k 1 _ (by decide) rfl, k 2 _ (by decide) rfl, k 3 _ (by decide) rfl, k 4 _ (by decide) rfl, k 5 _ (by decide) rfl⟩
theorem EntsAt.addr {w : World} {B : Nat} {v : Value} {l : List Ent} (h : EntsAt w B v l) (hl : l ≠ []) : ∃ g c, v = .slice (some ⟨g, 0, none⟩) l.length c := by
  obtain ⟨vs, -, h2, -⟩ := h
  exact own_addr h2 (List.length_pos_iff.2 hl)
/-- one entry more -/
theorem EntsAt.push {w w' : World} {B' : Nat} {v v' : Value} {l : List Ent} {vs : List Value} (h1 : vs.length = l.length) (h3 : ∀ (i : Nat) (x : Ent) (u : Value), l[i]? = some x → vs[i]? = some u → ∃ A c, u = .slice A x.value.length c ∧ BS w u x.value)
    (hm : Mod (fun x => v.ownBlock = some x) w w') (h8 : No8 w (fun x => v.ownBlock = some x)) {x : Ent} {A : Option Addr} {c : Nat} (hu : BS w (.slice A x.value.length c) x.value)
    (hown : w'.ownsRow B' 90 6 v' (l.length + 1) ((l.zip vs).flatMap entCells ++ entCells (x, .slice A x.value.length c))) : EntsAt w' B' v' (l ++ [x]) := by
  refine ⟨vs ++ [.slice A x.value.length c], by simp [h1], ?_, fun i y u hy hv => ?_⟩
  · rw [List.zip_append h1.symm, List.flatMap_append, List.length_append]
    simpa using hown
  · by_cases hi : i < l.length
    · rw [List.getElem?_append_left hi] at hy
      rw [List.getElem?_append_left (by omega)] at hv
      obtain ⟨A', c', e, hb⟩ := h3 i y u hy hv
      exact ⟨A', c', e, hb.mod hm h8⟩
    · rw [List.getElem?_append_right (by omega)] at hy
      rw [List.getElem?_append_right (by omega), h1] at hv
      cases hz : i - l.length with
      | zero =>
        rw [hz] at hy hv
        cases hy
        cases hv
        exact ⟨A, c, rfl, hu.mod hm h8⟩
      | succ z => rw [hz] at hy; simp at hy
end Go.Proofs.Ytepigkjgjlibcaa
namespace Go.Proofs.Ytepigkjgjlibcaa
open Go.RowKit

section
variable {P : Program} {ops : Array Oper} {rest : List Oper} {o : Oper} {C : World → Prop} {Q : Act → Prop} {a : Act}
theorem wpQuiet_max (hg : o.guard = none) (x y : Operand) (ts : Array TypeId) (ho : o.op = .call { callee := .builtin .max, args := #[x, y], argTypes := ts }) (k l : IntKind) (X Y : Int)
    (hx : a.eval x = .int k X) (hy : a.eval y = .int l Y) (h : wpQuiet P ops C Q rest (a.put o.dst (.int k (max X Y)))) : wpQuiet P ops C Q (o :: rest) a := by
  have hw : Region.wanted o (yielded ops a.tmps) = true := by simp [Region.wanted, hg]
  refine wpQuiet_step fun K hK => ?_
  rw [if_pos hw]
  refine ⟨_, fun w _ => ?_, hK _ h⟩
  unfold Oper.quietAt execOp
  simp only [ho, resolve, invoke, builtin, Sem.run_bind, Sem.run_pure, Result.andThen_ok, List.map_toArray, List.map_cons, List.map_nil, hx, hy, Lib.run_max_ints]
  exact ⟨rfl, rfl⟩
theorem wpQuiet_min (hg : o.guard = none) (x y : Operand) (ts : Array TypeId) (ho : o.op = .call { callee := .builtin .min, args := #[x, y], argTypes := ts }) (k l : IntKind) (X Y : Int)
    (hx : a.eval x = .int k X) (hy : a.eval y = .int l Y) (h : wpQuiet P ops C Q rest (a.put o.dst (.int k (min X Y)))) : wpQuiet P ops C Q (o :: rest) a := by
  have hw : Region.wanted o (yielded ops a.tmps) = true := by simp [Region.wanted, hg]
  refine wpQuiet_step fun K hK => ?_
  rw [if_pos hw]
  refine ⟨_, fun w _ => ?_, hK _ h⟩
  unfold Oper.quietAt execOp
  simp only [ho, resolve, invoke, builtin, Sem.run_bind, Sem.run_pure, Result.andThen_ok, List.map_toArray, List.map_cons, List.map_nil, hx, hy, Lib.run_min_ints]
  exact ⟨rfl, rfl⟩
end
end Go.Proofs.Ytepigkjgjlibcaa
