/- Chapter 23: package flashlog: load. Chapter 23: package flashlog: parts. -/
import Derived.Test.YtepigkjgjlibcaaGAK
namespace Go.Proofs.Ytepigkjgjlibcaa
open Go.RowKit Go.Deep Go.Proofs.Ytepigkjgjlibcaa.FL
set_option maxRecDepth 100000
theorem lb_info23 : (Try.prog.info? 85).map (fun i => (i.zero, i.size, i.bytes)) = some (some (.agg #[.int .i64 0, .int .i64 0, .int .i64 0, .slice none 0 0]), 4, 48) := by kernel_rfl
/-- one block more -/
theorem LBsAt.snoc {w w' : World} {bv v' : Value} {es : List Value} {bs : List LB} (h : LBsAt w bv es bs) (hm : Mod (fun x => bv.ownBlock = some x) w w') {b : LB} {u : Value}
    (hown : w'.ownsRow 0 85 4 v' (bs.length + 1) ((bs.zip es).flatMap lbCells ++ lbCells (b, u))) (hu : EntsAt w 0 u b.entries) (hne : ∀ x, u.ownBlock = some x → ∀ y ∈ es, y.ownBlock ≠ some x) : LBsAt w' v' (es ++ [u]) (bs ++ [b]) := by
  have hty : Typed w [85] (fun x => bv.ownBlock = some x) := fun x hx => by
    rcases h.own.2 with ⟨e2, -⟩ | ⟨g, cap, cur, e2, -, hg, -⟩
    · rw [e2] at hx; cases hx
    · rw [e2] at hx; cases hx; exact ⟨cur, _, _, hg, by simp⟩
  have h8 : No8 w (fun x => bv.ownBlock = some x) := hty.no8 (by decide)
  refine ⟨by simp [h.len], ?_, fun i c v hc hv => ?_, fun i j y z x hij hy hz hyx hzx => ?_⟩
  · rw [List.length_append, List.zip_append h.len.symm, List.flatMap_append]
    simpa using hown
  · by_cases hi : i < bs.length
    · rw [List.getElem?_append_left hi] at hc
      rw [List.getElem?_append_left (by rw [h.len]; exact hi)] at hv
      have h1 := h.ents i c v hc hv
      exact h1.mod hm h8 (h1.notin hty (by decide))
    · have hil := (List.getElem?_eq_some_iff.1 hc).1
      rw [List.length_append, List.length_singleton] at hil
      obtain rfl : i = bs.length := by omega
      rw [List.getElem?_append_right (Nat.le_refl _), Nat.sub_self] at hc
      rw [List.getElem?_append_right (by rw [h.len]; exact Nat.le_refl _), h.len, Nat.sub_self] at hv
      cases hc
      cases hv
      exact hu.mod hm h8 (hu.notin hty (by decide))
  · have li := (List.getElem?_eq_some_iff.1 hy).1
    have lj := (List.getElem?_eq_some_iff.1 hz).1
    rw [List.length_append, List.length_singleton] at li lj
    by_cases hi : i < es.length
    · rw [List.getElem?_append_left hi] at hy
      by_cases hj : j < es.length
      · rw [List.getElem?_append_left hj] at hz
        exact h.apart i j y z x hij hy hz hyx hzx
      · obtain rfl : j = es.length := by omega
        rw [List.getElem?_append_right (Nat.le_refl _), Nat.sub_self] at hz
        cases hz
        exact hne x hzx y (List.mem_of_getElem? hy) hyx
    · obtain rfl : i = es.length := by omega
      rw [List.getElem?_append_right (Nat.le_refl _), Nat.sub_self] at hy
      cases hy
      rw [List.getElem?_append_left (by omega)] at hz
      exact hne x hyx z (List.mem_of_getElem? hz) hzx
theorem LBsAt.nil (w : World) : LBsAt w (.slice none 0 0) [] [] := ⟨rfl, World.ownsRow_nil _ _ _ _, fun i b u h => by simp at h, fun i j u v x _ h => by simp at h⟩
/-- what load has done after i blocks -/
def loadTo (L : Log) (i : Nat) : Log := { L with blocks := (L.d.now.take i).map scanF, open_ := -1, number := ((L.d.now.take i).map scanF).foldl (fun n b => max n (b.number + 1)) 1, segment := ((L.d.now.take i).map scanF).foldl (fun n b => max n (b.segment + 1)) 1 }
theorem loadF_eq (L : Log) : loadF L = loadTo L L.d.now.length := by
  unfold loadF loadTo
  rw [List.take_of_length_le (Nat.le_refl _)]
theorem loadTo_succ {L : Log} {i : Nat} {b : Blk} (h : L.d.now[i]? = some b) : loadTo L (i + 1) = { loadTo L i with blocks := (loadTo L i).blocks ++ [scanF b], number := max (loadTo L i).number ((scanF b).number + 1), segment := max (loadTo L i).segment ((scanF b).segment + 1) } := by
  unfold loadTo
  rw [List.take_add_one, h]
  simp only [Option.toList_some, List.map_append, List.map_cons, List.map_nil, List.foldl_append, List.foldl_cons, List.foldl_nil]
theorem maxL_bd {l : List Nat} {n : Nat} (h : ∀ x ∈ l, x ≤ n) : maxL l ≤ n := by
  have go : ∀ (l : List Nat) (a : Nat), a ≤ n → (∀ x ∈ l, x ≤ n) → l.foldl max a ≤ n := by
    intro l
    induction l with
    | nil => intro a ha _; exact ha
    | cons x r ih => intro a ha hx; rw [List.foldl_cons]; exact ih _ (by have := hx x (List.mem_cons_self ..); omega) (fun y hy => hx y (List.mem_cons_of_mem _ hy))
  exact go l 0 (Nat.zero_le _) h
/-- the pages of a block are whole -/
def BlkWf (b : Blk) : Prop := ∀ x, some x ∈ b.pages → x.length = 512
theorem page_len {p : Option Bs} (h : ∀ x, p = some x → x.length = 512) : (match p with | none => filled [] | some x => x).length = 512 := by
  cases p with
  | none => exact filled_len (by simp)
  | some x => exact h x rfl
theorem scan_bd {b : Blk} (h : BlkWf b) : (scanF b).number ≤ far ∧ (scanF b).segment ≤ far := by
  have key : ∀ p ∈ b.pages.map readPage, segP p ≤ far ∧ numP p ≤ far := by
    intro p hp
    obtain ⟨x, hx, rfl⟩ := List.mem_map.1 hp
    cases hr : readPage x with
    | none => exact ⟨Nat.zero_le _, Nat.zero_le _⟩
    | some q =>
      have := readF_bounds (page_len (fun y hy => h y (hy ▸ hx))) hr
      exact ⟨this.2.2.1, this.2.2.2.1⟩
  rw [scanF_eq]
  constructor
  · refine maxL_bd (fun x hx => ?_)
    obtain ⟨p, hp, rfl⟩ := List.mem_map.1 hx
    exact (key p hp).2
  · refine maxL_bd (fun x hx => ?_)
    obtain ⟨p, hp, rfl⟩ := List.mem_map.1 hx
    exact (key p hp).1
theorem loadTo_bd {L : Log} (h : ∀ b ∈ L.d.now, BlkWf b) (i : Nat) : (1 ≤ (loadTo L i).number ∧ (loadTo L i).number ≤ far + 1) ∧ 1 ≤ (loadTo L i).segment ∧ (loadTo L i).segment ≤ far + 1 := by
  induction i with
  | zero => unfold loadTo far; simp
  | succ i ih =>
    cases hb : L.d.now[i]? with
    | none =>
      have : loadTo L (i + 1) = loadTo L i := by
        have h1 := List.getElem?_eq_none_iff.1 hb
        unfold loadTo
        rw [List.take_of_length_le (by omega), List.take_of_length_le h1]
      rw [this]
      exact ih
    | some b =>
      rw [loadTo_succ hb]
      have := scan_bd (h b (List.mem_of_getElem? hb))
      simp only
      omega
theorem DevAtF.wf {w : World} {S : Nat → Prop} {d : Nat} {G : DevF} {D : Dev} (h : DevAtF w S d G D) : ∀ b ∈ D.now, BlkWf b := by
  intro b hb x hx
  obtain ⟨i, hi⟩ := List.getElem?_of_mem hb
  obtain ⟨p, cap, -, -, -, hp, -, -⟩ := h.now.cells hi
  obtain ⟨j, hj⟩ := List.getElem?_of_mem hx
  obtain ⟨v, -, -, hv⟩ := hp.at_ hj
  exact hv.2
theorem LBsAt.bvtype {w : World} {bv : Value} {es : List Value} {bs : List LB} (h : LBsAt w bv es bs) : Typed w [85] (fun x => bv.ownBlock = some x) := fun x hx => by
  rcases h.own.2 with ⟨e2, -⟩ | ⟨g, cap, cur, e2, -, hg, -⟩
  · rw [e2] at hx; cases hx
  · rw [e2] at hx; cases hx; exact ⟨cur, _, _, hg, by simp⟩
theorem LBsAt.estype {w : World} {bv : Value} {es : List Value} {bs : List LB} (h : LBsAt w bv es bs) {u : Value} (hu : u ∈ es) : Typed w [90] (fun x => u.ownBlock = some x) := fun x hx => by
  obtain ⟨b, hb⟩ := h.ent_of hu
  obtain ⟨⟨C, h1⟩, -⟩ := hb.blk hx
  exact ⟨C, _, _, h1, by simp⟩
theorem typed_row {w : World} {g : Nat} {T : TypeId} {xs : List Value} (h : RowB w g T xs) : Typed w [T] (fun x => x = g) := fun x hx => by rw [show x = g from hx]; exact row_typed h (by simp)
theorem Typed.disj {w : World} {t1 t2 : List TypeId} {S1 S2 : Nat → Prop} (h1 : Typed w t1 S1) (h2 : Typed w t2 S2) (hd : ∀ t ∈ t1, t ∉ t2) : ∀ x, S1 x → ¬ S2 x := by
  intro x h3 h4
  obtain ⟨C, T, fr, h5, h6⟩ := h1 x h3
  obtain ⟨C', T', fr', h7, h8⟩ := h2 x h4
  rw [h5] at h7
  cases h7
  exact hd _ h6 h8
/-- one block more in the log -/
theorem LogAtF.snoc {w w7 : World} {S SD : Nat → Prop} {l : Nat} {F : LogF} {G : DevF} {L : Log} (h : LogAtF w S l F SD G L) (hm : Mod (fun x => F.bv.ownBlock = some x) w w7) {v7 u : Value} {b : LB} (hs : LBsAt w7 v7 (F.es ++ [u]) (L.blocks ++ [b])) {B : Nat}
    (hv : ∀ x, v7.ownBlock = some x → F.bv.ownBlock = some x ∨ B ≤ x) (hu : ∀ x, u.ownBlock = some x → B ≤ x) :
    ∃ S', LogAtF (w7.setCell ⟨l, 1, none⟩ v7) S' l { F with bv := v7, es := F.es ++ [u] } SD G { L with blocks := L.blocks ++ [b] } ∧ Mod S w (w7.setCell ⟨l, 1, none⟩ v7) ∧ ∀ x, S' x → S x ∨ B ≤ x := by
  have hbt := h.blks.bvtype
  have h8 : No8 w (fun x => F.bv.ownBlock = some x) := hbt.no8 (by decide)
  have hl1 : ¬ F.bv.ownBlock = some l := fun e => (hbt.disj (typed_row h.row) (by decide)) l e rfl
  have hrow := hm.rowB h.row hl1
  have hrow2 := hrow.set 1 v7 (by simp)
  have hml : Mod (fun x => x = l) w7 (w7.setCell ⟨l, 1, none⟩ v7) := mod_set w7 l 1 v7
  have h8l : No8 w7 (fun x => x = l) := no8_row hrow (by decide)
  have hd7 := h.dev.mod hm h8 (fun x hx e => (hbt.disj h.dev.ty (by decide)) x e hx)
  have hld : ¬ SD l := h.dev.ty.apart h.row (by decide)
  refine ⟨fun x => (S x ∧ F.bv.ownBlock ≠ some x) ∨ v7.ownBlock = some x ∨ u.ownBlock = some x, ⟨hrow2, hd7.mod hml h8l (fun x hx e => hld (e ▸ hx)), hs.mod hml h8l (fun x hx e => (hs.bvtype.disj (typed_row hrow) (by decide)) x hx e) (fun y hy x hx e => ((hs.estype hy).disj (typed_row hrow) (by decide)) x hx e), ⟨.inl ⟨h.inS.1, hl1⟩, fun x hx => .inr (.inl hx), fun y hy x hx => ?_, fun x hx => .inl ⟨h.inS.2.2.2 x hx, fun e => (hbt.disj h.dev.ty (by decide)) x e hx⟩⟩, fun x hx => ?_⟩, (hm.mono (fun x _ hx => h.inS.2.1 x hx)).then hml (fun x hx => .inl (by rw [show x = l from hx]; exact h.inS.1)), fun x hx => ?_⟩
  · rcases List.mem_append.1 hy with hy | hy
    · exact .inl ⟨h.inS.2.2.1 y hy x hx, fun e => (hbt.disj (h.blks.estype hy) (by decide)) x e hx⟩
    · rw [List.mem_singleton] at hy; subst hy; exact .inr (.inr hx)
  · have set_ : ∀ (T : TypeId), T ∈ logTys → (∃ C fr, w7.heap[x]? = some (.cells C T fr)) → x ≠ l → ∃ C T fr, (w7.setCell ⟨l, 1, none⟩ v7).heap[x]? = some (.cells C T fr) ∧ T ∈ logTys := fun T hT ⟨C, fr, h1⟩ hxl => ⟨C, T, fr, (hml.block x (Array.getElem?_eq_some_iff.1 h1).1 hxl).trans h1, hT⟩
    by_cases hxl : x = l
    · subst hxl; exact row_typed hrow2 (by decide)
    · by_cases hxv : v7.ownBlock = some x
      · obtain ⟨C, T, fr, h1, h2⟩ := hs.bvtype x hxv
        rw [List.mem_singleton] at h2
        subst h2
        exact set_ _ (by decide) ⟨C, fr, h1⟩ hxl
      · by_cases hxu : u.ownBlock = some x
        · obtain ⟨C, T, fr, h1, h2⟩ := hs.estype (u := u) (by simp) x hxu
          rw [List.mem_singleton] at h2
          subst h2
          exact set_ _ (by decide) ⟨C, fr, h1⟩ hxl
        · rcases hx with hx | hx | hx
          · obtain ⟨C, T, fr, h1, h2⟩ := h.ty x hx.1
            exact set_ T h2 ⟨C, fr, (hm.block x (Typed.lt h.ty hx.1) hx.2).trans h1⟩ hxl
          · exact absurd hx hxv
          · exact absurd hx hxu
  · rcases hx with hx | hx | hx
    · exact .inl hx.1
    · rcases hv x hx with h1 | h1
      · exact .inl (h.inS.2.1 x h1)
      · exact .inr h1
    · exact .inr (hu x hx)
/-- a log somewhere in a world that has grown out of w -/
def LogFrom (w wr : World) (S SD : Nat → Prop) (l dv : Nat) (G : DevF) (L : Log) : Prop := ∃ F S', F.dv = dv ∧ LogAtF wr S' l F SD G L ∧ Mod S w wr ∧ ∀ x, S' x → S x ∨ w.heap.size ≤ x
set_option maxHeartbeats 8000000 in
theorem load_any {w : World} {S SD : Nat → Prop} {l : Nat} {F : LogF} {G : DevF} {L : Log} (h : LogAtF w S l F SD G L) :
    Calls Try.prog 33 #[.pointer (some ⟨l, 0, none⟩)] w fun e w' => e = .returned (.tuple #[]) ∧ LogFrom w w' S SD l F.dv G (loadF L) := by
  have H := Lib.hid h
  obtain ⟨n, hn⟩ : ∃ n, n = L.d.now.length := ⟨_, rfl⟩
  have HN := Lib.hid hn
  have hn64 : n ≤ 64 := by rw [hn]; exact h.dev.nb.2
  have HBD := Lib.hid (loadTo_bd h.dev.wf)
  have HLS := Lib.hid (show ∀ x, S x → S x ∨ w.heap.size ≤ x from fun _ h => .inl h)
  have c0 := h.row.cell (j := 0) rfl
  have c1 := h.row.cell (j := 1) rfl
  have c2 := h.row.cell (j := 2) rfl
  have c3 := h.row.cell (j := 3) rfl
  have c4 := h.row.cell (j := 4) rfl
  have f1 := h.row.frozen (j := 1) (by simp)
  have f2 := h.row.frozen (j := 2) (by simp)
  have f3 := h.row.frozen (j := 3) (by simp)
  have f4 := h.row.frozen (j := 4) (by simp)
  have hr := (((h.row.set 1 (.slice none 0 0) (by simp)).set 2 (.int .i64 (-1)) (by simp)).set 3 (.int .i64 1) (by simp)).set 4 (.int .i64 1) (by simp)
  have hm := (((mod_set w l 1 (.slice none 0 0)).trans (mod_set _ l 2 (.int .i64 (-1)))).trans (mod_set _ l 3 (.int .i64 1))).trans (mod_set _ l 4 (.int .i64 1))
  obtain ⟨w0, hw0⟩ : ∃ z, z = (((w.setCell ⟨l, 1, none⟩ (.slice none 0 0)).setCell ⟨l, 2, none⟩ (.int .i64 (-1))).setCell ⟨l, 3, none⟩ (.int .i64 1)).setCell ⟨l, 4, none⟩ (.int .i64 1) := ⟨_, rfl⟩
  rw [← hw0] at hr hm
  have HL0 : Hid (LogFrom w w0 S SD l F.dv G (loadTo L 0)) := Lib.hid (by
    have h8 : No8 w (fun x => x = l) := no8_row h.row (by decide)
    have hl : ¬ SD l := h.dev.ty.apart h.row (by decide)
    refine ⟨⟨F.dv, .slice none 0 0, []⟩, S, rfl, ⟨hr, h.dev.mod hm h8 (fun x hx e => hl (e ▸ hx)), LBsAt.nil _, ⟨h.inS.1, fun x hx => (by cases hx), fun u hu => (by cases hu), h.inS.2.2.2⟩, fun x hx => ?_⟩, hm.mono (fun x _ hx => by rw [show x = l from hx]; exact h.inS.1), fun _ h => .inl h⟩
    by_cases hxl : x = l
    · subst hxl; exact row_typed hr (by decide)
    · obtain ⟨C, T, fr, h1, h2⟩ := h.ty x hx
      exact ⟨C, T, fr, (hm.block x (Typed.lt h.ty hx) hxl).trans h1, h2⟩)
  clear h hn hr hm
  go_enter Try.func33, Try.ntmps33
  go_upto_region 1 with fail
  rw [← hw0]
  clear hw0 c0 c1 c2 c3 c4 f1 f2 f3 f4
  obtain ⟨F0, S0, hF0, h0, hm0, hs0⟩ := HL0.out
  have d0 := h0.row.cell (j := 0) rfl
  rw [hF0] at d0
  have HBL := Lib.hid (blocks_any h0.dev)
  rw [hF0, show (loadTo L 0).d.now.length = n by rw [HN.out]; rfl] at HBL
  clear hF0 h0 hm0 hs0
  go_wp2_with (go_at_call 32; refine HBL.out.mono ?_; rintro e w1 ⟨rfl, rfl⟩)
  go_loopw [21] (fun i wr => ∃ k : Nat, i = .int .i64 k ∧ k ≤ n ∧ Hid (LogFrom w wr S SD l F.dv G (loadTo L k))) (fun i _ => n - (intOf i).toNat)
  case atStart => exact ⟨0, rfl, by omega, HL0⟩
  case round =>
    clear d0 HL0
    obtain ⟨k, rfl, hk, hL⟩ := hrel
    by_cases hkn : k < n
    · have hki : (k : Int) < (n : Int) := by omega
      obtain ⟨F1, S1, hF1, h1, hm1, hs1⟩ := hL.out
      obtain ⟨b, hb⟩ : ∃ b, L.d.now[k]? = some b := ⟨_, List.getElem?_eq_getElem (by rw [← HN.out]; exact hkn)⟩
      have HSC := Lib.hid (scan_any h1.dev (i := k) (b := b) hb)
      have HST := Lib.hid (loadTo_succ hb)
      have d0 := h1.row.cell (j := 0) rfl
      rw [hF1] at d0 HSC
      have H1 := Lib.hid h1
      have HM1 := Lib.hid (And.intro hF1 (And.intro hm1 hs1))
      have hbd := scan_bd (H.out.dev.wf b (List.mem_of_getElem? hb))
      obtain ⟨B, hB⟩ : ∃ B, B = scanF b := ⟨_, rfl⟩
      rw [← hB] at HSC HST hbd
      have HBB := Lib.hid hbd
      clear hF1 h1 hm1 hs1 hL hb hB hbd
      go_upto_region 5 with (go_at_call 53; refine HSC.out.mono ?_; rintro e w1 ⟨hx1, v1, rfl, he1⟩; obtain ⟨A1, ca1, rfl⟩ := he1.slice)
      obtain ⟨wb, hwb⟩ : ∃ z, z = w1.alloc (.cells #[.int .i64 B.next, .int .i64 B.segment, .int .i64 B.number, .slice A1 B.entries.length ca1] 85) := ⟨_, rfl⟩
      obtain ⟨t3, ht3⟩ : ∃ z, z = w1.heap.size := ⟨_, rfl⟩
      have HXB := Lib.hid (show Ext wr wb by rw [hwb]; exact hx1.alloc _)
      have HR3 : Hid (RowB wb t3 85 [.int .i64 B.next, .int .i64 B.segment, .int .i64 B.number, .slice A1 B.entries.length ca1]) := Lib.hid (by rw [hwb, ht3]; exact row_laid w1 _ _)
      have HEB := Lib.hid (show EntsAt wb wr.heap.size (.slice A1 B.entries.length ca1) B.entries by rw [hwb]; exact he1.ext ((Ext.refl _).alloc _))
      have HT3 := Lib.hid (show wr.heap.size ≤ t3 by rw [ht3]; exact hx1.size)
      rw [← hwb, ← ht3]
      clear hwb ht3 hx1 he1
      have HKL := Lib.hid (show (loadTo L k).blocks.length = k by unfold loadTo; simp only [List.length_map, List.length_take]; have := HN.out; omega)
      have HB1 := Lib.hid ((H1.out.blks).mod (Mod.of_ext (fun _ => False) HXB.out) (no8_false _) (fun _ _ h => h) (fun _ _ _ _ h => h))
      have HRL := Lib.hid (H1.out.row.ext HXB.out)
      have HOL := Lib.hid (show ∀ x, F1.bv.ownBlock = some x → x ≠ l ∧ x ≠ t3 by
        intro x hx
        have hlt : x < wr.heap.size := by
          rcases H1.out.blks.own.2 with ⟨e2, -⟩ | ⟨g, cap, cur, e2, -, hg, -⟩
          · rw [e2] at hx; cases hx
          · rw [e2] at hx; cases hx; exact (Array.getElem?_eq_some_iff.1 hg).1
        refine ⟨fun e => own_apart H1.out.blks.own (tys := [78]) (SD := fun x => x = l) (fun y hy => by rw [show y = l from hy]; exact row_typed H1.out.row (by decide)) (by decide) x hx e, fun e => by have := HT3.out; omega⟩)
      obtain ⟨i0, hi0, hz0, hz1, hz2⟩ := info_parts lb_info23
      refine wp_region_E (C := fun W => Mod (fun x => F1.bv.ownBlock = some x) wb W) 10 (by kernel_rfl) ?_
      obtain ⟨wv, hwv⟩ : ∃ z, z = wb.drew := ⟨_, rfl⟩
      rw [← hwv]
      have XE := Lib.hid (show Ext wb wv by rw [hwv]; exact (Ext.refl _).drew)
      have XD := Lib.hid (show Mod (fun x => F1.bv.ownBlock = some x) wb wv from Mod.of_ext _ XE.out)
      clear hwv
      refine qE_take (i := 0) (s := some 30) (v := ?v1) (by kernel_rfl) (by kernel_rfl) rfl rfl (by kernel_rfl) (by kernel_rfl) (by kernel_rfl) (fun _ _ _ h => h) XD.out (by kernel_rfl) ?hy1 ?h1
      case hy1 => intro W hW; have b1 := hW.cell (HRL.out.cell (j := 1) rfl) (fun e => (HOL.out _ e).1 rfl); have r3 := hW.rowB HR3.out (fun e => (HOL.out _ e).2 rfl); have e0 := r3.cell (j := 0) rfl; have e1 := r3.cell (j := 1) rfl; have e2 := r3.cell (j := 2) rfl; have e3 := r3.cell (j := 3) rfl; go_simp; exact rfl
      try simp only [Act.put, List.setIfInBounds_toArray, List.set_cons_succ, List.set_cons_zero]
      refine qE_take (i := 1) (s := some 31) (v := ?v2) (by kernel_rfl) (by kernel_rfl) rfl rfl (by kernel_rfl) (by kernel_rfl) (by kernel_rfl) (fun _ _ _ h => h) XD.out (by kernel_rfl) ?hy2 ?h2
      case hy2 => intro W hW; have b1 := hW.cell (HRL.out.cell (j := 1) rfl) (fun e => (HOL.out _ e).1 rfl); have r3 := hW.rowB HR3.out (fun e => (HOL.out _ e).2 rfl); have e0 := r3.cell (j := 0) rfl; have e1 := r3.cell (j := 1) rfl; have e2 := r3.cell (j := 2) rfl; have e3 := r3.cell (j := 3) rfl; go_simp; exact rfl
      try simp only [Act.put, List.setIfInBounds_toArray, List.set_cons_succ, List.set_cons_zero]
      refine qE_take (i := 2) (s := some 32) (v := ?v3) (by kernel_rfl) (by kernel_rfl) rfl rfl (by kernel_rfl) (by kernel_rfl) (by kernel_rfl) (fun _ _ _ h => h) XD.out (by kernel_rfl) ?hy3 ?h3
      case hy3 => intro W hW; have b1 := hW.cell (HRL.out.cell (j := 1) rfl) (fun e => (HOL.out _ e).1 rfl); have r3 := hW.rowB HR3.out (fun e => (HOL.out _ e).2 rfl); have e0 := r3.cell (j := 0) rfl; have e1 := r3.cell (j := 1) rfl; have e2 := r3.cell (j := 2) rfl; have e3 := r3.cell (j := 3) rfl; go_simp; exact rfl
      try simp only [Act.put, List.setIfInBounds_toArray, List.set_cons_succ, List.set_cons_zero]
      refine qE_take (i := 3) (s := some 33) (v := ?v4) (by kernel_rfl) (by kernel_rfl) rfl rfl (by kernel_rfl) (by kernel_rfl) (by kernel_rfl) (fun _ _ _ h => h) XD.out (by kernel_rfl) ?hy4 ?h4
      case hy4 => intro W hW; have b1 := hW.cell (HRL.out.cell (j := 1) rfl) (fun e => (HOL.out _ e).1 rfl); have r3 := hW.rowB HR3.out (fun e => (HOL.out _ e).2 rfl); have e0 := r3.cell (j := 0) rfl; have e1 := r3.cell (j := 1) rfl; have e2 := r3.cell (j := 2) rfl; have e3 := r3.cell (j := 3) rfl; go_simp; exact rfl
      try simp only [Act.put, List.setIfInBounds_toArray, List.set_cons_succ, List.set_cons_zero]
      refine qE_take (i := 4) (s := some 34) (v := ?v5) (by kernel_rfl) (by kernel_rfl) rfl rfl (by kernel_rfl) (by kernel_rfl) (by kernel_rfl) (fun _ _ _ h => h) XD.out (by kernel_rfl) ?hy5 ?h5
      case hy5 => intro W hW; have b1 := hW.cell (HRL.out.cell (j := 1) rfl) (fun e => (HOL.out _ e).1 rfl); have r3 := hW.rowB HR3.out (fun e => (HOL.out _ e).2 rfl); have e0 := r3.cell (j := 0) rfl; have e1 := r3.cell (j := 1) rfl; have e2 := r3.cell (j := 2) rfl; have e3 := r3.cell (j := 3) rfl; go_simp; exact rfl
      try simp only [Act.put, List.setIfInBounds_toArray, List.set_cons_succ, List.set_cons_zero]
      refine qE_take (i := 5) (s := some 35) (v := ?v6) (by kernel_rfl) (by kernel_rfl) rfl rfl (by kernel_rfl) (by kernel_rfl) (by kernel_rfl) (fun _ _ _ h => h) XD.out (by kernel_rfl) ?hy6 ?h6
      case hy6 => intro W hW; have b1 := hW.cell (HRL.out.cell (j := 1) rfl) (fun e => (HOL.out _ e).1 rfl); have r3 := hW.rowB HR3.out (fun e => (HOL.out _ e).2 rfl); have e0 := r3.cell (j := 0) rfl; have e1 := r3.cell (j := 1) rfl; have e2 := r3.cell (j := 2) rfl; have e3 := r3.cell (j := 3) rfl; go_simp; exact rfl
      try simp only [Act.put, List.setIfInBounds_toArray, List.set_cons_succ, List.set_cons_zero]
      refine wpAnyE_one 6 (by kernel_rfl) rfl (by kernel_rfl) (fun KK hKK => ?_)
      go_simp
      go_simp
      obtain ⟨wa, hwa⟩ : ∃ z, z = wv.alloc (.cells #[.int .i64 B.next, .int .i64 B.segment, .int .i64 B.number, .slice A1 B.entries.length ca1] 85) := ⟨_, rfl⟩
      have XA := Lib.hid (show Ext wv wa by rw [hwa]; exact (Ext.refl _).alloc _)
      have HRD := Lib.hid (show Reads wa (wv.heap.size + 1) 4 (some ⟨wv.heap.size, 0, none⟩) 1 [.int .i64 B.next, .int .i64 B.segment, .int .i64 B.number, .slice A1 B.entries.length ca1] by rw [hwa]; exact reads_laid wv 85 _ 4 1 rfl)
      rw [← hwa]
      have XDA := Lib.hid (XD.out.ext' XA.out)
      have HBA := Lib.hid (HB1.out.mod (Mod.of_ext (fun _ => False) (XE.out.trans XA.out)) (no8_false _) (fun _ _ h => h) (fun _ _ _ _ h => h))
      have hown := HBA.out.own
      rw [HKL.out] at hown
      have HOWN := Lib.hid hown
      have HRLA := Lib.hid (HRL.out.ext (XE.out.trans XA.out))
      have HEA := Lib.hid (HEB.out.ext (XE.out.trans XA.out))
      have HLTS := Lib.hid (show ∀ y ∈ F1.es, ∀ x, y.ownBlock = some x → x < wr.heap.size by
        intro y hy x hx
        obtain ⟨bb, hbb⟩ := H1.out.blks.ent_of hy
        obtain ⟨⟨C, h1⟩, -⟩ := hbb.blk hx
        exact (Array.getElem?_eq_some_iff.1 h1).1)
      refine hKK _ _ (.inr XDA.out) ?_
      clear hKK KK hwa hown
      try simp only [Act.put, List.setIfInBounds_toArray, List.set_cons_succ, List.set_cons_zero]
      refine wpAnyE_one 7 (by kernel_rfl) rfl (by kernel_rfl) (fun KK hKK => ?_)
      refine wp_append_any _ (.tmp 34) (.tmp 36) 76 rfl 0 85 i0 _ 4 48 Try.underlying76 hi0 hz0 hz1 hz2 rfl (by decide) F1.bv k _ rfl HOWN.out _ (some ⟨wv.heap.size, 0, none⟩) 1 1 _ rfl HRD.out (by simp [Value.oneCell']) (by simp only [maxLen]; omega) (by omega) (Nat.zero_le _) ?_
      intro v7 w7 ho7 hg7 hb7
      obtain ⟨A7, c7, rfl⟩ := own_slice ho7
      have HM7 := Lib.hid (grown_mod hg7)
      have HS7 := Lib.hid (LBsAt.snoc HBA.out HM7.out (b := B) (u := .slice A1 B.entries.length ca1) (by rw [HKL.out]; exact ho7) (HEA.out.any (Nat.zero_le _)) (fun x hx y hy hyx => by
        have h1 := HLTS.out y hy x hyx
        have h2 := HEA.out.base x hx
        omega))
      have HRL7 := Lib.hid (HM7.out.rowB HRLA.out (fun e => (HOL.out _ e).1 rfl))
      have HR37 := Lib.hid (HM7.out.rowB (HR3.out.ext (XE.out.trans XA.out)) (fun e => (HOL.out _ e).2 rfl))
      have XD7 := Lib.hid (XDA.out.trans HM7.out)
      have HV7 := Lib.hid hb7
      refine hKK _ _ (.inr XD7.out) ?_
      clear hKK KK ho7 hg7 hb7
      try simp only [Act.put, List.setIfInBounds_toArray]
      refine qE_take (i := 8) (s := some 38) (v := ?v7) (by kernel_rfl) (by kernel_rfl) rfl rfl (by kernel_rfl) (by kernel_rfl) (by kernel_rfl) (fun _ _ _ h => h) XD7.out (by kernel_rfl) ?hy7 ?h7
      case hy7 => intro W hW; skip; go_simp; exact rfl
      try simp only [Act.put]
      refine qE_take (i := 9) (s := some 39) (v := ?v8) (by kernel_rfl) (by kernel_rfl) rfl rfl (by kernel_rfl) (by kernel_rfl) (by kernel_rfl) (fun _ _ _ h => h) XD7.out (by kernel_rfl) ?hy8 ?h8
      case hy8 => intro W hW; skip; go_simp; exact rfl
      try simp only [Act.put]
      refine wpAnyE_one 10 (by kernel_rfl) rfl (by kernel_rfl) (fun KK hKK => ?_)
      go_simp
      have k1 := HRL7.out.cell (j := 1) rfl
      have g1 := HRL7.out.frozen (j := 1) (by simp)
      go_simp
      have HSN := Lib.hid (((H1.out.ext (HXB.out.trans (XE.out.trans XA.out))).snoc HM7.out HS7.out (B := w.heap.size) (fun x hx => by
        rcases HV7.out with e | e
        · exact .inl (by rw [← e]; exact hx)
        · right
          rw [hx] at e
          cases e
          have h1 := HM1.out.2.1.size
          have h2 := (HXB.out.trans (XE.out.trans XA.out)).size
          omega) (fun x hx => by have h1 := HM1.out.2.1.size; have h2 := HEA.out.base x hx; omega)))
      obtain ⟨w8, hw8⟩ : ∃ z, z = w7.setCell ⟨l, 1, none⟩ (.slice A7 (k + 1) c7) := ⟨_, rfl⟩
      rw [← hw8] at HSN
      rw [← hw8]
      have HM8 := Lib.hid (show Mod (fun x => x = l) w7 w8 by rw [hw8]; exact mod_set w7 l 1 _)
      refine hKK _ _ (.inl rfl) ?_
      clear hKK KK k1 g1 hw8
      try simp only [Act.put, List.setIfInBounds_toArray, List.set_cons_succ, List.set_cons_zero]
      refine ⟨by kernel_rfl, ?_⟩
      go_upto_region 6 with fail
      obtain ⟨S2, hL8, hM8, hS8⟩ := HSN.out
      have HMS := Lib.hid (And.intro hM8 hS8)
      obtain ⟨nm, hnm⟩ : ∃ z, z = (loadTo L k).number := ⟨_, rfl⟩
      obtain ⟨sg, hsg⟩ : ∃ z, z = (loadTo L k).segment := ⟨_, rfl⟩
      have hb1 := (HBD.out k).1.2
      have hb2 := (HBD.out k).2.2
      rw [← hnm] at hb1
      rw [← hsg] at hb2
      have hb3 := HBB.out.1
      have hb4 := HBB.out.2
      unfold far at hb1 hb2 hb3 hb4
      have HNS := Lib.hid (And.intro hnm hsg)
      have hx1 : max (nm : Int) ((B.number : Int) + 1) = ((max nm (B.number + 1) : Nat) : Int) := by omega
      have hx2 : max (sg : Int) ((B.segment : Int) + 1) = ((max sg (B.segment + 1) : Nat) : Int) := by omega
      have HW1 := Lib.hid (show IntKind.i64.wrap ((B.number : Int) + 1) = ((B.number + 1 : Nat) : Int) by rw [IntWalk.i64_in _ (by omega)]; omega)
      have HW2 := Lib.hid (show IntKind.i64.wrap ((B.segment : Int) + 1) = ((B.segment + 1 : Nat) : Int) by rw [IntWalk.i64_in _ (by omega)]; omega)
      have HL8 := Lib.hid hL8
      have HR38 := Lib.hid (HM8.out.rowB HR37.out (fun e => (hL8.row.apart (HM8.out.rowB HR37.out (fun e => (HR37.out.apart HRL7.out (by decide)) e)) (by decide)) e.symm))
      clear hL8 hM8 hS8 hnm hsg hb1 hb2 hb3 hb4
      refine wp_region_C (C := fun W => Mod (fun x => x = l) w8 W) (by kernel_rfl) ?_
      obtain ⟨w9, hw9⟩ : ∃ z, z = w8.drew := ⟨_, rfl⟩
      rw [← hw9]
      have XE9 := Lib.hid (show Ext w8 w9 by rw [hw9]; exact (Ext.refl _).drew)
      have XD9 := Lib.hid (show Mod (fun x => x = l) w8 w9 from Mod.of_ext _ XE9.out)
      have HL9 := Lib.hid (HL8.out.ext XE9.out)
      clear hw9
      have HLT3 := Lib.hid (show t3 ≠ l from HR38.out.apart HL8.out.row (by decide))
      have c3 := HL9.out.row.cell (j := 3) rfl
      have c4 := HL9.out.row.cell (j := 4) rfl
      simp only at c3 c4
      rw [← HNS.out.1] at c3
      rw [← HNS.out.2] at c4
      have f3 := HL9.out.row.frozen (j := 3) (by simp)
      have f4 := HL9.out.row.frozen (j := 4) (by simp)
      refine qC_take (i := 0) (s := some 40) (v := ?v9) rfl rfl (by kernel_rfl) (by kernel_rfl) (by kernel_rfl) (fun _ _ _ h => h) XD9.out (by kernel_rfl) ?hy9 ?h9
      case hy9 => intro W hW; have r3 := hW.rowB HR38.out HLT3.out; have e1 := r3.cell (j := 1) rfl; have e2 := r3.cell (j := 2) rfl; have j1 := HW1.out; have j2 := HW2.out; go_simp; exact rfl
      try simp only [Act.put, List.setIfInBounds_toArray, List.set_cons_succ, List.set_cons_zero]
      refine qC_take (i := 1) (s := some 41) (v := ?v10) rfl rfl (by kernel_rfl) (by kernel_rfl) (by kernel_rfl) (fun _ _ _ h => h) XD9.out (by kernel_rfl) ?hy10 ?h10
      case hy10 => intro W hW; have r3 := hW.rowB HR38.out HLT3.out; have e1 := r3.cell (j := 1) rfl; have e2 := r3.cell (j := 2) rfl; have j1 := HW1.out; have j2 := HW2.out; go_simp; exact rfl
      try simp only [Act.put, List.setIfInBounds_toArray, List.set_cons_succ, List.set_cons_zero]
      refine qC_take (i := 2) (s := some 42) (v := ?v11) rfl rfl (by kernel_rfl) (by kernel_rfl) (by kernel_rfl) (fun _ _ _ h => h) XD9.out (by kernel_rfl) ?hy11 ?h11
      case hy11 => intro W hW; have r3 := hW.rowB HR38.out HLT3.out; have e1 := r3.cell (j := 1) rfl; have e2 := r3.cell (j := 2) rfl; have j1 := HW1.out; have j2 := HW2.out; go_simp; exact rfl
      try simp only [Act.put, List.setIfInBounds_toArray, List.set_cons_succ, List.set_cons_zero]
      refine qC_take (i := 3) (s := some 43) (v := ?v12) rfl rfl (by kernel_rfl) (by kernel_rfl) (by kernel_rfl) (fun _ _ _ h => h) XD9.out (by kernel_rfl) ?hy12 ?h12
      case hy12 => intro W hW; have r3 := hW.rowB HR38.out HLT3.out; have e1 := r3.cell (j := 1) rfl; have e2 := r3.cell (j := 2) rfl; have j1 := HW1.out; have j2 := HW2.out; go_simp; exact rfl
      try simp only [Act.put, List.setIfInBounds_toArray, List.set_cons_succ, List.set_cons_zero]
      refine qC_take (i := 6) (s := some 46) (v := ?v13) rfl rfl (by kernel_rfl) (by kernel_rfl) (by kernel_rfl) (fun _ _ _ h => h) XD9.out (by kernel_rfl) ?hy13 ?h13
      case hy13 => intro W hW; have r3 := hW.rowB HR38.out HLT3.out; have e1 := r3.cell (j := 1) rfl; have e2 := r3.cell (j := 2) rfl; have j1 := HW1.out; have j2 := HW2.out; go_simp; exact rfl
      try simp only [Act.put, List.setIfInBounds_toArray, List.set_cons_succ, List.set_cons_zero]
      refine qC_take (i := 10) (s := some 50) (v := ?v14) rfl rfl (by kernel_rfl) (by kernel_rfl) (by kernel_rfl) (fun _ _ _ h => h) XD9.out (by kernel_rfl) ?hy14 ?h14
      case hy14 => intro W hW; have r3 := hW.rowB HR38.out HLT3.out; have e1 := r3.cell (j := 1) rfl; have e2 := r3.cell (j := 2) rfl; have j1 := HW1.out; have j2 := HW2.out; go_simp; exact rfl
      try simp only [Act.put, List.setIfInBounds_toArray, List.set_cons_succ, List.set_cons_zero]
      refine qC_take (i := 11) (s := some 51) (v := ?v15) rfl rfl (by kernel_rfl) (by kernel_rfl) (by kernel_rfl) (fun _ _ _ h => h) XD9.out (by kernel_rfl) ?hy15 ?h15
      case hy15 => intro W hW; have r3 := hW.rowB HR38.out HLT3.out; have e1 := r3.cell (j := 1) rfl; have e2 := r3.cell (j := 2) rfl; have j1 := HW1.out; have j2 := HW2.out; go_simp; exact rfl
      try simp only [Act.put, List.setIfInBounds_toArray, List.set_cons_succ, List.set_cons_zero]
      refine qC_take (i := 14) (s := some 54) (v := ?v16) rfl rfl (by kernel_rfl) (by kernel_rfl) (by kernel_rfl) (fun _ _ _ h => h) XD9.out (by kernel_rfl) ?hy16 ?h16
      case hy16 => intro W hW; have r3 := hW.rowB HR38.out HLT3.out; have e1 := r3.cell (j := 1) rfl; have e2 := r3.cell (j := 2) rfl; have j1 := HW1.out; have j2 := HW2.out; go_simp; exact rfl
      try simp only [Act.put, List.setIfInBounds_toArray, List.set_cons_succ, List.set_cons_zero]
      refine qC_take (i := 4) (s := some 44) (v := ?v17) rfl rfl (by kernel_rfl) (by kernel_rfl) (by kernel_rfl) (fun _ _ _ h => h) XD9.out (by kernel_rfl) ?hy17 ?h17
      case hy17 => intro W hW; have r3 := hW.rowB HR38.out HLT3.out; have e1 := r3.cell (j := 1) rfl; have e2 := r3.cell (j := 2) rfl; have j1 := HW1.out; have j2 := HW2.out; go_simp; exact rfl
      try simp only [Act.put, List.setIfInBounds_toArray, List.set_cons_succ, List.set_cons_zero]
      refine qC_take (i := 7) (s := some 47) (v := ?v18) rfl rfl (by kernel_rfl) (by kernel_rfl) (by kernel_rfl) (fun _ _ _ h => h) XD9.out (by kernel_rfl) ?hy18 ?h18
      case hy18 => intro W hW; have r3 := hW.rowB HR38.out HLT3.out; have e1 := r3.cell (j := 1) rfl; have e2 := r3.cell (j := 2) rfl; have j1 := HW1.out; have j2 := HW2.out; go_simp; exact rfl
      try simp only [Act.put, List.setIfInBounds_toArray, List.set_cons_succ, List.set_cons_zero]
      refine qC_take (i := 12) (s := some 52) (v := ?v19) rfl rfl (by kernel_rfl) (by kernel_rfl) (by kernel_rfl) (fun _ _ _ h => h) XD9.out (by kernel_rfl) ?hy19 ?h19
      case hy19 => intro W hW; have r3 := hW.rowB HR38.out HLT3.out; have e1 := r3.cell (j := 1) rfl; have e2 := r3.cell (j := 2) rfl; have j1 := HW1.out; have j2 := HW2.out; go_simp; exact rfl
      try simp only [Act.put, List.setIfInBounds_toArray, List.set_cons_succ, List.set_cons_zero]
      refine qC_take (i := 15) (s := some 55) (v := ?v20) rfl rfl (by kernel_rfl) (by kernel_rfl) (by kernel_rfl) (fun _ _ _ h => h) XD9.out (by kernel_rfl) ?hy20 ?h20
      case hy20 => intro W hW; have r3 := hW.rowB HR38.out HLT3.out; have e1 := r3.cell (j := 1) rfl; have e2 := r3.cell (j := 2) rfl; have j1 := HW1.out; have j2 := HW2.out; go_simp; exact rfl
      try simp only [Act.put, List.setIfInBounds_toArray, List.set_cons_succ, List.set_cons_zero]
      refine qC_take (i := 8) (s := some 48) (v := ?v21) rfl rfl (by kernel_rfl) (by kernel_rfl) (by kernel_rfl) (fun _ _ _ h => h) XD9.out (by kernel_rfl) ?hy21 ?h21
      case hy21 => intro W hW; have r3 := hW.rowB HR38.out HLT3.out; have e1 := r3.cell (j := 1) rfl; have e2 := r3.cell (j := 2) rfl; have j1 := HW1.out; have j2 := HW2.out; go_simp; exact rfl
      try simp only [Act.put, List.setIfInBounds_toArray, List.set_cons_succ, List.set_cons_zero]
      refine qC_take (i := 16) (s := some 56) (v := ?v22) rfl rfl (by kernel_rfl) (by kernel_rfl) (by kernel_rfl) (fun _ _ _ h => h) XD9.out (by kernel_rfl) ?hy22 ?h22
      case hy22 => intro W hW; have r3 := hW.rowB HR38.out HLT3.out; have e1 := r3.cell (j := 1) rfl; have e2 := r3.cell (j := 2) rfl; have j1 := HW1.out; have j2 := HW2.out; go_simp; exact rfl
      try simp only [Act.put, List.setIfInBounds_toArray, List.set_cons_succ, List.set_cons_zero]
      refine wpAnyC_two 5 13 (by kernel_rfl) ?_ ?_
      rotate_left
      · refine wpOpC_of rfl (by kernel_rfl) (fun KK hKK => ?_)
        go_simp
        refine hKK _ _ XD9.out ?_
        clear hKK KK
        try simp only [Act.put, List.setIfInBounds_toArray, List.set_cons_succ, List.set_cons_zero]
        refine qC_take (i := 17) (s := some 57) (v := .int .i64 ((max sg (B.segment + 1) : Nat) : Int)) rfl rfl (by kernel_rfl) (by kernel_rfl) (by kernel_rfl) (fun _ _ _ h => h) XD9.out (by kernel_rfl) ?_ ?_
        · intro W hW; exact exec_max rfl rfl rfl (by rw [hx2]) W
        try simp only [Act.put, List.setIfInBounds_toArray, List.set_cons_succ, List.set_cons_zero]
        refine wpAnyC_one 5 (by kernel_rfl) rfl (by kernel_rfl) (fun KK hKK => ?_)
        go_simp
        refine hKK _ _ XD9.out ?_
        clear hKK KK
        try simp only [Act.put, List.setIfInBounds_toArray, List.set_cons_succ, List.set_cons_zero]
        refine qC_take (i := 9) (s := some 49) (v := .int .i64 ((max nm (B.number + 1) : Nat) : Int)) rfl rfl (by kernel_rfl) (by kernel_rfl) (by kernel_rfl) (fun _ _ _ h => h) XD9.out (by kernel_rfl) ?_ ?_
        · intro W hW; exact exec_max rfl rfl rfl (by rw [hx1]) W
        try simp only [Act.put, List.setIfInBounds_toArray, List.set_cons_succ, List.set_cons_zero]
        refine qC_take (i := 18) (s := some 58) (v := ?v23) rfl rfl (by kernel_rfl) (by kernel_rfl) (by kernel_rfl) (fun _ _ _ h => h) XD9.out (by kernel_rfl) ?hy23 ?h23
        case hy23 => intro W hW; skip; go_simp; exact rfl
        try simp only [Act.put, List.setIfInBounds_toArray, List.set_cons_succ, List.set_cons_zero]
        refine qC_take (i := 19) (s := some 59) (v := ?v24) rfl rfl (by kernel_rfl) (by kernel_rfl) (by kernel_rfl) (fun _ _ _ h => h) XD9.out (by kernel_rfl) ?hy24 ?h24
        case hy24 => intro W hW; skip; go_simp; exact rfl
        try simp only [Act.put, List.setIfInBounds_toArray, List.set_cons_succ, List.set_cons_zero]
        have HM10 := Lib.hid (mod_set w9 l 3 (.int .i64 ((max nm (B.number + 1) : Nat) : Int)))
        have HR10 := Lib.hid (HL9.out.row.set 3 (.int .i64 ((max nm (B.number + 1) : Nat) : Int)) (by simp))
        refine wpAnyC_one 20 (by kernel_rfl) rfl (by kernel_rfl) (fun KK hKK => ?_)
        go_simp
        refine hKK _ _ (XD9.out.trans HM10.out) ?_
        clear hKK KK
        try simp only [Act.put, List.setIfInBounds_toArray, List.set_cons_succ, List.set_cons_zero]
        refine qC_take (i := 21) (s := some 60) (v := ?v25) rfl rfl (by kernel_rfl) (by kernel_rfl) (by kernel_rfl) (fun _ _ _ h => h) (XD9.out.trans HM10.out) (by kernel_rfl) ?hy25 ?h25
        case hy25 => intro W hW; skip; go_simp; exact rfl
        try simp only [Act.put, List.setIfInBounds_toArray, List.set_cons_succ, List.set_cons_zero]
        refine qC_take (i := 22) (s := some 61) (v := ?v26) rfl rfl (by kernel_rfl) (by kernel_rfl) (by kernel_rfl) (fun _ _ _ h => h) (XD9.out.trans HM10.out) (by kernel_rfl) ?hy26 ?h26
        case hy26 => intro W hW; skip; go_simp; exact rfl
        try simp only [Act.put, List.setIfInBounds_toArray, List.set_cons_succ, List.set_cons_zero]
        refine wpAnyC_one 23 (by kernel_rfl) rfl (by kernel_rfl) (fun KK hKK => ?_)
        go_simp
        have HM11 := Lib.hid (HM10.out.trans (mod_set (w9.setCell ⟨l, 3, none⟩ (.int .i64 ((max nm (B.number + 1) : Nat) : Int))) l 4 (.int .i64 ((max sg (B.segment + 1) : Nat) : Int))))
        have HR11 := Lib.hid (HR10.out.set 4 (.int .i64 ((max sg (B.segment + 1) : Nat) : Int)) (by simp))
        refine hKK _ _ (XD9.out.trans HM11.out) ?_
        clear hKK KK c3 c4 f3 f4
        try simp only [Act.put, List.setIfInBounds_toArray, List.set_cons_succ, List.set_cons_zero]
        refine ⟨by kernel_rfl, ?_⟩
        go_wp2_with fail
        refine ⟨⟨k + 1, by go_num, by omega, Lib.hid ?_⟩, by simp [intOf]; omega⟩
        have h9 := HL9.out.rec_ HM11.out HR11.out
        have hmm : Mod S w w9 := ((HM1.out.2.1.ext' (HXB.out.trans (XE.out.trans XA.out))).then HMS.out.1 (fun x hx => HM1.out.2.2 x hx)).ext' XE9.out
        have hst := HST.out
        rw [← HNS.out.1, ← HNS.out.2] at hst
        rw [← hst] at h9
        refine ⟨_, S2, ?_, h9, hmm.then HM11.out (fun x hx => .inl (by rw [show x = l from hx]; exact H.out.inS.1)), fun x hx => ?_⟩
        · exact HM1.out.1
        · rcases HMS.out.2 x hx with h8 | h8
          · exact HM1.out.2.2 x h8
          · exact .inr h8
      · refine wpOpC_of rfl (by kernel_rfl) (fun KK hKK => ?_)
        go_simp
        refine hKK _ _ XD9.out ?_
        clear hKK KK
        try simp only [Act.put, List.setIfInBounds_toArray, List.set_cons_succ, List.set_cons_zero]
        refine qC_take (i := 9) (s := some 49) (v := .int .i64 ((max nm (B.number + 1) : Nat) : Int)) rfl rfl (by kernel_rfl) (by kernel_rfl) (by kernel_rfl) (fun _ _ _ h => h) XD9.out (by kernel_rfl) ?_ ?_
        · intro W hW; exact exec_max rfl rfl rfl (by rw [hx1]) W
        try simp only [Act.put, List.setIfInBounds_toArray, List.set_cons_succ, List.set_cons_zero]
        refine wpAnyC_one 13 (by kernel_rfl) rfl (by kernel_rfl) (fun KK hKK => ?_)
        go_simp
        refine hKK _ _ XD9.out ?_
        clear hKK KK
        try simp only [Act.put, List.setIfInBounds_toArray, List.set_cons_succ, List.set_cons_zero]
        refine qC_take (i := 17) (s := some 57) (v := .int .i64 ((max sg (B.segment + 1) : Nat) : Int)) rfl rfl (by kernel_rfl) (by kernel_rfl) (by kernel_rfl) (fun _ _ _ h => h) XD9.out (by kernel_rfl) ?_ ?_
        · intro W hW; exact exec_max rfl rfl rfl (by rw [hx2]) W
        try simp only [Act.put, List.setIfInBounds_toArray, List.set_cons_succ, List.set_cons_zero]
        refine qC_take (i := 18) (s := some 58) (v := ?v27) rfl rfl (by kernel_rfl) (by kernel_rfl) (by kernel_rfl) (fun _ _ _ h => h) XD9.out (by kernel_rfl) ?hy27 ?h27
        case hy27 => intro W hW; skip; go_simp; exact rfl
        try simp only [Act.put, List.setIfInBounds_toArray, List.set_cons_succ, List.set_cons_zero]
        refine qC_take (i := 19) (s := some 59) (v := ?v28) rfl rfl (by kernel_rfl) (by kernel_rfl) (by kernel_rfl) (fun _ _ _ h => h) XD9.out (by kernel_rfl) ?hy28 ?h28
        case hy28 => intro W hW; skip; go_simp; exact rfl
        try simp only [Act.put, List.setIfInBounds_toArray, List.set_cons_succ, List.set_cons_zero]
        have HM10 := Lib.hid (mod_set w9 l 3 (.int .i64 ((max nm (B.number + 1) : Nat) : Int)))
        have HR10 := Lib.hid (HL9.out.row.set 3 (.int .i64 ((max nm (B.number + 1) : Nat) : Int)) (by simp))
        refine wpAnyC_one 20 (by kernel_rfl) rfl (by kernel_rfl) (fun KK hKK => ?_)
        go_simp
        refine hKK _ _ (XD9.out.trans HM10.out) ?_
        clear hKK KK
        try simp only [Act.put, List.setIfInBounds_toArray, List.set_cons_succ, List.set_cons_zero]
        refine qC_take (i := 21) (s := some 60) (v := ?v29) rfl rfl (by kernel_rfl) (by kernel_rfl) (by kernel_rfl) (fun _ _ _ h => h) (XD9.out.trans HM10.out) (by kernel_rfl) ?hy29 ?h29
        case hy29 => intro W hW; skip; go_simp; exact rfl
        try simp only [Act.put, List.setIfInBounds_toArray, List.set_cons_succ, List.set_cons_zero]
        refine qC_take (i := 22) (s := some 61) (v := ?v30) rfl rfl (by kernel_rfl) (by kernel_rfl) (by kernel_rfl) (fun _ _ _ h => h) (XD9.out.trans HM10.out) (by kernel_rfl) ?hy30 ?h30
        case hy30 => intro W hW; skip; go_simp; exact rfl
        try simp only [Act.put, List.setIfInBounds_toArray, List.set_cons_succ, List.set_cons_zero]
        refine wpAnyC_one 23 (by kernel_rfl) rfl (by kernel_rfl) (fun KK hKK => ?_)
        go_simp
        have HM11 := Lib.hid (HM10.out.trans (mod_set (w9.setCell ⟨l, 3, none⟩ (.int .i64 ((max nm (B.number + 1) : Nat) : Int))) l 4 (.int .i64 ((max sg (B.segment + 1) : Nat) : Int))))
        have HR11 := Lib.hid (HR10.out.set 4 (.int .i64 ((max sg (B.segment + 1) : Nat) : Int)) (by simp))
        refine hKK _ _ (XD9.out.trans HM11.out) ?_
        clear hKK KK c3 c4 f3 f4
        try simp only [Act.put, List.setIfInBounds_toArray, List.set_cons_succ, List.set_cons_zero]
        refine ⟨by kernel_rfl, ?_⟩
        go_wp2_with fail
        refine ⟨⟨k + 1, by go_num, by omega, Lib.hid ?_⟩, by simp [intOf]; omega⟩
        have h9 := HL9.out.rec_ HM11.out HR11.out
        have hmm : Mod S w w9 := ((HM1.out.2.1.ext' (HXB.out.trans (XE.out.trans XA.out))).then HMS.out.1 (fun x hx => HM1.out.2.2 x hx)).ext' XE9.out
        have hst := HST.out
        rw [← HNS.out.1, ← HNS.out.2] at hst
        rw [← hst] at h9
        refine ⟨_, S2, ?_, h9, hmm.then HM11.out (fun x hx => .inl (by rw [show x = l from hx]; exact H.out.inS.1)), fun x hx => ?_⟩
        · exact HM1.out.1
        · rcases HMS.out.2 x hx with h8 | h8
          · exact HM1.out.2.2 x h8
          · exact .inr h8
    · have hki : (n : Int) ≤ (k : Int) := by omega
      obtain rfl : n = k := by omega
      go_wp2_with fail
      go_end0
      rw [loadF_eq, ← HN.out]
      exact ⟨rfl, hL.out⟩
end Go.Proofs.Ytepigkjgjlibcaa
namespace Go.Proofs.Ytepigkjgjlibcaa
open Go.RowKit Go.Deep Go.Proofs.Ytepigkjgjlibcaa.FL
set_option maxRecDepth 100000
theorem chop_fuel (n : Nat) (hn : 1 ≤ n) : ∀ f g b, b.length ≤ f → b.length ≤ g → chop n f b = chop n g b := by
  intro f
  induction f with
  | zero =>
    intro g b hf hg
    obtain rfl : b = [] := List.eq_nil_of_length_eq_zero (by omega)
    cases g with
    | zero => rfl
    | succ g => unfold chop; rw [if_pos rfl]
  | succ f ih =>
    intro g b hf hg
    cases g with
    | zero =>
      obtain rfl : b = [] := List.eq_nil_of_length_eq_zero (by omega)
      unfold chop
      rw [if_pos rfl]
    | succ g =>
      unfold chop
      by_cases hb : b = []
      · rw [if_pos hb, if_pos hb]
      · rw [if_neg hb, if_neg hb]
        have := List.length_pos_iff.2 hb
        rw [ih g (b.drop n) (by rw [List.length_drop]; omega) (by rw [List.length_drop]; omega)]
theorem chop_step {n : Nat} (hn : 1 ≤ n) {b : Bs} (hb : b ≠ []) : chop n b.length b = b.take n :: chop n (b.drop n).length (b.drop n) := by
  have := List.length_pos_iff.2 hb
  rw [chop_fuel n hn b.length (b.length - 1 + 1) b (Nat.le_refl _) (by omega)]
  conv => lhs; unfold chop
  rw [if_neg hb, chop_fuel n hn (b.length - 1) (b.drop n).length (b.drop n) (by rw [List.length_drop]; omega) (Nat.le_refl _)]
theorem chop_nil (n : Nat) : chop n ([] : Bs).length [] = [] := rfl
/-- a slice of byte slices -/
def PtsAt (w : World) (B : Nat) (v : Value) (ps : List Bs) : Prop := ∃ vs : List Value, vs.length = ps.length ∧ w.ownsRow B 42 1 v ps.length vs ∧ ∀ (i : Nat) (u : Value) (p : Bs), vs[i]? = some u → ps[i]? = some p → BS w u p
theorem PtsAt.nil (w : World) (B : Nat) : PtsAt w B (.slice none 0 0) [] := ⟨[], rfl, World.ownsRow_nil _ _ _ _, fun i u p h => by simp at h⟩
theorem PtsAt.ext {w w' : World} {B : Nat} {v : Value} {ps : List Bs} (h : PtsAt w B v ps) (hx : Ext w w') : PtsAt w' B v ps := by
  obtain ⟨vs, h1, h2, h3⟩ := h
  exact ⟨vs, h1, own_mod h2 (Mod.of_ext (fun _ => False) hx) (fun _ _ h => h), fun i u p hu hp => (h3 i u p hu hp).ext hx⟩
theorem PtsAt.mod {w w' : World} {F : Nat → Prop} {B : Nat} {v : Value} {ps : List Bs} (h : PtsAt w B v ps) (hm : Mod F w w') (h8 : No8 w F) (hF : ∀ x, v.ownBlock = some x → ¬ F x) : PtsAt w' B v ps := by
  obtain ⟨vs, h1, h2, h3⟩ := h
  exact ⟨vs, h1, own_mod h2 hm hF, fun i u p hu hp => (h3 i u p hu hp).mod hm h8⟩
theorem PtsAt.slice {w : World} {B : Nat} {v : Value} {ps : List Bs} (h : PtsAt w B v ps) : ∃ A c, v = .slice A ps.length c := by obtain ⟨vs, -, h2, -⟩ := h; exact own_slice h2
theorem PtsAt.at_ {w : World} {B : Nat} {v : Value} {ps : List Bs} (h : PtsAt w B v ps) {i : Nat} {p : Bs} (hp : ps[i]? = some p) : ∃ g c A cp, v = .slice (some ⟨g, 0, none⟩) ps.length c ∧ w.cell? ⟨g, i, none⟩ = some (.slice A p.length cp) ∧ BS w (.slice A p.length cp) p := by
  obtain ⟨vs, h1, h2, h3⟩ := h
  have hi := (List.getElem?_eq_some_iff.1 hp).1
  obtain ⟨g, c, rfl⟩ := own_addr h2 (by omega)
  obtain ⟨u, hu⟩ : ∃ u, vs[i]? = some u := ⟨_, List.getElem?_eq_getElem (by rw [h1]; exact hi)⟩
  have hb := h3 i u p hu hp
  obtain ⟨A, cp, rfl, -, -⟩ := hb.slice
  exact ⟨g, c, A, cp, rfl, (own_row h2).1.cell hu, hb⟩
theorem wpList_append_pt (w : World) {ops : Array Oper} {rest : List Oper} {o : Oper} {a : Act} {Q : Exit → Act → World → Prop} (hg : o.guard = none) (s x : Operand)
    (ho : o.op = .call { callee := .builtin .append, args := #[s, x], argTypes := #[52, 52] }) (B : Nat) {v : Value} {ps : List Bs} (p : Bs) {A : Option Addr} {n c : Nat} (hown : PtsAt w B v ps) (hu : BS w (.slice A n c) p) (hs : a.eval s = v)
    (hx : a.eval x = .slice (some ⟨w.heap.size, 0, none⟩) 1 1) (hlen : ps.length ≤ 1000000) (hB : B ≤ w.heap.size)
    (h : ∀ v' w', PtsAt w' B v' (ps ++ [p]) → Mod (fun y => v.ownBlock = some y) w w' → (No8 w fun y => v.ownBlock = some y) → wpList Try.prog ops Q rest (a.put o.dst v') w') :
    wpList Try.prog ops Q (o :: rest) a (w.alloc (.cells #[.slice A n c] 42)) := by
  obtain ⟨i0, hi0, hz0, hz1, hz2⟩ := info_parts bytes_info23
  have XA := (Ext.refl w).alloc (.cells #[.slice A n c] 42)
  have h8 : ∀ {W : World} {vs : List Value}, W.ownsRow B 42 1 v ps.length vs → No8 W fun y => v.ownBlock = some y := fun {W vs} h2 g C fr hg hS => by
    rcases h2.2 with ⟨e2, -⟩ | ⟨g', cap, cur, e2, -, hg', -⟩
    · rw [e2] at hS; cases hS
    · rw [e2] at hS
      cases hS
      rw [hg] at hg'
      simp at hg'
  obtain ⟨vs, h1, h2, h3⟩ := hown.ext XA
  obtain ⟨vs0, -, h20, -⟩ := hown
  have hu' := hu
  have hrd := reads_laid w 42 [.slice A n c] 1 1 rfl
  refine wpList_append_any _ hg s x 52 ho B 42 i0 _ 1 24 Try.underlying52 hi0 hz0 hz1 hz2 rfl (by decide) v ps.length vs hs h2 _ (some ⟨w.heap.size, 0, none⟩) 1 1 _ hx hrd (by simp [Value.oneCell']) (by simp only [maxLen]; omega) (by omega) (Nat.le_trans hB XA.size) ?_
  intro v' w' ho' hg' hb'
  refine h v' w' ⟨vs ++ [.slice A n c], by simp [h1], by rw [List.length_append]; exact ho', fun i u q hu hq => ?_⟩ ((Mod.of_ext _ XA).trans (grown_mod hg')) (h8 h20)
  by_cases hi : i < vs.length
  · rw [List.getElem?_append_left hi] at hu
    rw [List.getElem?_append_left (by omega)] at hq
    exact (h3 i u q hu hq).mod (grown_mod hg') (h8 h2)
  · have hil := (List.getElem?_eq_some_iff.1 hu).1
    rw [List.length_append, List.length_singleton] at hil
    obtain rfl : i = vs.length := by omega
    rw [List.getElem?_append_right (Nat.le_refl _), Nat.sub_self] at hu
    rw [List.getElem?_append_right (by omega), h1, Nat.sub_self] at hq
    cases hu
    cases hq
    exact (BS.ext hu' XA).mod (grown_mod hg') (h8 h2)
def lenOf : Value → Nat
  | .slice _ n _ => n
  | _ => 0
/-- what the loop of parts keeps -/
def PartsInv (w wr : World) (l : Bs) (v3 v4 : Value) : Prop := ∃ ps r g o c, v3 = .slice (some ⟨g, o, none⟩) r.length c ∧ r.length ≤ c ∧ BS wr v3 r ∧ PtsAt wr w.heap.size v4 ps ∧ Ext w wr ∧ chop 480 l.length l = ps ++ chop 480 r.length r ∧ ps.length + r.length ≤ l.length
set_option maxHeartbeats 4000000 in
theorem parts_any {w : World} {v : Value} {key value : Bs} (hv : BS w v value) (hz : key.length + value.length ≤ 100000) (k0 n0 s0 p0 : Int) :
    Calls Try.prog 42 #[.agg #[.int .i64 k0, .int .i64 n0, .int .i64 s0, .int .i64 p0, .string (st key), v]] w fun e w' => ∃ u, e = .returned u ∧ Ext w w' ∧ PtsAt w' w.heap.size u (partsF key value) := by
  obtain ⟨A, c, rfl, -, -⟩ := hv.slice
  obtain ⟨w1, hw1⟩ : ∃ z, z = w.alloc (.cells #[.int .i64 k0, .int .i64 n0, .int .i64 s0, .int .i64 p0, .string (st key), .slice A value.length c] 90) := ⟨_, rfl⟩
  have HX1 := Lib.hid (show Ext w w1 by rw [hw1]; exact (Ext.refl w).alloc _)
  have HR1 : Hid (RowB w1 w.heap.size 90 [.int .i64 k0, .int .i64 n0, .int .i64 s0, .int .i64 p0, .string (st key), .slice A value.length c]) := Lib.hid (by rw [hw1]; exact row_laid w _ _)
  have HV := Lib.hid hv
  have HAT := Lib.hid (apptext_any (BS.nil w1) key (by simp; omega))
  have HNF := Lib.hid (numF_len key.length (by omega))
  have HZ := Lib.hid hz
  have HNP := Lib.hid (numF_pos key.length)
  have e4 := HR1.out.cell (j := 4) rfl
  clear hv hz
  go_enter Try.func42, Try.ntmps42
  go_upto_region 1 with fail
  rw [← hw1]
  clear hw1
  go_wp2_with (first
    | (at_builtin; refine wpList_append_obx (w0 := w) _ rfl (.tmp 9) (.tmp 11) 42 Try.underlying42 rfl v1 (numF key.length ++ key) rfl HX2.out HO2.out _ _ _ value rfl (HV.out.ext HX2.out) (by have := HZ.out; have := HNF.out; rw [List.length_append]; omega) ?_; intro v3 w3 HO3 HX3 _)
    | (go_at_call 63; refine HAT.out.mono ?_; rintro e w2 ⟨v1, rfl, hx2, ho2⟩; have HX2 := Lib.hid (HX1.out.trans hx2); have HO2 := Lib.hid (show OB w2 w.heap.size v1 (numF key.length ++ key) from OB.any ho2 HX1.out.size); have e5 := (HR1.out.ext hx2).cell (j := 5) rfl; clear hx2 ho2))
  obtain ⟨g3, c3, rfl⟩ := own_addr HO3.out (by have := HNP.out; simp only [List.length_append]; omega)
  obtain ⟨l, hl⟩ : ∃ z, z = numF key.length ++ key ++ value := ⟨_, rfl⟩
  rw [← hl] at HO3
  rw [← hl]
  have HLE := Lib.hid (show partsF key value = chop 480 l.length l by unfold partsF; rw [hl, List.append_assoc])
  have HI0 : Hid (PartsInv w w3 l (.slice (some ⟨g3, 0, none⟩) l.length c3) (.slice none 0 0)) := Lib.hid ⟨[], l, g3, 0, c3, rfl, (BS.len HO3.out.bs).2, HO3.out.bs, PtsAt.nil _ _, HX3.out, rfl, by simp⟩
  have HLL := Lib.hid (show l.length ≤ 200000 by rw [hl]; have := HNF.out; have := HZ.out; simp only [List.length_append]; omega)
  clear hl HO3 e4 e5
  go_loopw [3, 4] (fun v3 v4 wr => Hid (PartsInv w wr l v3 v4)) (fun v3 _ _ => lenOf v3)
  case atStart => exact HI0
  case round =>
    clear HI0
    obtain ⟨ps, r, g, o, c, rfl, hrc, hbs, hpt, hx, he, hln⟩ := hrel.out
    have HRC := Lib.hid hrc
    have HBS := Lib.hid hbs
    have HP := Lib.hid hpt
    have HX := Lib.hid hx
    have HE := Lib.hid he
    have HLN := Lib.hid hln
    have hrl : r.length ≤ 200000 := by have := HLL.out; omega
    obtain ⟨A4, c4, rfl⟩ := hpt.slice
    clear hrel hbs hpt hx he hln
    by_cases hr0 : r = []
    · subst hr0
      have HF := Lib.hid (show partsF key value = ps by rw [HLE.out, HE.out, chop_nil, List.append_nil])
      go_wp2_with fail
      go_ret
      rw [HF.out]
      exact ⟨_, rfl, HX.out, HP.out⟩
    · obtain ⟨n, hn⟩ : ∃ z, z = min r.length 480 := ⟨_, rfl⟩
      have hrp : 0 < r.length := List.length_pos_iff.2 hr0
      have hmn : min (r.length : Int) 480 = (n : Int) := by omega
      have hn1 : n ≤ r.length := by omega
      have hn0 : 0 < n := by omega
      have HTN := Lib.hid (show chop 480 r.length r = r.take n :: chop 480 (r.drop n).length (r.drop n) ∧ True by
        refine ⟨?_, trivial⟩
        rw [chop_step (by decide) hr0]
        by_cases h9 : r.length ≤ 480
        · rw [List.take_of_length_le h9, List.take_of_length_le (by omega : r.length ≤ n), List.drop_of_length_le h9, List.drop_of_length_le (by omega : r.length ≤ n)]
        · rw [show n = 480 by omega])
      have HTK := Lib.hid (BS.take HBS.out n hn1)
      have HDR := Lib.hid (BS.drop2 HBS.out n hn1)
      have HPL := Lib.hid (show ps.length ≤ 1000000 by have := HLN.out; have := HLL.out; omega)
      have HSZ := Lib.hid (show w.heap.size ≤ wr.heap.size from HX.out.size)
      have HPB := Lib.hid (show ∀ y, (Value.slice A4 ps.length c4).ownBlock = some y → w.heap.size ≤ y by
        obtain ⟨vs, -, h2, -⟩ := HP.out
        exact nums_base h2)
      have hri : (0 : Int) < (r.length : Int) := by omega
      have hnc : (n : Int) ≤ (c : Int) := by omega
      have hnr : (n : Int) ≤ (r.length : Int) := by omega
      clear hn hr0
      by_cases hcn : c = n
      · obtain rfl : n = c := hcn.symm
        have HCN := Lib.hid (rfl : n = n)
        clear hcn
        go_wp2_with (at_builtin; refine wpList_append_pt wr rfl (.tmp 19) (.tmp 23) rfl w.heap.size (r.take n) HP.out HTK.out rfl rfl HPL.out HSZ.out ?_; intro v6 w6 hp6 hm6 h86; have HP6 := Lib.hid hp6; have HM6 := Lib.hid hm6; have H86 := Lib.hid h86; clear hp6 hm6 h86)
        have HX6 := Lib.hid (show Ext w w6 from ((Mod.of_ext (fun _ => False) HX.out).then HM6.out (fun y hy => .inr (HPB.out y hy))).ext (fun _ h => h.elim))
        refine ⟨Lib.hid ⟨ps ++ [r.take n], r.drop n, g, o, 0, ?_, by rw [List.length_drop]; have := HRC.out; omega, ?_, HP6.out, HX6.out, ?_, ?_⟩, ?_⟩
        · rw [List.length_drop, show r.length - n = 0 by have := HRC.out; omega]
        · have h9 := (HDR.out).mod HM6.out H86.out
          rw [if_pos rfl, show r.length - n = 0 by have := HRC.out; omega] at h9
          simpa using h9
        · rw [HE.out, HTN.out.1, List.append_assoc]
          rfl
        · rw [List.length_append, List.length_singleton, List.length_drop]
          have := HLN.out
          omega
        · simp only [lenOf]
          omega
      · have HCN := Lib.hid hcn
        go_wp2_with (at_builtin; refine wpList_append_pt wr rfl (.tmp 19) (.tmp 23) rfl w.heap.size (r.take n) HP.out HTK.out rfl rfl HPL.out HSZ.out ?_; intro v6 w6 hp6 hm6 h86; have HP6 := Lib.hid hp6; have HM6 := Lib.hid hm6; have H86 := Lib.hid h86; clear hp6 hm6 h86)
        have HX6 := Lib.hid (show Ext w w6 from ((Mod.of_ext (fun _ => False) HX.out).then HM6.out (fun y hy => .inr (HPB.out y hy))).ext (fun _ h => h.elim))
        refine ⟨Lib.hid ⟨ps ++ [r.take n], r.drop n, g, o + n, c - n, by rw [List.length_drop], by rw [List.length_drop]; have := HRC.out; omega, ?_, HP6.out, HX6.out, ?_, ?_⟩, ?_⟩
        · have h9 := (HDR.out).mod HM6.out H86.out
          have hcn := HCN.out
          rw [if_neg hcn] at h9
          exact h9
        · rw [HE.out, HTN.out.1, List.append_assoc]
          rfl
        · rw [List.length_append, List.length_singleton, List.length_drop]
          have := HLN.out
          omega
        · simp only [lenOf]
          omega
end Go.Proofs.Ytepigkjgjlibcaa
