/- 'append(b, make([]byte, m)...)' onto a byte slice of the call's own. Chapter 23: package flashlog: an entry more in a block; the bytes of a page. Chapter 23: package flashlog: program. -/
import Derived.Test.YtepigkjgjlibcaaGAL
namespace Go.Proofs.Ytepigkjgjlibcaa
open Go.RowKit Go.Deep Go.Proofs.Ytepigkjgjlibcaa.FL
set_option maxRecDepth 100000
theorem zeros8 (m : Nat) : (Builtin.zeroCells #[Value.int .u8 0] m).toList = by8 (List.replicate m 0) := by
  apply List.ext_getElem?
  intro j
  unfold Builtin.zeroCells by8
  by_cases hj : j < m
  · simp [hj, Nat.mod_one]
  · simp [hj]
theorem run_append_zeros8 (w : World) (B : Nat) (ty : TypeId) (g cap : Nat) (l : Bs) (hown : OB w B (.slice (some ⟨g, 0, none⟩) l.length cap) l) (m : Nat) (hm : m ≠ 0) (hz : l.length + m ≤ 1000000) (hB : B ≤ w.heap.size) :
    ∃ v' w', (Builtin.append_ #[42, 3] ty #[.slice (some ⟨g, 0, none⟩) l.length cap, .int .i64 m]).run Try.prog w = .ok v' w' ∧ OB w' B v' (l ++ List.replicate m 0) ∧ w.grownBy w' (some g) := by
  obtain ⟨i, hi, hz0, hz1, hz2⟩ := info_parts u8_info23
  have hti : Try.prog.underlying 3 = some (.int .i64) := by kernel_rfl
  have ht : Try.prog.underlying 42 = some (.slice 5) := Try.underlying42
  have hwr : IntKind.i64.wrap (m : Int) = (m : Int) := IntWalk.i64_in _ (by omega)
  have hm0 : ¬ (m : Int) < 0 := by omega
  have hm48 : ¬ (281474976710656 : Int) < (m : Int) := by omega
  rcases hown.2 with ⟨e2, -⟩ | ⟨g', cap', cur, e2, hb, hg, hn, hc, hs, htk⟩
  · cases e2
  · cases e2
    have hlen : (by8 (l ++ List.replicate m 0)).length = (l ++ List.replicate m 0).length * 1 := by rw [by8_length, Nat.mul_one]
    have hll : (by8 l).length = l.length := by8_length l
    have hlm : (by8 (List.replicate m 0)).length = m := by rw [by8_length, List.length_replicate]
    rw [Nat.mul_one] at htk hs
    by_cases hroom : l.length + m ≤ cap
    · have hst := run_storeCells_at Try.prog g l.length 5 (by8 (List.replicate m 0)) 0 cur w hg (by rw [hlm, hs]; omega) by8_one
      simp only [Nat.add_zero] at hst
      refine ⟨.slice (some ⟨g, 0, none⟩) (l.length + m) cap, w.setRow g (cur.toList.take l.length ++ by8 (List.replicate m 0) ++ cur.toList.drop (l.length + (by8 (List.replicate m 0)).length)).toArray, ?_, ⟨hlen, .inr ⟨g, cap, _, by rw [List.length_append, List.length_replicate], hb, setRow_heap w g cur _ 5 _ hg, by rw [List.length_append, List.length_replicate]; exact hroom, hc, ?_, ?_⟩⟩, ⟨rfl, rfl, rfl, by simp, fun k _ hk => setRow_other w g k _ (fun e => hk (by simp [e]))⟩⟩
      · have hai : ∀ W, (asInt (.int .i64 (m : Int))).run Try.prog W = .ok (m : Int) W := fun W => rfl
        have hst2 := hst
        rw [← zeros8] at hst2
        simp [Builtin.append_, run_underlying ht, run_underlying hti, sizeOf, typeInfo, zeroValue, hi, hz0, hz1, hz2, hwr, hroom, hai, hm0, hm48, hm, Addr.add_lit]
        rw [show (Value.int .u8 0).cells = #[Value.int .u8 0] from rfl, hst2]
        simp [zeros8]
      · simp only [List.size_toArray, List.length_append, List.length_take, List.length_drop, Array.length_toList]
        omega
      · rw [htk, Nat.mul_one, by8_append, List.length_append, List.length_replicate, show l.length + m = (by8 l ++ by8 (List.replicate m 0)).length by simp]
        exact List.take_left
    · have hn' : ¬ (l.length + m ≤ cap) := hroom
      have h63' : ¬ (9223372036854775807 < ((l.length : Int) + (m : Int))) := by omega
      have hgf := growslice_fits (need := l.length + m) (old := cap) (bytes := 1) (by omega) (by omega)
      have h48' : ¬ (281474976710656 < Builtin.nextslicecap (l.length + m) cap) := by omega
      have holds : ∀ j u, (by8 l)[j]? = some u → w.drew.cell? ((⟨g, 0, none⟩ : Addr).add j) = some u := fun j u hu => hown.cells (g := g) rfl j u hu
      have hfo := run_firstCells_some (P := Try.prog) w.drew 1 l.length ⟨g, 0, none⟩ l.length cap (by8 l) (by simp) holds
      have hai : ∀ W, (asInt (.int .i64 (m : Int))).run Try.prog W = .ok (m : Int) W := fun W => rfl
      refine ⟨.slice (some ⟨w.heap.size, 0, none⟩) (l.length + m) (grownCap w (l.length + m) cap 5), w.drew.alloc (.cells ((by8 l).toArray ++ Builtin.zeroCells #[Value.int .u8 0] m ++ Builtin.zeroCells #[Value.int .u8 0] (grownCap w (l.length + m) cap 5 - (l.length + m))) 5), ?_, ?_, ?_⟩
      · simp [Builtin.append_, run_underlying ht, run_underlying hti, sizeOf, typeInfo, zeroValue, hi, hz0, hz1, hz2, hwr, hn', hai, hm0, hm48, hm, h63', h48', Question.forced, hfo, newRow, grownCap]
        rfl
      · have hge := grownCap_ge w (l.length + m) cap 5
        refine ⟨hlen, .inr ⟨w.heap.size, grownCap w (l.length + m) cap 5, _, by rw [List.length_append, List.length_replicate], hB, heap_alloc_new w.drew _, by rw [List.length_append, List.length_replicate]; exact hge, grownCap_le_maxLen w _ _ _ (by simp only [maxLen]; omega), ?_, ?_⟩⟩
        · simp only [Array.size_append, List.size_toArray, size_zeroCells, by8_length]
          simp only [List.length_cons, List.length_nil]
          omega
        · simp only [Array.toList_append, zeros8]
          rw [by8_append, List.length_append, List.length_replicate, show (l.length + m) * 1 = (by8 l ++ by8 (List.replicate m 0)).length by simp]
          exact List.take_left
      · exact ⟨rfl, rfl, rfl, by simp, fun k hk hn => (World.grownBy_alloc w.drew _ (some g)).block k hk hn⟩
/-- 'append(b, make([]byte, m)...)' -/
theorem wpList_append_zeros {w0 : World} (w : World) {ops : Array Oper} {rest : List Oper} {o : Oper} {a : Act} {Q : Exit → Act → World → Prop} (hgd : o.guard = none) (s x : Operand)
    (ho : o.op = .call { callee := .builtin .append, args := #[s, x], argTypes := #[42, 3] }) (v : Value) (l : Bs) (hs : a.eval s = v) (hX : Ext w0 w) (hown : OB w w0.heap.size v l) (hl : l ≠ [])
    (m : Nat) (hx : a.eval x = .int .i64 m) (hm : m ≠ 0) (hz : l.length + m ≤ 1000000)
    (h : ∀ v' w', Hid (OB w' w0.heap.size v' (l ++ List.replicate m 0)) → Hid (Ext w0 w') → wpList Try.prog ops Q rest (a.put o.dst v') w') : wpList Try.prog ops Q (o :: rest) a w := by
  obtain ⟨g, c, rfl⟩ := own_addr hown (List.length_pos_iff.2 hl)
  obtain ⟨v', w', hrun, h2, h3⟩ := run_append_zeros8 w w0.heap.size o.type g c l hown m hm hz hX.size
  refine wpList_plain hgd fun _ hK => ?_
  unfold Oper.wp execOp
  simp only [ho, resolve, invoke, builtin, Sem.run_bind, Sem.run_pure, Result.andThen_ok, List.map_toArray, List.map_cons, List.map_nil, hs, hx, hrun]
  exact hK _ _ (h v' w' (Lib.hid h2) (Lib.hid (Below.grown hX h3 hX.size (fun k hk => by cases hk; exact hown.own_ge g rfl))))
end Go.Proofs.Ytepigkjgjlibcaa
namespace Go.Proofs.Ytepigkjgjlibcaa
open Go.RowKit Go.Deep Go.Proofs.Ytepigkjgjlibcaa.FL
set_option maxRecDepth 100000
theorem LogAtF.pushE {w w6 : World} {S SD : Nat → Prop} {l : Nat} {F : LogF} {G : DevF} {L : Log} (h : LogAtF w S l F SD G L) {g c : Nat} (hbv : F.bv = .slice (some ⟨g, 0, none⟩) L.blocks.length c) {i : Nat} {b : LB} (hb : L.blocks[i]? = some b) {u : Value} (hu : F.es[i]? = some u)
    (hm : Mod (fun x => u.ownBlock = some x) w w6) {v6 : Value} {x : Ent} (he : EntsAt w6 0 v6 (b.entries ++ [x])) (hv : ∀ y, v6.ownBlock = some y → u.ownBlock = some y ∨ w.heap.size ≤ y) :
    ∃ S', LogAtF (w6.setCell ⟨g, i * 4 + 3, none⟩ v6) S' l { F with es := F.es.set i v6 } SD G { L with blocks := L.blocks.set i { b with entries := b.entries ++ [x] } } ∧ Mod S w (w6.setCell ⟨g, i * 4 + 3, none⟩ v6) ∧ ∀ y, S' y → S y ∨ w.heap.size ≤ y := by
  have hi := (List.getElem?_eq_some_iff.1 hb).1
  have hut := h.blks.estype (List.mem_of_getElem? hu)
  have h8u : No8 w (fun x => u.ownBlock = some x) := hut.no8 (by decide)
  have hb0 := h.blks
  rw [hbv] at hb0
  have hr := (own_row hb0.own).1
  have hgt := typed_row hr
  have hlg : l ≠ g := h.row.apart hr (by decide)
  have hul : ¬ u.ownBlock = some l := fun e => (hut.disj (typed_row h.row) (by decide)) l e rfl
  have hug : ∀ y, u.ownBlock = some y → y ≠ g := fun y e e2 => (hut.disj hgt (by decide)) y e e2
  have hrow6 := hm.rowB h.row hul
  have hd6 := h.dev.mod hm h8u (fun y hy e => (hut.disj h.dev.ty (by decide)) y e hy)
  have hown6 : w6.ownsRow 0 85 4 (.slice (some ⟨g, 0, none⟩) L.blocks.length c) L.blocks.length ((L.blocks.zip F.es).flatMap lbCells) := own_mod hb0.own hm (fun y hy e => by cases hy; exact hug g e rfl)
  have hr6 := (own_row hown6).1
  have hmg : Mod (fun y => y = g) w6 (w6.setCell ⟨g, i * 4 + 3, none⟩ v6) := mod_set w6 g _ v6
  have h8g : No8 w6 (fun y => y = g) := no8_row hr6 (by decide)
  have hgS : S g := h.inS.2.1 g (by rw [hbv]; rfl)
  have hset := own_set hown6 (i * 4 + 3) v6 (by rw [flat_len lbCells 4 lbCells_len, List.length_zip, h.blks.len, Nat.min_self]; omega)
  have hus : ∀ y, u.ownBlock = some y → S y := fun y hy => h.inS.2.2.1 u (List.mem_of_getElem? hu) y hy
  refine ⟨fun y => (S y ∧ u.ownBlock ≠ some y) ∨ v6.ownBlock = some y, ⟨hmg.rowB hrow6 hlg, hd6.mod hmg h8g (fun y hy e => (h.dev.ty.apart hr (by decide)) (e ▸ hy)), ⟨by simp [h.blks.len], ?_, fun j d y hd hy => ?_, fun j k y z t hjk hy hz hyt hzt => ?_⟩, ⟨.inl ⟨h.inS.1, hul⟩, fun y hy => .inl ⟨h.inS.2.1 y hy, fun e => hug y e (by rw [hbv] at hy; cases hy; rfl)⟩, fun y hy t ht => ?_, fun y hy => .inl ⟨h.inS.2.2.2 y hy, fun e => (hut.disj h.dev.ty (by decide)) y e hy⟩⟩, fun y hy => ?_⟩, (hm.mono (fun y _ hy => hus y hy)).then hmg (fun y hy => .inl (by rw [show y = g from hy]; exact hgS)), fun y hy => ?_⟩
  · rw [flat_set lbCells 4 lbCells_len (L.blocks.zip F.es) i 3 (by decide) v6 (b, u) ({ b with entries := b.entries ++ [x] }, v6) (zip_some hb hu) rfl] at hset
    simp only [List.length_set]
    rw [hbv, ← zip_set2] at *
    exact hset
  · by_cases hji : j = i
    · subst hji
      rw [List.getElem?_set_self hi] at hd
      rw [List.getElem?_set_self (List.getElem?_eq_some_iff.1 hu).1] at hy
      cases hd
      cases hy
      exact he.mod hmg h8g (fun y hy e => he.apart hr6 (by decide) (by rw [hy, show y = g from e]))
    · rw [List.getElem?_set_ne (Ne.symm hji)] at hd hy
      have h1 := (h.blks.ents j d y hd hy).mod hm h8u (fun t ht e => h.blks.apart j i y u t hji hy hu ht e)
      exact h1.mod hmg h8g (fun t ht e => h1.apart hr6 (by decide) (by rw [ht, show t = g from e]))
  · have old : ∀ (j : Nat) (y : Value), j ≠ i → F.es[j]? = some y → ∀ t, y.ownBlock = some t → v6.ownBlock ≠ some t := fun j y hji hy t ht e => by
      rcases hv t e with h1 | h1
      · exact h.blks.apart j i y u t hji hy hu ht h1
      · have := Typed.lt h.ty (h.inS.2.2.1 y (List.mem_of_getElem? hy) t ht)
        omega
    by_cases hji : j = i
    · subst hji
      rw [List.getElem?_set_self (List.getElem?_eq_some_iff.1 hu).1] at hy
      rw [List.getElem?_set_ne hjk] at hz
      cases hy
      exact old k z (Ne.symm hjk) hz t hzt hyt
    · rw [List.getElem?_set_ne (Ne.symm hji)] at hy
      by_cases hki : k = i
      · subst hki
        rw [List.getElem?_set_self (List.getElem?_eq_some_iff.1 hu).1] at hz
        cases hz
        exact old j y hjk hy t hyt hzt
      · rw [List.getElem?_set_ne (Ne.symm hki)] at hz
        exact h.blks.apart j k y z t hjk hy hz hyt hzt
  · obtain ⟨j, hj⟩ := List.getElem?_of_mem hy
    by_cases hji : j = i
    · subst hji
      rw [List.getElem?_set_self (List.getElem?_eq_some_iff.1 hu).1] at hj
      cases hj
      exact .inr ht
    · rw [List.getElem?_set_ne (Ne.symm hji)] at hj
      exact .inl ⟨h.inS.2.2.1 y (List.mem_of_getElem? hj) t ht, fun e => h.blks.apart j i y u t hji hj hu ht e⟩
  · by_cases hyg : y = g
    · subst hyg; exact row_typed (own_row hset).1 (by decide)
    · by_cases hyv : v6.ownBlock = some y
      · obtain ⟨⟨C, h1⟩, -⟩ := he.blk hyv
        exact ⟨C, _, _, (hmg.block y (Array.getElem?_eq_some_iff.1 h1).1 hyg).trans h1, by decide⟩
      · rcases hy with ⟨hy, hyu⟩ | hy
        · obtain ⟨C, T, fr, h1, h2⟩ := h.ty y hy
          have h3 := (hm.block y (Typed.lt h.ty hy) hyu).trans h1
          exact ⟨C, T, fr, (hmg.block y (Array.getElem?_eq_some_iff.1 h3).1 hyg).trans h3, h2⟩
        · exact absurd hy hyv
  · rcases hy with hy | hy
    · exact .inl hy.1
    · rcases hv y hy with h1 | h1
      · exact .inl (hus y h1)
      · exact .inr h1
/-! the bytes of a page -/
theorem numF_small2 {n k : Nat} (h : n < 128 ^ (k + 1)) : (numF n).length ≤ k + 1 := numF_len_aux k n h
theorem encF_len (kind number : Nat) (p : Bs) : (encF kind number p).length = 1 + (numF number).length + ((numF p.length).length + p.length) + 4 := by
  unfold encF be4
  simp only [List.length_append, List.length_cons, List.length_nil]
  omega
theorem page_enc {kind number seg i n : Nat} {x : Bs} (hn : number ≤ 1099511627776) (hs : seg ≤ 1099511627776) (hi : i < 128) (hnn : n < 128) (hx : x.length ≤ 480) :
    (encF kind number (numF seg ++ (numF i ++ (numF n ++ x)))).length ≤ 501 ∧ (numF seg ++ (numF i ++ (numF n ++ x))).length ≤ 488 := by
  have h1 : (numF number).length ≤ 6 := numF_small2 (k := 5) (Nat.lt_of_le_of_lt hn (by decide))
  have h2 : (numF seg).length ≤ 6 := numF_small2 (k := 5) (Nat.lt_of_le_of_lt hs (by decide))
  have h3 : (numF i).length ≤ 1 := numF_small2 (k := 0) (by omega)
  have h4 : (numF n).length ≤ 1 := numF_small2 (k := 0) (by omega)
  have h5 : (numF seg ++ (numF i ++ (numF n ++ x))).length ≤ 488 := by simp only [List.length_append]; omega
  have h6 : (numF (numF seg ++ (numF i ++ (numF n ++ x))).length).length ≤ 2 := numF_small2 (k := 1) (by omega)
  rw [encF_len]
  omega
theorem pageF_len {e : Ent} {seg i n : Nat} {x : Bs} (hb : (encF e.kind e.number (numF seg ++ (numF i ++ (numF n ++ x)))).length ≤ 512) : (pageF e seg i n x).length = 512 := by
  unfold pageF
  simp only [List.length_append, List.length_replicate]
  omega
theorem partsF_le {key value : Bs} : ∀ p ∈ partsF key value, p.length ≤ 480 ∧ 1 ≤ p.length := by
  have go : ∀ (f : Nat) (b : Bs), ∀ p ∈ chop 480 f b, p.length ≤ 480 ∧ 1 ≤ p.length := by
    intro f
    induction f with
    | zero => intro b p hp; cases hp
    | succ f ih =>
      intro b p hp
      unfold chop at hp
      split at hp
      · cases hp
      · rename_i hb
        have := List.length_pos_iff.2 hb
        rcases List.mem_cons.1 hp with hp | hp
        · subst hp
          rw [List.length_take]
          omega
        · exact ih _ p hp
  exact go _ _
/-- how many parts -/
theorem chop_len : ∀ (f : Nat) (b : Bs), b.length ≤ f → (chop 480 f b).length = (b.length + 479) / 480 := by
  intro f
  induction f with
  | zero => intro b hb; obtain rfl : b = [] := List.eq_nil_of_length_eq_zero (by omega); rfl
  | succ f ih =>
    intro b hb
    unfold chop
    split
    · rename_i h; subst h; rfl
    · rename_i h
      have := List.length_pos_iff.2 h
      rw [List.length_cons, ih _ (by rw [List.length_drop]; omega), List.length_drop]
      omega
theorem partsF_len (key value : Bs) : (partsF key value).length = ((numF key.length).length + key.length + value.length + 479) / 480 := by
  unfold partsF
  rw [chop_len _ _ (Nat.le_refl _)]
  simp only [List.length_append]
  congr 1
  omega
theorem progPages_cons (e : Ent) (seg blk n i next : Nat) (x : Bs) (r : List Bs) (d : Dev) : progPages e seg blk n (x :: r) i next d = (match programD d blk next (pageF e seg i n x) with
    | (0, d1) => progPages e seg blk n r (i + 1) (next + 1) d1
    | (c, d1) => (c, d1, next)) := by
  conv => lhs; unfold progPages
  rfl
end Go.Proofs.Ytepigkjgjlibcaa
namespace Go.Proofs.Ytepigkjgjlibcaa
open Go.RowKit Go.Deep Go.Proofs.Ytepigkjgjlibcaa.FL
set_option maxRecDepth 100000
theorem set_self' {α : Type} {l : List α} {i : Nat} {x : α} (h : l[i]? = some x) : l.set i x = l := by
  apply List.ext_getElem?
  intro j
  by_cases hj : i = j
  · subst hj
    rw [List.getElem?_set_self (List.getElem?_eq_some_iff.1 h).1, h]
  · rw [List.getElem?_set_ne hj]
/-- the log while an entry is programmed: k pages are there -/
def ProgInv (w3 wr : World) (S : Nat → Prop) (l : Nat) (F : LogF) (L : Log) (o : Nat) (b : LB) (e : Ent) (k : Nat) (D : Dev) : Prop := ∃ S' SD' G', LogAtF wr S' l F SD' G' { L with d := D, blocks := L.blocks.set o { b with next := b.next + k } } ∧ Mod S w3 wr ∧ (∀ x, S' x → S x ∨ w3.heap.size ≤ x) ∧
  progPages e b.segment o (partsF e.key e.value).length (partsF e.key e.value) 0 b.next L.d = progPages e b.segment o (partsF e.key e.value).length ((partsF e.key e.value).drop k) k (b.next + k) D ∧ D.now.length = L.d.now.length ∧ D.pending.length ≤ L.d.pending.length + k
theorem programD_keeps (d : Dev) (b p : Int) (x : Bs) : (programD d b p x).2.now.length = d.now.length ∧ (programD d b p x).2.pending.length ≤ d.pending.length + 1 := by
  unfold programD
  split
  · exact ⟨rfl, Nat.le_succ _⟩
  · split
    · exact ⟨rfl, Nat.le_succ _⟩
    · split
      · exact ⟨rfl, Nat.le_succ _⟩
      · split
        · exact ⟨rfl, Nat.le_succ _⟩
        · split
          · exact ⟨rfl, Nat.le_succ _⟩
          · have h := powerF_same (D := d)
            rcases hp : powerF d with ⟨q, d1⟩
            rw [hp] at h
            simp only at h
            cases q with
            | false => simp only; exact ⟨by rw [h.1], by rw [h.2.1]; exact Nat.le_succ _⟩
            | true =>
              simp only
              refine ⟨?_, by rw [List.length_append, h.2.1]; exact Nat.le_refl _⟩
              unfold setB
              split
              · rw [h.1]
              · rw [List.length_set, h.1]
theorem programF_at {L : Log} {o : Nat} {b : LB} (ho : L.open_ = (o : Int)) (hb : L.blocks[o]? = some b) (e : Ent) : programF L e = (match progPages e b.segment o (partsF e.key e.value).length (partsF e.key e.value) 0 b.next L.d with
    | (0, d1, nx) => (0, { L with d := d1, blocks := L.blocks.set o ⟨nx, b.segment, max b.number e.number, b.entries ++ [⟨e.kind, e.number, b.segment, (partsF e.key e.value).length, e.key, e.value⟩]⟩ })
    | (c, d1, nx) => (c, { L with d := d1, blocks := L.blocks.set o { b with next := nx }, broken := true })) := by
  unfold programF
  rw [show L.open_.toNat = o by rw [ho]; rfl, hb]
  simp only
  rcases progPages e b.segment o (partsF e.key e.value).length (partsF e.key e.value) 0 b.next L.d with ⟨c, d1, nx⟩
  cases c with
  | zero => simp only; rw [setLB_at hb]
  | succ c => simp only; rw [setLB_at hb]
/-- how many pages came: none fail, or the first that fails -/
theorem LogAtF.openb {w : World} {S SD : Nat → Prop} {l : Nat} {F : LogF} {G : DevF} {L : Log} (h : LogAtF w S l F SD G L) {o : Nat} {b : LB} (hb : L.blocks[o]? = some b) : ∃ g c, F.bv = .slice (some ⟨g, 0, none⟩) L.blocks.length c ∧ w.cell? ⟨g, o * 4, none⟩ = some (.int .i64 b.next) ∧ w.cell? ⟨g, o * 4 + 1, none⟩ = some (.int .i64 b.segment) ∧
    w.cell? ⟨g, o * 4 + 2, none⟩ = some (.int .i64 b.number) ∧ (∃ u, F.es[o]? = some u ∧ w.cell? ⟨g, o * 4 + 3, none⟩ = some u ∧ EntsAt w 0 u b.entries) ∧ ∀ j, j < 4 → w.frozen? ⟨g, o * 4 + j, none⟩ = false := by
  obtain ⟨g, c, A, ca, hbv, hu, he, r0, r1, r2, r3⟩ := h.blks.get hb
  refine ⟨g, c, hbv, r0, r1, r2, ⟨_, hu, r3, he⟩, fun j hj => ?_⟩
  have ho := h.blks.own
  rw [hbv] at ho
  exact (own_row ho).1.frozen (by rw [flat_len lbCells 4 lbCells_len, List.length_zip, h.blks.len, Nat.min_self]; have := (List.getElem?_eq_some_iff.1 hb).1; omega)
set_option maxHeartbeats 16000000 in
theorem program_any {w : World} {S SD : Nat → Prop} {l : Nat} {F : LogF} {G : DevF} {L : Log} (h : LogAtF w S l F SD G L) {o : Nat} {b : LB} (ho : L.open_ = (o : Int)) (hb : L.blocks[o]? = some b) {e : Ent} {v : Value} (hv : BS w v e.value) (s0 p0 : Int)
    (hk : 1 ≤ e.kind ∧ e.kind ≤ 127) (hn : e.number ≤ 1099511627776) (hs : b.segment ≤ 1099511627776) (hbn : b.number ≤ 1099511627776) (hnx : b.next ≤ 1000) (hen : b.entries.length ≤ 1000) (hpl : (partsF e.key e.value).length ≤ 60) (hkv : e.key.length + e.value.length ≤ 100000) (hpd : L.d.pending.length ≤ 900000) (hbl : L.blocks.length = L.d.now.length) :
    Calls Try.prog 58 #[.pointer (some ⟨l, 0, none⟩), .agg #[.int .i64 e.kind, .int .i64 e.number, .int .i64 s0, .int .i64 p0, .string (st e.key), v]] w fun e' w' => e' = .returned (codeV (programF L e).1) ∧ LogStep w w' S l F.dv (programF L e).2 := by
  obtain ⟨A, c, rfl, -, -⟩ := hv.slice
  obtain ⟨ps, hps⟩ : ∃ z, z = partsF e.key e.value := ⟨_, rfl⟩
  obtain ⟨n, hnp⟩ : ∃ z, z = ps.length := ⟨_, rfl⟩
  have HPS := Lib.hid (And.intro hps hnp)
  have hn60 : n ≤ 60 := by rw [hnp, hps]; exact hpl
  have HPLE := Lib.hid (partsF_le (key := e.key) (value := e.value))
  rw [← hps] at HPLE
  have HF := Lib.hid (programF_at ho hb e)
  rw [← hps, ← hnp] at HF
  have H := Lib.hid h
  have HB := Lib.hid hb
  have HV := Lib.hid hv
  have HO := Lib.hid ho
  have HK := Lib.hid (And.intro hk (And.intro hn (And.intro hs (And.intro hbn (And.intro hnx (And.intro hen (And.intro hpd hbl)))))))
  have HKV := Lib.hid hkv
  have HPT := Lib.hid (fun W (hX : Ext w W) (a b c d : Int) => parts_any (hv.ext hX) hkv a b c d)
  rw [← hps] at HPT
  have hoi : (o : Int) < (L.blocks.length : Int) := by have := (List.getElem?_eq_some_iff.1 hb).1; omega
  obtain ⟨w1, hw1⟩ : ∃ z, z = w.alloc (.cells #[.int .i64 e.kind, .int .i64 e.number, .int .i64 s0, .int .i64 p0, .string (st e.key), .slice A e.value.length c] 90) := ⟨_, rfl⟩
  have HX1 := Lib.hid (show Ext w w1 by rw [hw1]; exact (Ext.refl w).alloc _)
  have HR1 : Hid (RowB w1 w.heap.size 90 [.int .i64 e.kind, .int .i64 e.number, .int .i64 s0, .int .i64 p0, .string (st e.key), .slice A e.value.length c]) := Lib.hid (by rw [hw1]; exact row_laid w _ _)
  clear hps hnp hpl hkv hk hn hs hbn hnx hen hpd hbl hv
  obtain ⟨g, cb, hbv, r0, r1, r2, -, fz⟩ := (h.ext HX1.out).openb hb
  have HBV := Lib.hid hbv
  have c1 := (h.ext HX1.out).row.cell (j := 1) rfl
  rw [hbv] at c1
  have c2 := (h.ext HX1.out).row.cell (j := 2) rfl
  rw [ho] at c2
  have R1 := Lib.hid r1
  have C1 := Lib.hid c1
  clear h hb ho hbv fz r0 r2
  go_enter Try.func58, Try.ntmps58
  go_upto_region 1 with fail
  rw [← hw1]
  clear hw1
  go_quiet (fail)
  obtain ⟨w2, hw2⟩ : ∃ z, z = w1.drewN nq := ⟨_, rfl⟩
  have HX2 := Lib.hid (show Ext w1 w2 by rw [hw2]; exact (Ext.refl _).drewN _)
  rw [← hw2]
  clear hw2 c1 c2 r1
  have r1 := HX2.out.cell R1.out
  have HR2 := Lib.hid (HR1.out.ext HX2.out)
  have e2 := HR2.out.cell (j := 2) rfl
  have q2 := HR2.out.frozen (j := 2) (by simp)
  go_upto_region 3 with fail
  obtain ⟨wa, hwa⟩ : ∃ z, z = w2.setCell ⟨w.heap.size, 2, none⟩ (.int .i64 b.segment) := ⟨_, rfl⟩
  have HXA := Lib.hid (show Ext w wa by rw [hwa]; exact (HX1.out.trans HX2.out).setCell (Nat.le_refl _) _)
  have HRA : Hid (RowB wa w.heap.size 90 [.int .i64 e.kind, .int .i64 e.number, .int .i64 b.segment, .int .i64 p0, .string (st e.key), .slice A e.value.length c]) := Lib.hid (by rw [hwa]; exact HR2.out.set 2 _ (by simp))
  rw [← hwa]
  clear hwa r1 e2 q2 HR2 HR1 R1 C1
  have a0 := HRA.out.cell (j := 0) rfl
  have a1 := HRA.out.cell (j := 1) rfl
  have a2 := HRA.out.cell (j := 2) rfl
  have a3 := HRA.out.cell (j := 3) rfl
  have a4 := HRA.out.cell (j := 4) rfl
  have a5 := HRA.out.cell (j := 5) rfl
  go_upto_region 4 with (go_at_call 42; refine (HPT.out _ HXA.out _ _ _ _).mono ?_; rintro e' wb ⟨v6, rfl, hxb, hpb⟩; obtain ⟨A6, c6, rfl⟩ := hpb.slice; have HXB := Lib.hid hxb; have HPB := Lib.hid hpb; clear hxb hpb)
  clear a0 a1 a2 a3 a4 a5 HPT
  rw [← HPS.out.2] at HPB
  rw [← HPS.out.2]
  have HRB := Lib.hid (HRA.out.ext HXB.out)
  have q3 := HRB.out.frozen (j := 3) (by simp)
  have e3 := HRB.out.cell (j := 3) rfl
  go_upto_region 5 with fail
  obtain ⟨w3, hw3⟩ : ∃ z, z = wb.setCell ⟨w.heap.size, 3, none⟩ (.int .i64 n) := ⟨_, rfl⟩
  have HX3 := Lib.hid (show Ext w w3 by rw [hw3]; exact (HXA.out.trans HXB.out).setCell (Nat.le_refl _) _)
  have HR3 : Hid (RowB w3 w.heap.size 90 [.int .i64 e.kind, .int .i64 e.number, .int .i64 b.segment, .int .i64 n, .string (st e.key), .slice A e.value.length c]) := Lib.hid (by rw [hw3]; exact HRB.out.set 3 _ (by simp))
  have HP3 : Hid (PtsAt w3 wa.heap.size (.slice A6 n c6) ps) := Lib.hid (by
    rw [hw3]
    refine HPB.out.mod (mod_set wb w.heap.size 3 _) (no8_row HRB.out (by decide)) (fun x hx e => ?_)
    obtain ⟨vs, -, h2, -⟩ := HPB.out
    have h3 := nums_base h2 x hx
    have h4 := HRA.out.lt
    have h5 : x = w.heap.size := e
    omega)
  have HOW := Lib.hid (show ∀ x, (Value.slice A6 n c6).ownBlock = some x → w.heap.size ≤ x ∧ x < w3.heap.size by
    intro x hx
    obtain ⟨vs, -, h2, -⟩ := HP3.out
    have h3 := World.ownsRow.lt h2 x hx
    exact ⟨Nat.le_trans HXA.out.size h3.1, h3.2⟩)
  rw [← hw3]
  clear hw3 q3 e3 HRB HPB HRA HXB
  have HL3 := Lib.hid (H.out.ext HX3.out)
  have HSL := Lib.hid (fun x (hx : S x) => Typed.lt H.out.ty hx)
  have HI0 : Hid (ProgInv w3 w3 S l F L o b e 0 L.d) := Lib.hid ⟨S, SD, G, by rw [Nat.add_zero, set_self' HB.out]; exact HL3.out, Mod.refl _ _, fun _ h => .inl h, rfl, rfl, Nat.le_refl _⟩
  go_wp2_with fail
  go_loopw [34] (fun i wr => ∃ k : Nat, i = .int .i64 k ∧ k ≤ n ∧ Hid (∃ D, ProgInv w3 wr S l F L o b e k D)) (fun i _ => n - (intOf i).toNat)
  case atStart => exact ⟨0, rfl, by omega, Lib.hid ⟨_, HI0.out⟩⟩
  case round =>
    clear HI0
    obtain ⟨k, rfl, hk, hI⟩ := hrel
    obtain ⟨D, S1, SD1, G1, h1, hm1, hs1, hpg, hnow, hpd⟩ := hI.out
    obtain ⟨nx, hnx⟩ : ∃ z, z = b.next + k := ⟨_, rfl⟩
    rw [← hnx] at h1 hpg
    have HNX := Lib.hid hnx
    have hnx2 : nx ≤ 1100 := by rw [hnx]; have := HK.out.2.2.2.2.1; omega
    clear hnx
    have H1 := Lib.hid h1
    have HM1 := Lib.hid (And.intro hm1 hs1)
    have HPG := Lib.hid hpg
    have HND := Lib.hid (And.intro hnow hpd)
    have HRW := Lib.hid (hm1.rowB HR3.out (fun hx => by have := HSL.out _ hx; omega))
    clear h1 hm1 hs1 hpg hnow hpd hI
    by_cases hkn : k < n
    · have hki : (k : Int) < (n : Int) := by omega
      obtain ⟨x, hx⟩ : ∃ x, ps[k]? = some x := ⟨_, List.getElem?_eq_getElem (by rw [← HPS.out.2]; exact hkn)⟩
      have HXL := Lib.hid (HPLE.out x (List.mem_of_getElem? hx))
      have HXD := Lib.hid (drop_some hx)
      have HPW := Lib.hid (HP3.out.mod HM1.out.1 HL3.out.no8 (fun y hy hS => by have h1 := HOW.out y hy; have h2 := HSL.out y hS; omega))
      obtain ⟨g6, c6', A8, c8, e6, x0, hbx⟩ := HPW.out.at_ hx
      rw [← HPS.out.2] at e6
      cases e6
      have HBX := Lib.hid hbx
      clear hx hbx
      have t2 := HRW.out.cell (j := 2) rfl
      obtain ⟨sg, hsg⟩ : ∃ z, z = b.segment := ⟨_, rfl⟩
      have hsg2 : sg ≤ 1099511627776 := by rw [hsg]; exact HK.out.2.2.1
      have HSG := Lib.hid hsg
      rw [← hsg] at t2 HRW
      clear hsg
      have HLN := Lib.hid (And.intro (numF_len sg (by omega)) (And.intro (numF_len k (by omega)) (numF_len n (by omega))))
      go_upto_region 9 with (first
        | (go_at_call 73; refine (appuint_any HU2.out.bs n (by omega) (by have := HLN.out; simp only [List.length_append, List.length_nil]; omega)).mono ?_; rintro e' w6 ⟨u3, rfl, hx6, ho6⟩; have HX6 := Lib.hid (HX5.out.trans hx6); have HU3 := Lib.hid (OB.any ho6 HX5.out.size); clear hx6 ho6)
        | (go_at_call 73; refine (appuint_any HU1.out.bs k (by omega) (by have := HLN.out; simp only [List.length_append, List.length_nil]; omega)).mono ?_; rintro e' w5 ⟨u2, rfl, hx5, ho5⟩; have HX5 := Lib.hid (HX4.out.trans hx5); have HU2 := Lib.hid ho5; clear hx5 ho5)
        | (go_at_call 73; refine (appuint_any (BS.nil wr) sg (by omega) (by simp)).mono ?_; rintro e' w4 ⟨u1, rfl, hx4, ho4⟩; have HX4 := Lib.hid hx4; have HU1 := Lib.hid ho4; clear hx4 ho4))
      have HUU : Hid (OB w6 wr.heap.size u3 (numF sg ++ (numF k ++ numF n))) := Lib.hid (by have h9 := HU3.out; rw [List.nil_append, List.append_assoc] at h9; exact h9)
      have HRW6 := Lib.hid (HRW.out.ext HX6.out)
      have HBX6 := Lib.hid (HBX.out.ext HX6.out)
      have HLX := Lib.hid (show (numF sg ++ (numF k ++ numF n)).length + x.length ≤ 1000 by have h1 := HLN.out; have h2 := HXL.out; simp only [List.length_append]; omega)
      clear HU1 HU2 HU3 t2
      obtain ⟨pay, hpay⟩ : ∃ z, z = numF sg ++ (numF k ++ (numF n ++ x)) := ⟨_, rfl⟩
      have HPY := Lib.hid (show numF sg ++ (numF k ++ numF n) ++ x = pay by rw [hpay]; simp [List.append_assoc])
      have hpe := page_enc (kind := e.kind) (number := e.number) (seg := sg) (i := k) (n := n) (x := x) HK.out.2.1 hsg2 (by omega) (by omega) HXL.out.1
      rw [← hpay] at hpe
      have HPE := Lib.hid hpe
      have HPAY := Lib.hid hpay
      clear hpe hpay
      refine wp_region_C (C := fun W => Ext wr W) (by kernel_rfl) ?_
      obtain ⟨wv, hwv⟩ : ∃ z, z = w6.drew := ⟨_, rfl⟩
      rw [← hwv]
      have XE := Lib.hid (show Ext w6 wv by rw [hwv]; exact (Ext.refl _).drew)
      clear hwv
      have XD := Lib.hid (HX6.out.trans XE.out)
      refine qC_take (i := 0) (s := some 48) (v := ?v1) rfl rfl (by kernel_rfl) (by kernel_rfl) (by kernel_rfl) (fun _ _ _ h => h) XD.out (by kernel_rfl) ?hy1 ?h1
      case hy1 => intro W hW; have z0 := (HRW.out.ext hW).cell (j := 0) rfl; have z1 := (HRW.out.ext hW).cell (j := 1) rfl; go_simp; exact rfl
      try simp only [Act.put, List.setIfInBounds_toArray, List.set_cons_succ, List.set_cons_zero]
      refine qC_take (i := 2) (s := some 50) (v := ?v2) rfl rfl (by kernel_rfl) (by kernel_rfl) (by kernel_rfl) (fun _ _ _ h => h) XD.out (by kernel_rfl) ?hy2 ?h2
      case hy2 => intro W hW; have z0 := (HRW.out.ext hW).cell (j := 0) rfl; have z1 := (HRW.out.ext hW).cell (j := 1) rfl; go_simp; exact rfl
      try simp only [Act.put, List.setIfInBounds_toArray, List.set_cons_succ, List.set_cons_zero]
      refine qC_take (i := 4) (s := some 52) (v := ?v3) rfl rfl (by kernel_rfl) (by kernel_rfl) (by kernel_rfl) (fun _ _ _ h => h) XD.out (by kernel_rfl) ?hy3 ?h3
      case hy3 => intro W hW; have z0 := (HRW.out.ext hW).cell (j := 0) rfl; have z1 := (HRW.out.ext hW).cell (j := 1) rfl; go_simp; exact rfl
      try simp only [Act.put, List.setIfInBounds_toArray, List.set_cons_succ, List.set_cons_zero]
      refine qC_take (i := 5) (s := some 53) (v := ?v4) rfl rfl (by kernel_rfl) (by kernel_rfl) (by kernel_rfl) (fun _ _ _ h => h) XD.out (by kernel_rfl) ?hy4 ?h4
      case hy4 => intro W hW; have z0 := (HRW.out.ext hW).cell (j := 0) rfl; have z1 := (HRW.out.ext hW).cell (j := 1) rfl; go_simp; exact rfl
      try simp only [Act.put, List.setIfInBounds_toArray, List.set_cons_succ, List.set_cons_zero]
      refine qC_take (i := 1) (s := some 49) (v := ?v5) rfl rfl (by kernel_rfl) (by kernel_rfl) (by kernel_rfl) (fun _ _ _ h => h) XD.out (by kernel_rfl) ?hy5 ?h5
      case hy5 => intro W hW; have z0 := (HRW.out.ext hW).cell (j := 0) rfl; have z1 := (HRW.out.ext hW).cell (j := 1) rfl; go_simp; exact rfl
      try simp only [Act.put, List.setIfInBounds_toArray, List.set_cons_succ, List.set_cons_zero]
      refine qC_take (i := 3) (s := some 51) (v := ?v6) rfl rfl (by kernel_rfl) (by kernel_rfl) (by kernel_rfl) (fun _ _ _ h => h) XD.out (by kernel_rfl) ?hy6 ?h6
      case hy6 => intro W hW; have z0 := (HRW.out.ext hW).cell (j := 0) rfl; have z1 := (HRW.out.ext hW).cell (j := 1) rfl; go_simp; exact rfl
      try simp only [Act.put, List.setIfInBounds_toArray, List.set_cons_succ, List.set_cons_zero]
      refine wpAnyC_one 6 (by kernel_rfl) rfl (by kernel_rfl) (fun KK hKK => ?_)
      refine opwp_append_ob (w0 := wr) _ _ (.tmp 52) (.tmp 53) 42 Try.underlying42 rfl u3 _ rfl XD.out (OB.ext HUU.out XE.out) _ _ _ x rfl (HBX6.out.ext XE.out) (by have := HLX.out; omega) ?_
      intro v7 w7 HO7 HX7
      rw [HPY.out] at HO7
      obtain ⟨A7, c7, rfl, -, -⟩ := HO7.out.bs.slice
      refine hKK _ _ HX7.out ?_
      clear hKK KK
      try change wpAnyC _ _ _ _ _ _ _ (Act.put _ (some 54) (.slice A7 pay.length c7)) _
      try simp only [Act.put, List.setIfInBounds_toArray, List.set_cons_succ, List.set_cons_zero]
      try simp only [Act.put, List.setIfInBounds_toArray, List.set_cons_succ, List.set_cons_zero]
      refine qC_take (i := 7) (s := some 55) (v := ?v7) rfl rfl (by kernel_rfl) (by kernel_rfl) (by kernel_rfl) (fun _ _ _ h => h) HX7.out (by kernel_rfl) ?hy7 ?h7
      case hy7 => intro W hW; skip; go_simp; exact rfl
      try simp only [Act.put, List.setIfInBounds_toArray, List.set_cons_succ, List.set_cons_zero]
      have HEN := Lib.hid (encode_any (kind := e.kind) (number := e.number) HK.out.1 HK.out.2.1 HO7.out.bs (by have := HPE.out.2; omega))
      refine wpAnyC_one 8 (by kernel_rfl) rfl (by kernel_rfl) (fun KK hKK => ?_)
      go_simp
      refine HEN.out.mono ?_
      rintro e' w8 ⟨u8, rfl, hx8, ho8⟩
      obtain ⟨A9, c9, rfl, -, -⟩ := ho8.bs.slice
      have HX8 := Lib.hid (HX7.out.trans hx8)
      have HO8 := Lib.hid (OB.any ho8 HX7.out.size)
      refine hKK _ _ HX8.out ?_
      clear hKK KK hx8 ho8
      try change wpAnyC _ _ _ _ _ _ _ (Act.put _ (some 56) (.tuple #[.slice A9 (encF e.kind e.number pay).length c9, .nilIface])) _
      try simp only [Act.put, List.setIfInBounds_toArray, List.set_cons_succ, List.set_cons_zero]
      try simp only [Act.put, List.setIfInBounds_toArray, List.set_cons_succ, List.set_cons_zero]
      refine qC_take (i := 9) (s := some 47) (v := ?v8) rfl rfl (by kernel_rfl) (by kernel_rfl) (by kernel_rfl) (fun _ _ _ h => h) HX8.out (by kernel_rfl) ?hy8 ?h8
      case hy8 => intro W hW; skip; go_simp; exact rfl
      try simp only [Act.put, List.setIfInBounds_toArray, List.set_cons_succ, List.set_cons_zero]
      refine qC_take (i := 10) (s := some 57) (v := ?v9) rfl rfl (by kernel_rfl) (by kernel_rfl) (by kernel_rfl) (fun _ _ _ h => h) HX8.out (by kernel_rfl) ?hy9 ?h9
      case hy9 => intro W hW; skip; go_simp; exact rfl
      try simp only [Act.put, List.setIfInBounds_toArray, List.set_cons_succ, List.set_cons_zero]
      refine qC_take (i := 11) (s := some 58) (v := ?v10) rfl rfl (by kernel_rfl) (by kernel_rfl) (by kernel_rfl) (fun _ _ _ h => h) HX8.out (by kernel_rfl) ?hy10 ?h10
      case hy10 => intro W hW; skip; go_simp; exact rfl
      try simp only [Act.put, List.setIfInBounds_toArray, List.set_cons_succ, List.set_cons_zero]
      refine qC_take (i := 12) (s := some 10) (v := ?v11) rfl rfl (by kernel_rfl) (by kernel_rfl) (by kernel_rfl) (fun _ _ _ h => h) HX8.out (by kernel_rfl) ?hy11 ?h11
      case hy11 => intro W hW; skip; go_simp; exact rfl
      try simp only [Act.put, List.setIfInBounds_toArray, List.set_cons_succ, List.set_cons_zero]
      refine qC_take (i := 13) (s := some 11) (v := ?v12) rfl rfl (by kernel_rfl) (by kernel_rfl) (by kernel_rfl) (fun _ _ _ h => h) HX8.out (by kernel_rfl) ?hy12 ?h12
      case hy12 => intro W hW; skip; go_simp; exact rfl
      try simp only [Act.put, List.setIfInBounds_toArray, List.set_cons_succ, List.set_cons_zero]
      refine ⟨by kernel_rfl, ?_⟩
      obtain ⟨en, hen⟩ : ∃ z, z = encF e.kind e.number pay := ⟨_, rfl⟩
      rw [← hen] at HO8 HPE
      rw [← hen]
      have hel : (en.length : Int) ≤ 501 := by have := HPE.out.1; omega
      have hsub : (512 : Int) - (en.length : Int) = ((512 - en.length : Nat) : Int) := by omega
      have HEN2 := Lib.hid hen
      have HENE := Lib.hid (show en ≠ [] by rw [hen]; unfold encF; simp)
      clear hen
      go_upto_region 14 with (at_builtin; refine wpList_append_zeros (w0 := wr) _ rfl (.tmp 65) (.tmp 68) rfl _ en rfl HX8.out HO8.out HENE.out (512 - en.length) rfl (by omega) (by omega) ?_; intro v9 w9 HO9 HX9)
      clear hel hsub
      obtain ⟨pg, hpg⟩ : ∃ z, z = pageF e b.segment k n x := ⟨_, rfl⟩
      have HPGF := Lib.hid (show en ++ List.replicate (512 - en.length) 0 = pg by rw [hpg, HEN2.out, HPAY.out, HSG.out]; rfl)
      have HPGL := Lib.hid (show pg.length = 512 by rw [← HPGF.out, List.length_append, List.length_replicate]; have := HPE.out.1; omega)
      have HPGE := Lib.hid hpg
      rw [HPGF.out] at HO9
      obtain ⟨A10, c10, rfl, -, -⟩ := HO9.out.bs.slice
      have H9 := Lib.hid (H1.out.ext HX9.out)
      have hbo : (L.blocks.set o { b with next := nx })[o]? = some { b with next := nx } := List.getElem?_set_self (List.getElem?_eq_some_iff.1 HB.out).1
      obtain ⟨g', c', hbv', n0, -, -, -, -⟩ := H9.out.openb hbo
      have hgg : g' = g := by
        rw [HBV.out] at hbv'
        injection hbv' with h1
        injection h1 with h1
        injection h1 with h1 h2
        exact h1.symm
      subst hgg
      obtain ⟨pb, hpb⟩ : ∃ pb, D.now[o]? = some pb := ⟨_, List.getElem?_eq_getElem (by rw [HND.out.1]; have := (List.getElem?_eq_some_iff.1 HB.out).1; have := HK.out.2.2.2.2.2.2.2; omega)⟩
      have HDP := Lib.hid (devprog_any H9.out.dev (i := o) (k := nx) hpb (v := .slice A10 pg.length c10) (l := pg) HO9.out.bs (by rw [HPGL.out]; omega) (by have := HND.out.2; have := HK.out.2.2.2.2.2.2.1; show D.pending.length ≤ _; omega) (by omega))
      have HBO := Lib.hid hbo
      have HPB := Lib.hid hpb
      have d0 := H9.out.row.cell (j := 0) rfl
      have d2 := H9.out.row.cell (j := 2) rfl
      simp only at d2 n0
      rw [HO.out] at d2
      clear hpg hbo hbv' hpb
      refine wp_region_tail (C := fun W => ∃ n, W = w9.drewN n) 13 (by kernel_rfl) (by kernel_rfl) ⟨1, rfl⟩ ?_
      simp only [List.take_succ_cons, List.take_zero, List.drop_succ_cons, List.drop_zero]
      repeat (go_big_quiet_step (fail))
      refine wpQuiet_nil ?_
      rintro _ ⟨nq, rfl⟩
      have HKP := Lib.hid (programD_keeps D o nx pg)
      rcases hpd : programD D o nx pg with ⟨cd, D'⟩
      have HSTEP := Lib.hid (show progPages e b.segment o n ps 0 b.next L.d = (match programD D o nx pg with | (0, d1) => progPages e b.segment o n (ps.drop (k + 1)) (k + 1) (nx + 1) d1 | (c, d1) => (c, d1, nx)) by
        have h9 := HPG.out
        rw [← HPS.out.1, ← HPS.out.2, HXD.out, progPages_cons, ← HPGE.out] at h9
        exact h9)
      have HDP2 := Lib.hid (fun W (hX : Ext w9 W) => show Calls Try.prog 21 #[.pointer (some ⟨F.dv, 0, none⟩), .int .i64 o, .int .i64 nx, .slice A10 pg.length c10] W _ from devprog_any (H9.out.ext hX).dev (i := o) (k := nx) HPB.out (v := .slice A10 pg.length c10) (l := pg) (HO9.out.bs.ext hX) (by rw [HPGL.out]; omega) (by have := HND.out.2; have := HK.out.2.2.2.2.2.2.1; show D.pending.length ≤ _; omega) (by omega))
      rw [hpd] at HKP HSTEP
      simp only [hpd] at HDP2
      clear hpd d0 d2 n0 HDP
      cases cd with
      | zero =>
        go_upto_region 18 with (go_at_call 21; refine (HDP2.out _ ((Ext.refl _).drewN _)).mono ?_; rintro e' wc ⟨rfl, hd1⟩; rw [codeV_zero]; have HD1 := Lib.hid hd1; clear hd1)
        obtain ⟨S2, SD2, G2, h2, hm2, hs2⟩ := (H9.out.ext ((Ext.refl _).drewN nq)).devstep HD1.out
        obtain ⟨g3, c3, hbv3, n0, -, -, -, fz⟩ := h2.openb HBO.out
        have hgg : g3 = g' := by
          rw [HBV.out] at hbv3
          injection hbv3 with h1
          injection h1 with h1
          injection h1 with h1 h2
          exact h1.symm
        subst hgg
        have f0 := fz 0 (by decide)
        rw [Nat.add_zero] at f0
        simp only at n0
        obtain ⟨h4, hg4⟩ := h2.block hbv3 HBO.out (j := 0) (b' := { b with next := nx + 1 }) (v := .int .i64 (nx + 1 : Nat)) (by decide) (fun u => rfl) rfl
        rw [Nat.add_zero] at h4
        have H4 := Lib.hid h4
        have HM2 := Lib.hid (And.intro hm2 hs2)
        have HG4 := Lib.hid hg4
        have HMX := Lib.hid (mod_set wc g3 (o * 4) (.int .i64 (nx + 1 : Nat)))
        have XQ := Lib.hid (show Ext w9 (w9.drewN nq) from (Ext.refl _).drewN nq)
        clear h2 hm2 hs2 hbv3 fz h4 hg4
        go_wp2_with fail
        refine ⟨⟨k + 1, by go_num, by omega, Lib.hid ⟨D', S2, SD2, G2, ?_, ?_, ?_, ?_, ?_, ?_⟩⟩, by simp [intOf]; omega⟩
        · have h9 := H4.out
          simp only [List.set_set] at h9
          rw [← Nat.add_assoc, ← HNX.out]
          exact h9
        · exact ((HM1.out.1.ext' (HX9.out.trans XQ.out)).then HM2.out.1 (fun x hx => HM1.out.2 x hx)).then HMX.out (fun x hx => by
            rw [show x = g3 from hx]
            rcases HM2.out.2 _ HG4.out with h9 | h9
            · exact HM1.out.2 _ h9
            · exact .inr (Nat.le_trans (HM1.out.1.size) (Nat.le_trans (HX9.out.trans XQ.out).size h9)))
        · intro x hx
          rcases HM2.out.2 x hx with h9 | h9
          · exact HM1.out.2 _ h9
          · exact .inr (Nat.le_trans (HM1.out.1.size) (Nat.le_trans (HX9.out.trans XQ.out).size h9))
        · have h9 := HSTEP.out
          rw [← HPS.out.1, ← HPS.out.2, h9, HNX.out, Nat.add_assoc]
        · rw [← HND.out.1]; exact HKP.out.1
        · have h8 := HND.out.2
          have h9 := HKP.out.2
          omega
      | succ cd =>
        obtain ⟨cn, hcn⟩ : ∃ z : Int, z = ((cd + 1 : Nat) : Int) := ⟨_, rfl⟩
        have HEV := Lib.hid (show codeV (cd + 1) = errV cn by rw [codeV_pos (Nat.succ_ne_zero cd), hcn])
        simp only [HEV.out] at HDP2
        clear hcn
        go_upto_region 16 with (go_at_call 21; refine (HDP2.out _ ((Ext.refl _).drewN _)).mono ?_; rintro e' wc ⟨rfl, hd1⟩; have HD1 := Lib.hid hd1; clear hd1)
        obtain ⟨S2, SD2, G2, h2, hm2, hs2⟩ := (H9.out.ext ((Ext.refl _).drewN nq)).devstep HD1.out
        have HM2 := Lib.hid (And.intro hm2 hs2)
        have H2 := Lib.hid h2
        have XQ := Lib.hid (show Ext w9 (w9.drewN nq) from (Ext.refl _).drewN nq)
        have c6 := h2.row.cell (j := 6) rfl
        have f6 := h2.row.frozen (j := 6) (by simp)
        clear h2 hm2 hs2
        have HFE := Lib.hid (show programF L e = (cd + 1, { L with d := D', blocks := L.blocks.set o { b with next := nx }, broken := true }) by
          have h9 := HSTEP.out
          rw [HF.out, h9]
          rfl)
        go_wp2_with fail
        go_ret
        have hm := mod_set wc l 6 (.bool true)
        have hr := H2.out.row.set 6 (.bool true) (by simp)
        rw [HFE.out]
        refine ⟨by rw [HEV.out]; rfl, S2, ⟨_, _, _, rfl, H2.out.rec_ hm hr⟩, ?_, ?_⟩
        · exact (((Mod.of_ext S HX3.out).then HM1.out.1 (fun x hx => .inl hx)).ext' (HX9.out.trans XQ.out)).then (HM2.out.1.then hm (fun x hx => .inl (by rw [show x = l from hx]; exact H1.out.inS.1))) (fun x hx => by
            rcases HM1.out.2 x hx with h9 | h9
            · exact .inl h9
            · exact .inr (Nat.le_trans HX3.out.size h9))
        · intro x hx
          rcases HM2.out.2 x hx with h9 | h9
          · rcases HM1.out.2 x h9 with h8 | h8
            · exact .inl h8
            · exact .inr (Nat.le_trans HX3.out.size h8)
          · exact .inr (Nat.le_trans HX3.out.size (Nat.le_trans (HM1.out.1.size) (Nat.le_trans (HX9.out.trans XQ.out).size h9)))
    · have hki : (n : Int) ≤ (k : Int) := by omega
      obtain rfl : n = k := by omega
      have HFO := Lib.hid (show programF L e = (0, { L with d := D, blocks := L.blocks.set o ⟨nx, b.segment, max b.number e.number, b.entries ++ [⟨e.kind, e.number, b.segment, n, e.key, e.value⟩]⟩ }) by
        have h9 := HPG.out
        rw [← HPS.out.1, ← HPS.out.2, drop_end (by rw [← HPS.out.2]; exact Nat.le_refl _)] at h9
        rw [HF.out, h9]
        rfl)
      have hbo : (L.blocks.set o { b with next := nx })[o]? = some { b with next := nx } := List.getElem?_set_self (List.getElem?_eq_some_iff.1 HB.out).1
      have HBO := Lib.hid hbo
      obtain ⟨g', c', hbv', -, -, m2, -, fz⟩ := H1.out.openb hbo
      have hgg : g' = g := by
        rw [HBV.out] at hbv'
        injection hbv' with h1
        injection h1 with h1
        injection h1 with h1 h2
        exact h1.symm
      subst hgg
      have HBV' := Lib.hid hbv'
      obtain ⟨nb, hnb⟩ : ∃ z, z = b.number := ⟨_, rfl⟩
      obtain ⟨en, hen⟩ : ∃ z, z = e.number := ⟨_, rfl⟩
      simp only at m2
      have HNB := Lib.hid (And.intro hnb hen)
      have HMX := Lib.hid (show max (nb : Int) (en : Int) = ((max nb en : Nat) : Int) by omega)
      have f2 := fz 2 (by decide)
      have t1 := HRW.out.cell (j := 1) rfl
      rw [← hen] at t1
      rw [← hnb] at m2
      have M2 := Lib.hid m2
      clear hbo fz hbv' hnb hen
      go_upto_region 20 with fail
      refine wp_region_tail (C := fun W => ∃ n, W = wr.drewN n) 10 (by kernel_rfl) (by kernel_rfl) ⟨1, rfl⟩ ?_
      simp only [List.take_succ_cons, List.take_zero, List.drop_succ_cons, List.drop_zero]
      repeat (first | go_big_quiet_step (fail) | (refine wpQuiet_max rfl _ _ _ rfl .i64 .i64 (nb : Int) (en : Int) rfl rfl ?_; rw [HMX.out]; simp only [Act.put, List.setIfInBounds_toArray, List.set_cons_succ, List.set_cons_zero]))
      refine wpQuiet_nil ?_
      rintro _ ⟨nq, rfl⟩
      go_upto_region 21 with fail
      clear t1 m2 f2
      have XQ := Lib.hid (show Ext wr (wr.drewN nq) from (Ext.refl _).drewN nq)
      have hmxe : max (nb : Int) (en : Int) = ((max nb en : Nat) : Int) := HMX.out
      rw [hmxe]
      clear hmxe
      obtain ⟨w4, hw4⟩ : ∃ z, z = (wr.drewN nq).setCell ⟨g', o * 4 + 2, none⟩ (.int .i64 (max nb en : Nat)) := ⟨_, rfl⟩
      obtain ⟨h4, hg4⟩ := (H1.out.ext XQ.out).block HBV'.out HBO.out (j := 2) (b' := { b with next := nx, number := max nb en }) (v := .int .i64 (max nb en : Nat)) (by decide) (fun u => rfl) rfl
      have hm4 := mod_set (wr.drewN nq) g' (o * 4 + 2) (.int .i64 (max nb en : Nat))
      rw [← hw4] at h4 hm4
      rw [← hw4]
      have HM4 := Lib.hid ((HM1.out.1.ext' XQ.out).then hm4 (fun x hx => by rw [show x = g' from hx]; exact HM1.out.2 _ hg4))
      have HT3 := Lib.hid (show ∀ x, S1 x → x ≠ w.heap.size by
        intro x hx e9
        have h9 := HR3.out.lt
        rcases HM1.out.2 x hx with h8 | h8
        · have := HSL.out x h8; omega
        · omega)
      have HRW4 := Lib.hid (hm4.rowB (HRW.out.ext XQ.out) (fun e9 => HT3.out g' hg4 e9.symm))
      have HV4 := Lib.hid ((HV.out.ext HX3.out).mod HM4.out HL3.out.no8)
      have H4 := Lib.hid h4
      clear h4 hg4 hm4 hw4
      have t5 := HRW4.out.cell (j := 5) rfl
      have q5 := HRW4.out.frozen (j := 5) (by simp)
      have HVL := Lib.hid (show e.value.length ≤ 1000000 by have := HKV.out; omega)
      go_upto_region 22 with (go_at_call 43; refine (u8clone_any HV4.out HVL.out).mono ?_; rintro e' wc ⟨u, rfl, hxc, huo⟩; obtain ⟨Au, cu, rfl, -, -⟩ := huo.bs.slice; have HXC := Lib.hid hxc; have HUO := Lib.hid huo; clear t5 q5; have t5 := (HRW4.out.ext hxc).cell (j := 5) rfl; have q5 := (HRW4.out.ext hxc).frozen (j := 5) (by simp); clear hxc huo)
      clear t5 q5
      obtain ⟨w5, hw5⟩ : ∃ z, z = wc.setCell ⟨w.heap.size, 5, none⟩ (.slice Au e.value.length cu) := ⟨_, rfl⟩
      have HM5 := Lib.hid (show Mod (fun x => x = w.heap.size) wc w5 by rw [hw5]; exact mod_set wc w.heap.size 5 _)
      have HRC := Lib.hid (HRW4.out.ext HXC.out)
      have HR5 : Hid (RowB w5 w.heap.size 90 [.int .i64 e.kind, .int .i64 e.number, .int .i64 b.segment, .int .i64 n, .string (st e.key), .slice Au e.value.length cu]) := Lib.hid (by rw [hw5]; exact HRC.out.set 5 _ (by simp))
      have H5 := Lib.hid ((H4.out.ext HXC.out).mod HM5.out (no8_row HRC.out (by decide)) (fun x hx e9 => HT3.out x hx e9))
      have HU5 := Lib.hid (HUO.out.bs.mod HM5.out (no8_row HRC.out (by decide)))
      rw [← hw5]
      clear hw5
      have hbo5 : ((L.blocks.set o { b with next := nx }).set o { b with next := nx, number := max nb en })[o]? = some { b with next := nx, number := max nb en } := List.getElem?_set_self (by rw [List.length_set]; exact (List.getElem?_eq_some_iff.1 HB.out).1)
      obtain ⟨g5, c5, hbv5, -, -, -, ⟨uo, huo, k3, heo⟩, fz5⟩ := H5.out.openb hbo5
      have hgg : g5 = g' := by
        rw [HBV.out] at hbv5
        injection hbv5 with h1
        injection h1 with h1
        injection h1 with h1 h2
        exact h1.symm
      subst hgg
      obtain ⟨Ao, co, rfl⟩ := heo.slice
      have HK3 := Lib.hid k3
      have HF3 := Lib.hid (fz5 3 (by decide))
      have HEO := Lib.hid heo
      have HUOS := Lib.hid huo
      have HBV5 := Lib.hid hbv5
      have HBO5 := Lib.hid hbo5
      have HOX := Lib.hid (show ∀ x, (Value.slice Ao b.entries.length co).ownBlock = some x → x ≠ w.heap.size ∧ x ≠ g5 by
        intro x hx
        refine ⟨fun e9 => HT3.out x (H5.out.inS.2.2.1 _ (List.mem_of_getElem? huo) x hx) e9, fun e9 => ?_⟩
        have ho9 := H5.out.blks.own
        rw [hbv5] at ho9
        exact heo.apart (own_row ho9).1 (by decide) (by rw [hx, e9]))
      obtain ⟨i0, hi0, hz0, hz1, hz2⟩ := info_parts ent_info23
      clear k3 fz5 heo huo hbv5 hbo5
      refine wp_region_E (C := fun W => Mod (fun x => (Value.slice Ao b.entries.length co).ownBlock = some x) w5 W) 10 (by kernel_rfl) ?_
      obtain ⟨wv, hwv⟩ : ∃ z, z = w5.drew := ⟨_, rfl⟩
      rw [← hwv]
      have XE := Lib.hid (show Ext w5 wv by rw [hwv]; exact (Ext.refl _).drew)
      have XD := Lib.hid (show Mod (fun x => (Value.slice Ao b.entries.length co).ownBlock = some x) w5 wv from Mod.of_ext _ XE.out)
      clear hwv
      refine qE_take (i := 0) (s := some 112) (v := ?v13) (by kernel_rfl) (by kernel_rfl) rfl rfl (by kernel_rfl) (by kernel_rfl) (by kernel_rfl) (fun _ _ _ h => h) XD.out (by kernel_rfl) ?hy13 ?h13
      case hy13 => intro W hW; have b1 := hW.cell HK3.out (fun e9 => (HOX.out _ e9).2 rfl); have r3 := hW.rowB HR5.out (fun e9 => (HOX.out _ e9).1 rfl); have e0 := r3.cell (j := 0) rfl; have e1 := r3.cell (j := 1) rfl; have e2 := r3.cell (j := 2) rfl; have e3 := r3.cell (j := 3) rfl; have e4 := r3.cell (j := 4) rfl; have e5 := r3.cell (j := 5) rfl; go_simp; exact rfl
      try simp only [Act.put, List.setIfInBounds_toArray, List.set_cons_succ, List.set_cons_zero]
      refine qE_take (i := 1) (s := some 113) (v := ?v14) (by kernel_rfl) (by kernel_rfl) rfl rfl (by kernel_rfl) (by kernel_rfl) (by kernel_rfl) (fun _ _ _ h => h) XD.out (by kernel_rfl) ?hy14 ?h14
      case hy14 => intro W hW; have b1 := hW.cell HK3.out (fun e9 => (HOX.out _ e9).2 rfl); have r3 := hW.rowB HR5.out (fun e9 => (HOX.out _ e9).1 rfl); have e0 := r3.cell (j := 0) rfl; have e1 := r3.cell (j := 1) rfl; have e2 := r3.cell (j := 2) rfl; have e3 := r3.cell (j := 3) rfl; have e4 := r3.cell (j := 4) rfl; have e5 := r3.cell (j := 5) rfl; go_simp; exact rfl
      try simp only [Act.put, List.setIfInBounds_toArray, List.set_cons_succ, List.set_cons_zero]
      refine qE_take (i := 2) (s := some 114) (v := ?v15) (by kernel_rfl) (by kernel_rfl) rfl rfl (by kernel_rfl) (by kernel_rfl) (by kernel_rfl) (fun _ _ _ h => h) XD.out (by kernel_rfl) ?hy15 ?h15
      case hy15 => intro W hW; have b1 := hW.cell HK3.out (fun e9 => (HOX.out _ e9).2 rfl); have r3 := hW.rowB HR5.out (fun e9 => (HOX.out _ e9).1 rfl); have e0 := r3.cell (j := 0) rfl; have e1 := r3.cell (j := 1) rfl; have e2 := r3.cell (j := 2) rfl; have e3 := r3.cell (j := 3) rfl; have e4 := r3.cell (j := 4) rfl; have e5 := r3.cell (j := 5) rfl; go_simp; exact rfl
      try simp only [Act.put, List.setIfInBounds_toArray, List.set_cons_succ, List.set_cons_zero]
      refine qE_take (i := 3) (s := some 115) (v := ?v16) (by kernel_rfl) (by kernel_rfl) rfl rfl (by kernel_rfl) (by kernel_rfl) (by kernel_rfl) (fun _ _ _ h => h) XD.out (by kernel_rfl) ?hy16 ?h16
      case hy16 => intro W hW; have b1 := hW.cell HK3.out (fun e9 => (HOX.out _ e9).2 rfl); have r3 := hW.rowB HR5.out (fun e9 => (HOX.out _ e9).1 rfl); have e0 := r3.cell (j := 0) rfl; have e1 := r3.cell (j := 1) rfl; have e2 := r3.cell (j := 2) rfl; have e3 := r3.cell (j := 3) rfl; have e4 := r3.cell (j := 4) rfl; have e5 := r3.cell (j := 5) rfl; go_simp; exact rfl
      try simp only [Act.put, List.setIfInBounds_toArray, List.set_cons_succ, List.set_cons_zero]
      refine qE_take (i := 4) (s := some 116) (v := ?v17) (by kernel_rfl) (by kernel_rfl) rfl rfl (by kernel_rfl) (by kernel_rfl) (by kernel_rfl) (fun _ _ _ h => h) XD.out (by kernel_rfl) ?hy17 ?h17
      case hy17 => intro W hW; have b1 := hW.cell HK3.out (fun e9 => (HOX.out _ e9).2 rfl); have r3 := hW.rowB HR5.out (fun e9 => (HOX.out _ e9).1 rfl); have e0 := r3.cell (j := 0) rfl; have e1 := r3.cell (j := 1) rfl; have e2 := r3.cell (j := 2) rfl; have e3 := r3.cell (j := 3) rfl; have e4 := r3.cell (j := 4) rfl; have e5 := r3.cell (j := 5) rfl; go_simp; exact rfl
      try simp only [Act.put, List.setIfInBounds_toArray, List.set_cons_succ, List.set_cons_zero]
      refine qE_take (i := 5) (s := some 117) (v := ?v18) (by kernel_rfl) (by kernel_rfl) rfl rfl (by kernel_rfl) (by kernel_rfl) (by kernel_rfl) (fun _ _ _ h => h) XD.out (by kernel_rfl) ?hy18 ?h18
      case hy18 => intro W hW; have b1 := hW.cell HK3.out (fun e9 => (HOX.out _ e9).2 rfl); have r3 := hW.rowB HR5.out (fun e9 => (HOX.out _ e9).1 rfl); have e0 := r3.cell (j := 0) rfl; have e1 := r3.cell (j := 1) rfl; have e2 := r3.cell (j := 2) rfl; have e3 := r3.cell (j := 3) rfl; have e4 := r3.cell (j := 4) rfl; have e5 := r3.cell (j := 5) rfl; go_simp; exact rfl
      try simp only [Act.put, List.setIfInBounds_toArray, List.set_cons_succ, List.set_cons_zero]
      refine wpAnyE_one 6 (by kernel_rfl) rfl (by kernel_rfl) (fun KK hKK => ?_)
      go_simp
      go_simp
      obtain ⟨wx, hwx⟩ : ∃ z, z = wv.alloc (.cells #[.int .i64 e.kind, .int .i64 e.number, .int .i64 b.segment, .int .i64 n, .string (st e.key), .slice Au e.value.length cu] 90) := ⟨_, rfl⟩
      have XA := Lib.hid (show Ext wv wx by rw [hwx]; exact (Ext.refl _).alloc _)
      have HRD := Lib.hid (show Reads wx (wv.heap.size + 1) 6 (some ⟨wv.heap.size, 0, none⟩) 1 [.int .i64 e.kind, .int .i64 e.number, .int .i64 b.segment, .int .i64 n, .string (st e.key), .slice Au e.value.length cu] by rw [hwx]; exact reads_laid wv 90 _ 6 1 rfl)
      rw [← hwx]
      clear hwx
      have XDA := Lib.hid (XD.out.ext' XA.out)
      obtain ⟨es, hes1, hes2, hes3⟩ := HEO.out.ext (XE.out.trans XA.out)
      have HES1 := Lib.hid hes1
      have HOWN := Lib.hid hes2
      have HES3 := Lib.hid hes3
      clear hes1 hes2 hes3
      refine hKK _ _ (.inr XDA.out) ?_
      clear hKK KK
      try simp only [Act.put, List.setIfInBounds_toArray, List.set_cons_succ, List.set_cons_zero]
      refine wpAnyE_one 7 (by kernel_rfl) rfl (by kernel_rfl) (fun KK hKK => ?_)
      refine wp_append_any _ (.tmp 116) (.tmp 118) 83 rfl 0 90 i0 _ 6 72 Try.underlying83 hi0 hz0 hz1 hz2 rfl (by decide) (.slice Ao b.entries.length co) b.entries.length _ rfl HOWN.out _ (some ⟨wv.heap.size, 0, none⟩) 1 1 _ rfl HRD.out (by simp [Value.oneCell']) (by have := HK.out.2.2.2.2.2.1; simp only [maxLen]; omega) (by have := HK.out.2.2.2.2.2.1; omega) (Nat.zero_le _) ?_
      intro v7 w7 ho7 hg7 hb7
      obtain ⟨A7, c7, rfl⟩ := own_slice ho7
      have HM7 := Lib.hid (grown_mod hg7)
      have HPU : Hid (EntsAt w7 0 (.slice A7 (b.entries.length + 1) c7) (b.entries ++ [⟨e.kind, e.number, b.segment, n, e.key, e.value⟩])) := Lib.hid (EntsAt.push (x := ⟨e.kind, e.number, b.segment, n, e.key, e.value⟩) HES1.out HES3.out HM7.out (HEO.out.ext (XE.out.trans XA.out)).no8 (HU5.out.ext (XE.out.trans XA.out)) ho7)
      have HK7 := Lib.hid (HM7.out.cell ((XE.out.trans XA.out).cell HK3.out) (fun e9 => (HOX.out _ e9).2 rfl))
      have XD7 := Lib.hid (XDA.out.trans HM7.out)
      have HV7 := Lib.hid hb7
      refine hKK _ _ (.inr XD7.out) ?_
      clear hKK KK ho7 hg7 hb7
      try simp only [Act.put, List.setIfInBounds_toArray]
      refine qE_take (i := 8) (s := some 120) (v := ?v19) (by kernel_rfl) (by kernel_rfl) rfl rfl (by kernel_rfl) (by kernel_rfl) (by kernel_rfl) (fun _ _ _ h => h) XD7.out (by kernel_rfl) ?hy19 ?h19
      case hy19 => intro W hW; skip; go_simp; exact rfl
      try simp only [Act.put]
      refine qE_take (i := 9) (s := some 121) (v := ?v20) (by kernel_rfl) (by kernel_rfl) rfl rfl (by kernel_rfl) (by kernel_rfl) (by kernel_rfl) (fun _ _ _ h => h) XD7.out (by kernel_rfl) ?hy20 ?h20
      case hy20 => intro W hW; skip; go_simp; exact rfl
      try simp only [Act.put]
      refine wpAnyE_one 10 (by kernel_rfl) rfl (by kernel_rfl) (fun KK hKK => ?_)
      go_simp
      have HRB7 := Lib.hid (by
        have ho9 := H5.out.blks.own
        rw [HBV5.out] at ho9
        have hr9 := (own_row ho9).1.ext (XE.out.trans XA.out)
        have hr7 := HM7.out.rowB hr9 (fun e9 => (HOX.out _ e9).2 rfl)
        exact hr7.frozen (j := o * 4 + 3) (by
          rw [flat_len lbCells 4 lbCells_len, List.length_zip, H5.out.blks.len, Nat.min_self]
          simp only [List.length_set]
          have := (List.getElem?_eq_some_iff.1 HB.out).1
          omega))
      have k3 := HK7.out
      have f3 := HRB7.out
      go_simp
      have HFIN := Lib.hid ((H5.out.ext (XE.out.trans XA.out)).pushE HBV5.out HBO5.out HUOS.out HM7.out HPU.out (fun y hy => by
        rcases HV7.out with e9 | e9
        · exact .inl (by rw [← e9]; exact hy)
        · right
          rw [hy] at e9
          cases e9
          exact Nat.le_refl _))
      obtain ⟨w9, hw9⟩ : ∃ z, z = w7.setCell ⟨g5, o * 4 + 3, none⟩ (.slice A7 (b.entries.length + 1) c7) := ⟨_, rfl⟩
      rw [← hw9] at HFIN
      rw [← hw9]
      clear hw9 k3 f3
      refine hKK _ _ (.inl rfl) ?_
      clear hKK KK
      try simp only [Act.put, List.setIfInBounds_toArray, List.set_cons_succ, List.set_cons_zero]
      refine ⟨by kernel_rfl, ?_⟩
      go_wp2_with fail
      go_ret
      rw [HFO.out]
      obtain ⟨S9, h9, hm9, hs9⟩ := HFIN.out
      simp only [List.set_set, HNB.out.1, HNB.out.2] at h9
      have hb1 : ∀ x, S1 x → S x ∨ w.heap.size ≤ x := fun x hx => (HM1.out.2 x hx).imp id (fun h => Nat.le_trans HX3.out.size h)
      have hm5 : Mod S w wx := (((((Mod.of_ext S HX3.out).then HM4.out (fun x hx => .inl hx)).ext' HXC.out).then HM5.out (fun x hx => .inr (Nat.le_of_eq (show x = w.heap.size from hx).symm))).ext' (XE.out.trans XA.out))
      refine ⟨rfl, S9, ⟨⟨F.dv, F.bv, F.es.set o (.slice A7 (b.entries.length + 1) c7)⟩, _, _, rfl, h9⟩, hm5.then hm9 hb1, fun x hx => ?_⟩
      rcases hs9 x hx with h8 | h8
      · exact hb1 x h8
      · exact .inr (Nat.le_trans hm5.size h8)
end Go.Proofs.Ytepigkjgjlibcaa
