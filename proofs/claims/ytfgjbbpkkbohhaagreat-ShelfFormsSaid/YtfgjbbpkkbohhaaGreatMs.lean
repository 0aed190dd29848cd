/- Maps with string keys and one-cell elements: a map's block as a list of pairs; look-up, store, delete. And 'Mod F w w'': w' is w but for the blocks of F and new blocks. -/
import Derived.Test.YtfgjbbpkkbohhaaGreatRow
import Derived.Maps.Keyed
import Derived.Maps.Own
import Derived.StringKeys
namespace Go.Proofs.YtfgjbbpkkbohhaaGreat
open Go.RowKit Go.Maps Go.WideMaps
open Go.ChangeMaps (setBlock)

/-- w' is w but for the blocks of F and new blocks -/
structure Mod (F : Nat → Prop) (w w' : World) : Prop where
  os : w'.os = w.os
  tape : w'.tape = w.tape
  output : w'.output = w.output
  size : w.heap.size ≤ w'.heap.size
  block : ∀ k, k < w.heap.size → ¬ F k → w'.heap[k]? = w.heap[k]?
theorem Mod.refl (F : Nat → Prop) (w : World) : Mod F w w := ⟨rfl, rfl, rfl, Nat.le_refl _, fun _ _ _ => rfl⟩
theorem Mod.trans {F : Nat → Prop} {a b c : World} (h : Mod F a b) (k : Mod F b c) : Mod F a c :=
  ⟨k.os.trans h.os, k.tape.trans h.tape, k.output.trans h.output, Nat.le_trans h.size k.size, fun i hi hn => (k.block i (Nat.lt_of_lt_of_le hi h.size) hn).trans (h.block i hi hn)⟩
theorem Mod.mono {F G : Nat → Prop} {a b : World} (h : Mod F a b) (hg : ∀ k, k < a.heap.size → F k → G k) : Mod G a b := ⟨h.os, h.tape, h.output, h.size, fun k hk hn => h.block k hk (fun hf => hn (hg k hk hf))⟩
/-- what the second step changes may be new -/
theorem Mod.then {F G : Nat → Prop} {a b c : World} (h : Mod F a b) (k : Mod G b c) (hg : ∀ i, G i → F i ∨ a.heap.size ≤ i) : Mod F a c :=
  ⟨k.os.trans h.os, k.tape.trans h.tape, k.output.trans h.output, Nat.le_trans h.size k.size, fun i hi hn => (k.block i (Nat.lt_of_lt_of_le hi h.size) (fun hgi => (hg i hgi).elim hn (fun hl => absurd hi (by omega)))).trans (h.block i hi hn)⟩
theorem Mod.of_ext {w w' : World} (F : Nat → Prop) (h : Ext w w') : Mod F w w' := ⟨Below.os h, Below.tape h, Below.output h, Below.size h, fun k hk _ => Below.block h k hk⟩
theorem Mod.ext {F : Nat → Prop} {w w' : World} (h : Mod F w w') (hf : ∀ k, F k → w.heap.size ≤ k) : Ext w w' := ⟨h.os, h.tape, h.output, h.size, fun k hk => h.block k hk (fun hfk => by have := hf k hfk; omega)⟩
theorem Mod.below {F : Nat → Prop} {w w' : World} {B : Nat} (h : Mod F w w') (hf : ∀ k, F k → B ≤ k) (hB : B ≤ w.heap.size) : Below B w w' := ⟨h.os, h.tape, h.output, h.size, fun k hk => h.block k (by omega) (fun hfk => by have := hf k hfk; omega)⟩
theorem Mod.alloc {F : Nat → Prop} {a w : World} (h : Mod F a w) (o : Obj) : Mod F a (w.alloc o) := h.trans (Mod.of_ext F ((Ext.refl w).alloc o))
theorem Mod.drew {F : Nat → Prop} {a w : World} (h : Mod F a w) : Mod F a w.drew := h.trans (Mod.of_ext F ((Ext.refl w).drew))
theorem Mod.drewN {F : Nat → Prop} {a w : World} (h : Mod F a w) (n : Nat) : Mod F a (w.drewN n) := h.trans (Mod.of_ext F ((Ext.refl w).drewN n))
theorem Mod.ext' {F : Nat → Prop} {a w w' : World} (h : Mod F a w) (k : Ext w w') : Mod F a w' := h.trans (Mod.of_ext F k)
theorem Mod.setCell {F : Nat → Prop} {a w : World} (h : Mod F a w) {p : Addr} (hp : F p.block ∨ a.heap.size ≤ p.block) (u : Value) : Mod F a (w.setCell p u) :=
  h.then (G := fun k => k = p.block) ⟨rfl, rfl, rfl, by simp [World.setCell], fun k _ hn => Below.heap_setCell _ _ _ _ hn⟩ (fun i hi => hi ▸ hp)
theorem Mod.grown {F : Nat → Prop} {a w w' : World} {row : Option Nat} (h : Mod F a w) (hg : w.grownBy w' row) (hr : ∀ k, row = some k → F k ∨ a.heap.size ≤ k) : Mod F a w' :=
  h.then (G := fun k => row = some k) ⟨hg.os, hg.tape, hg.output, hg.size, fun k hk hn => hg.block k hk (fun e => hn e.symm)⟩ hr
theorem Mod.rowB {F : Nat → Prop} {w w' : World} (h : Mod F w w') {g : Nat} {e : TypeId} {xs : List Value} (hr : RowB w g e xs) (hn : ¬ F g) : RowB w' g e xs := hr.kept (h.block g hr.lt hn)
theorem Mod.cell {F : Nat → Prop} {w w' : World} (h : Mod F w w') {p : Addr} {v : Value} (hp : w.cell? p = some v) (hn : ¬ F p.block) : w'.cell? p = some v :=
  (World.cell?_of_block (h.block p.block (World.block_lt_of_cell? w p hp) hn)).trans hp
theorem row_laid (w : World) (e : TypeId) (xs : List Value) : RowB (w.alloc (.cells xs.toArray e)) w.heap.size e xs :=
  ⟨xs.toArray, (0, 0), [], by show (w.heap.push _)[w.heap.size]? = _; simp, fun j h1 h2 => by simp at h2, by simp⟩
/-- rows of two types are two blocks -/
theorem RowB.apart {w : World} {g h : Nat} {e f : TypeId} {xs ys : List Value} (hg : RowB w g e xs) (hh : RowB w h f ys) (hn : e ≠ f) : g ≠ h := by
  rintro rfl
  obtain ⟨C, fr, rest, h1, -, -⟩ := hg
  obtain ⟨D, fr', rest', h2, -, -⟩ := hh
  rw [h1] at h2
  cases h2
  exact hn rfl

/-! a map's block -/
def MsAt (w : World) (b : Nat) (l : List (ByteArray × Value)) : Prop :=
  ∃ (es : Array MapEntry) (n : Nat), w.heap[b]? = some (.map es n) ∧ es.toList.map (fun e => (e.key, e.val)) = l.map (fun p => (Value.string p.1, p.2)) ∧ (∀ p ∈ l, p.1.size ≤ maxLen) ∧ l.Pairwise (fun a b => a.1 ≠ b.1)
def mget (l : List (ByteArray × Value)) (k : ByteArray) : Option Value := (l.find? fun p => decide (p.1 = k)).map (·.2)
def mput (l : List (ByteArray × Value)) (k : ByteArray) (v : Value) : List (ByteArray × Value) := if l.any (fun p => decide (p.1 = k)) then l.map (fun p => if p.1 = k then (k, v) else p) else l ++ [(k, v)]
def mdel (l : List (ByteArray × Value)) (k : ByteArray) : List (ByteArray × Value) := l.filter fun p => !decide (p.1 = k)
theorem MsAt.lt {w : World} {b : Nat} {l : List (ByteArray × Value)} (h : MsAt w b l) : b < w.heap.size := by
  obtain ⟨es, n, hb, -⟩ := h
  exact (Array.getElem?_eq_some_iff.1 hb).1
theorem MsAt.kept {w w' : World} {b : Nat} {l : List (ByteArray × Value)} (h : MsAt w b l) (hk : w'.heap[b]? = w.heap[b]?) : MsAt w' b l := by
  obtain ⟨es, n, hb, r⟩ := h
  exact ⟨es, n, hk.trans hb, r⟩
theorem MsAt.mod {F : Nat → Prop} {w w' : World} {b : Nat} {l : List (ByteArray × Value)} (h : MsAt w b l) (hm : Mod F w w') (hn : ¬ F b) : MsAt w' b l := h.kept (hm.block b h.lt hn)
theorem MsAt.ext {w w' : World} {b : Nat} {l : List (ByteArray × Value)} (h : MsAt w b l) (hm : Ext w w') : MsAt w' b l := h.kept (Below.block hm b h.lt)
theorem MsAt.apart {w : World} {b g : Nat} {l : List (ByteArray × Value)} {e : TypeId} {xs : List Value} (h : MsAt w b l) (hg : RowB w g e xs) : b ≠ g := by
  rintro rfl
  obtain ⟨es, n, hb, -⟩ := h
  obtain ⟨C, fr, rest, h1, -, -⟩ := hg
  rw [h1] at hb
  cases hb
theorem MsAt.made (w : World) : MsAt (w.alloc (.map #[] 0)) w.heap.size [] := ⟨#[], 0, (MapKept.heap_alloc w _).1, rfl, by simp, List.Pairwise.nil⟩
theorem pair_get {es : List MapEntry} {l : List (ByteArray × Value)} (h : es.map (fun e => (e.key, e.val)) = l.map (fun p => (Value.string p.1, p.2))) {j : Nat} {e : MapEntry} (he : es[j]? = some e) : ∃ p, l[j]? = some p ∧ e.key = .string p.1 ∧ e.val = p.2 := by
  have h1 := congrArg (fun z => z[j]?) h
  simp only [List.getElem?_map, he, Option.map_some] at h1
  cases hl : l[j]? with
  | none => rw [hl] at h1; cases h1
  | some p =>
    rw [hl] at h1
    simp only [Option.map_some, Option.some.injEq, Prod.mk.injEq] at h1
    exact ⟨p, rfl, h1⟩
theorem pair_get' {es : List MapEntry} {l : List (ByteArray × Value)} (h : es.map (fun e => (e.key, e.val)) = l.map (fun p => (Value.string p.1, p.2))) {j : Nat} {p : ByteArray × Value} (hp : l[j]? = some p) : ∃ e, es[j]? = some e ∧ e.key = .string p.1 ∧ e.val = p.2 := by
  have h1 := congrArg (fun z => z[j]?) h
  simp only [List.getElem?_map, hp, Option.map_some] at h1
  cases hl : es[j]? with
  | none => rw [hl] at h1; cases h1
  | some e =>
    rw [hl] at h1
    simp only [Option.map_some, Option.some.injEq, Prod.mk.injEq] at h1
    exact ⟨e, rfl, h1⟩
theorem mget_none {l : List (ByteArray × Value)} {k : ByteArray} (h : ∀ p ∈ l, p.1 ≠ k) : mget l k = none := by
  unfold mget
  rw [List.find?_eq_none.2 (fun p hp => by simpa using h p hp)]
  rfl
theorem mget_at {l : List (ByteArray × Value)} (hd : l.Pairwise (fun a b => a.1 ≠ b.1)) {j : Nat} {p : ByteArray × Value} (hp : l[j]? = some p) : mget l p.1 = some p.2 := by
  induction l generalizing j with
  | nil => simp at hp
  | cons x r ih =>
    obtain ⟨h1, h2⟩ := List.pairwise_cons.1 hd
    cases j with
    | zero =>
      simp at hp
      subst hp
      simp [mget]
    | succ j =>
      have hp' : r[j]? = some p := by simpa using hp
      have hne := h1 p (List.mem_of_getElem? hp')
      have := ih h2 hp'
      unfold mget at this ⊢
      rw [List.find?_cons_of_neg (by simpa using hne)]
      exact this
section
variable {P : Program} {T K E : TypeId} (hT : P.underlying T = some (.map K E)) (hK : P.underlying K = some .string)
include hT hK
omit hT in
theorem MsAt.keys {w : World} {b : Nat} {l : List (ByteArray × Value)} (h : MsAt w b l) : ∃ es n, w.heap[b]? = some (.map es n) ∧ es.toList.map (fun e => (e.key, e.val)) = l.map (fun p => (Value.string p.1, p.2)) ∧ ∀ e ∈ es.toList, ∃ q, keyOf P K e.key = some q := by
  obtain ⟨es, n, hb, he, hs, hd⟩ := h
  refine ⟨es, n, hb, he, fun e hm => ?_⟩
  obtain ⟨j, hj⟩ := List.getElem?_of_mem hm
  obtain ⟨p, hp, e1, -⟩ := pair_get he hj
  rw [e1]
  exact ⟨_, keyOf_string_mk hK (hs p (List.mem_of_getElem? hp))⟩
theorem MsAt.look {w : World} {b : Nat} {l : List (ByteArray × Value)} (h : MsAt w b l) (k : ByteArray) (hk : k.size ≤ maxLen) {Z : Value} (hz : (zeroValue E).run P w = .ok Z w) (c : Bool) :
    (Instr.lookup T (.map (some b)) (.string k) c).run P w = .ok (match mget l k with | none => if c then .tuple #[Z, .bool false] else Z | some v => if c then .tuple #[v, .bool true] else v) w := by

  obtain ⟨es, n, hb, he, hks⟩ := h.keys hK
  obtain ⟨es', n', hb', he', hs, hd⟩ := h
  rw [hb] at hb'
  cases hb'
  have KK := string_keyed hK
  have hkey := keyOf_string_mk hK hk
  rcases KK.find w hkey es.toList hks with ⟨h1, h2⟩ | ⟨j, e0, h1, h2, h3⟩
  · have hno : mget l k = none := mget_none (fun p hp e => by
      obtain ⟨j, hj⟩ := List.getElem?_of_mem hp
      obtain ⟨x, hx, e1, -⟩ := pair_get' he hj
      exact h2 x (List.mem_of_getElem? hx) (by rw [e1, e]))
    rw [hno]
    simp [Instr.lookup, run_underlying hT, MapKept.run_getObj_map hb, KK.check w _ hkey, h1, hz, Result.andThen]
  · obtain ⟨p, hp, e1, e2⟩ := pair_get he h2
    have hpk : p.1 = k := by rw [e1] at h3; injection h3
    have hyes := mget_at hd hp
    rw [hpk] at hyes
    rw [hyes, ← e2]
    simp [Instr.lookup, run_underlying hT, MapKept.run_getObj_map hb, KK.check w _ hkey, h1, Result.andThen]
theorem MsAt.store {w : World} {b : Nat} {l : List (ByteArray × Value)} (h : MsAt w b l) (k : ByteArray) (hk : k.size ≤ maxLen) (v : Value) :
    ∃ w', (Instr.mapUpdate T (.map (some b)) (.string k) v).run P w = .ok () w' ∧ MsAt w' b (mput l k v) ∧ w'.heap.size = w.heap.size ∧ w.grownBy w' (some b) := by
  obtain ⟨es, n, hb, he, hks⟩ := h.keys hK
  obtain ⟨es', n', hb', he', hs, hd⟩ := h
  rw [hb] at hb'
  cases hb'
  have KK := string_keyed hK
  have hkey := keyOf_string_mk hK hk
  have hlt := (Array.getElem?_eq_some_iff.1 hb).1
  have key : ∀ o, (setBlock w b o).heap[b]? = some o ∧ (setBlock w b o).heap.size = w.heap.size ∧ w.grownBy (setBlock w b o) (some b) := fun o => by
    have := MapKept.heap_set (o' := o) hb
    exact ⟨this.1, by simp [setBlock], ⟨rfl, rfl, rfl, by simp [setBlock], fun j _ hj => this.2 j (fun e => hj (by rw [e]))⟩⟩
  rcases KK.find w hkey es.toList hks with ⟨h1, h2⟩ | ⟨j, e0, h1, h2, h3⟩
  · have hno : ∀ p ∈ l, p.1 ≠ k := fun p hp e => by
      obtain ⟨j, hj⟩ := List.getElem?_of_mem hp
      obtain ⟨x, hx, e1, -⟩ := pair_get' he hj
      exact h2 x (List.mem_of_getElem? hx) (by rw [e1, e])
    have hput : mput l k v = l ++ [(k, v)] := by
      unfold mput
      rw [if_neg (fun h => by
        obtain ⟨p, hp, e⟩ := List.any_eq_true.1 h
        exact hno p hp (by simpa using e))]
    refine ⟨setBlock w b (.map (es.push ⟨.string k, v, n⟩) (n + 1)), ?_, ?_, (key _).2.1, (key _).2.2⟩
    · simp [Instr.mapUpdate, run_underlying hT, MapKept.run_getObj_map hb, KK.check w false hkey, h1, MapKept.run_setObj_map _ hb, Result.andThen, setBlock]
    · rw [hput]
      refine ⟨_, _, (key _).1, by simp [he], ?_, ?_⟩
      · intro p hp
        rcases List.mem_append.1 hp with hp | hp
        · exact hs p hp
        · simp at hp
          subst hp
          exact hk
      · rw [List.pairwise_append]
        exact ⟨hd, List.pairwise_singleton _ _, fun a ha c hc => by simp at hc; subst hc; exact hno a ha⟩
  · obtain ⟨p, hp, e1, e2⟩ := pair_get he h2
    have hpk : p.1 = k := by rw [e1] at h3; injection h3
    have hj : es[j]? = some e0 := by simpa using h2
    have hany : l.any (fun p => decide (p.1 = k)) = true := List.any_eq_true.2 ⟨p, List.mem_of_getElem? hp, by simpa using hpk⟩
    have hput : mput l k v = l.map (fun p => if p.1 = k then (k, v) else p) := by
      unfold mput
      rw [if_pos hany]
    have hlist : (es.modify j (fun e' => { e' with key := .string k, val := v })).toList = es.toList.set j { e0 with key := .string k, val := v } := by rw [Array.toList_modify, ChangeMaps.modify_eq_set _ _ _ _ h2]
    refine ⟨setBlock w b (.map (es.modify j (fun e' => { e' with key := .string k, val := v })) n), ?_, ?_, (key _).2.1, (key _).2.2⟩
    · simp [Instr.mapUpdate, run_underlying hT, MapKept.run_getObj_map hb, KK.check w false hkey, h1, hj, h3, KK.stays w hkey, MapKept.run_setObj_map _ hb, Result.andThen, setBlock]
    · rw [hput]
      refine ⟨_, _, (key _).1, ?_, ?_, ?_⟩
      · rw [hlist]
        apply List.ext_getElem?
        intro i
        rw [List.getElem?_map, List.getElem?_set, List.getElem?_map, List.getElem?_map]
        by_cases hij : j = i
        · subst hij
          rw [if_pos rfl, if_pos (List.getElem?_eq_some_iff.1 h2).1, hp]
          simp [hpk]
        · rw [if_neg hij]
          cases hi : l[i]? with
          | none =>
            have : es.toList[i]? = none := by
              cases hx : es.toList[i]? with
              | none => rfl
              | some x =>
                obtain ⟨q, hq, -⟩ := pair_get he hx
                rw [hi] at hq
                cases hq
            rw [this]
            rfl
          | some q =>
            obtain ⟨x, hx, f1, f2⟩ := pair_get' he hi
            have hne : q.1 ≠ k := by
              intro e
              have h4 := List.pairwise_iff_getElem.1 hd
              obtain ⟨a1, a2⟩ := List.getElem?_eq_some_iff.1 hp
              obtain ⟨b1, b2⟩ := List.getElem?_eq_some_iff.1 hi
              rcases Nat.lt_or_gt_of_ne hij with h | h
              · exact h4 j i a1 b1 h (by rw [a2, b2, hpk, e])
              · exact h4 i j b1 a1 h (by rw [a2, b2, hpk, e])
            rw [hx]
            simp [f1, f2, hne]
      · intro q hq
        obtain ⟨r, hr, rfl⟩ := List.mem_map.1 hq
        split
        · exact hk
        · exact hs r hr
      · rw [List.pairwise_map]
        refine hd.imp ?_
        intro a c hac
        by_cases ha : a.1 = k
        · rw [if_pos ha]
          by_cases hc : c.1 = k
          · exact absurd (ha.trans hc.symm) hac
          · rw [if_neg hc]
            exact fun e => hc e.symm
        · rw [if_neg ha]
          by_cases hc : c.1 = k
          · rw [if_pos hc]
            exact ha
          · rw [if_neg hc]
            exact hac
theorem MsAt.drop {w : World} {b : Nat} {l : List (ByteArray × Value)} (h : MsAt w b l) (k : ByteArray) (hk : k.size ≤ maxLen) (ty : TypeId) :
    ∃ w', (Builtin.delete_ #[T, K] ty #[.map (some b), .string k]).run P w = .ok (.tuple #[]) w' ∧ MsAt w' b (mdel l k) ∧ w'.heap.size = w.heap.size ∧ w.grownBy w' (some b) := by
  obtain ⟨es, n, hb, he, hks⟩ := h.keys hK
  obtain ⟨es', n', hb', he', hs, hd⟩ := h
  rw [hb] at hb'
  cases hb'
  have KK := string_keyed hK
  have hkey := keyOf_string_mk hK hk
  have key : ∀ o, (setBlock w b o).heap[b]? = some o ∧ (setBlock w b o).heap.size = w.heap.size ∧ w.grownBy (setBlock w b o) (some b) := fun o => by
    have := MapKept.heap_set (o' := o) hb
    exact ⟨this.1, by simp [setBlock], ⟨rfl, rfl, rfl, by simp [setBlock], fun j _ hj => this.2 j (fun e => hj (by rw [e]))⟩⟩
  have hsub2 : ∀ l, mdel l k = l.filter fun p => !decide (p.1 = k) := fun _ => rfl
  rcases KK.find w hkey es.toList hks with ⟨h1, h2⟩ | ⟨j, e0, h1, h2, h3⟩
  · have hno : ∀ p ∈ l, p.1 ≠ k := fun p hp e => by
      obtain ⟨j, hj⟩ := List.getElem?_of_mem hp
      obtain ⟨x, hx, e1, -⟩ := pair_get' he hj
      exact h2 x (List.mem_of_getElem? hx) (by rw [e1, e])
    refine ⟨setBlock w b (.map es n), ?_, ?_, (key _).2.1, (key _).2.2⟩
    · simp [Builtin.delete_, run_underlying hT, MapKept.run_getObj_map hb, KK.check w _ hkey, h1, MapKept.run_setObj_map _ hb, Result.andThen, setBlock]
    · rw [hsub2, List.filter_eq_self.2 (fun p hp => by simpa using hno p hp)]
      exact ⟨_, _, (key _).1, he, hs, hd⟩
  · obtain ⟨p, hp, e1, e2⟩ := pair_get he h2
    have hpk : p.1 = k := by rw [e1] at h3; injection h3
    have hjs : j < es.size := by simpa using (List.getElem?_eq_some_iff.1 h2).1
    have hsub : (es.eraseIdxIfInBounds j).toList = es.toList.eraseIdx j := by
      unfold Array.eraseIdxIfInBounds
      rw [dif_pos hjs]
      simp
    have hfil : l.filter (fun p => !decide (p.1 = k)) = l.eraseIdx j := by
      clear h1 h2 h3 he he' hb hks e1 e2 hsub hjs hsub2
      induction l generalizing j with
      | nil => simp at hp
      | cons x r ih =>
        obtain ⟨h4, h5⟩ := List.pairwise_cons.1 hd
        cases j with
        | zero =>
          simp at hp
          subst hp
          rw [List.filter_cons_of_neg (by simpa using hpk), List.eraseIdx_cons_zero]
          exact List.filter_eq_self.2 (fun q hq => by simpa [hpk] using fun e => h4 q hq (hpk.trans e.symm))
        | succ j =>
          have hp' : r[j]? = some p := by simpa using hp
          have hne : x.1 ≠ k := fun e => h4 p (List.mem_of_getElem? hp') (e.trans hpk.symm)
          rw [List.filter_cons_of_pos (by simpa using hne), List.eraseIdx_cons_succ, ih (fun q hq => hs q (List.mem_cons_of_mem _ hq)) h5 j hp']
    refine ⟨setBlock w b (.map (es.eraseIdxIfInBounds j) n), ?_, ?_, (key _).2.1, (key _).2.2⟩
    · simp [Builtin.delete_, run_underlying hT, MapKept.run_getObj_map hb, KK.check w _ hkey, h1, MapKept.run_setObj_map _ hb, Result.andThen, setBlock]
    · rw [hsub2]
      refine ⟨_, _, (key _).1, ?_, fun q hq => hs q (List.mem_filter.1 hq).1, hd.filter _⟩
      rw [hsub, hfil, ChangeMaps.map_eraseIdx, he, ChangeMaps.map_eraseIdx]
end
end Go.Proofs.YtfgjbbpkkbohhaaGreat
