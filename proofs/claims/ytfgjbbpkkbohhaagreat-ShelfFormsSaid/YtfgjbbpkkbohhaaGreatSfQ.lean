/- Chapter 19 in small: a queue that holds at most one key: New, Put, Touch, index, remove, push, sum, Used. -/
import Derived.Test.YtfgjbbpkkbohhaaGreatMs
import Derived.Test.YtfgjbbpkkbohhaaGreatApp2
import Derived.Test.YtfgjbbpkkbohhaaGreatBase
import Derived.Test.YtfgjbbpkkbohhaaGreatAnyE
import Derived.Test.YtfgjbbpkkbohhaaGreatTail
import Derived.Deep.RegionWith
import Derived.Deep.DeepCutAuto
namespace Go.Proofs.YtfgjbbpkkbohhaaGreat
open Go.RowKit
theorem own_keep {w w' : World} {B : Nat} {e : TypeId} {size n : Nat} {v : Value} {xs : List Value} (h : w.ownsRow B e size v n xs) (hk : ∀ g, v.ownBlock = some g → w'.heap[g]? = w.heap[g]?) : w'.ownsRow B e size v n xs := by
  refine ⟨h.1, ?_⟩
  rcases h.2 with e | ⟨g, cap, cur, rfl, hb, hh, r⟩
  · exact .inl e
  · exact .inr ⟨g, cap, cur, rfl, hb, (hk g rfl).trans hh, r⟩
theorem item_info : (Tryz.prog.info? 192).map (fun i => (i.zero, i.size, i.bytes)) = some (some (.agg #[.string ⟨#[]⟩, .int .i64 0]), 2, 24) := by kernel_rfl
/-- the items of a list of at most one key -/
def itc (R : Option (ByteArray × Int)) : List Value := match R with | none => [] | some (k, s) => [.string k, .int .i64 s]
def itn (R : Option (ByteArray × Int)) : Nat := match R with | none => 0 | some _ => 1
/-- a list of at most one item -/
def LiOwn (w : World) (B : Nat) (v : Value) (R : Option (ByteArray × Int)) : Prop := w.ownsRow B 192 2 v (itn R) (itc R)
/-- a list of items that is read -/
def ItR (w : World) (v : Value) (xs : List (ByteArray × Int)) : Prop := ∃ A cap, v = .slice A xs.length cap ∧ xs.length ≤ cap ∧ (0 < xs.length → ∃ g, A = some ⟨g, 0, none⟩ ∧ ∀ i p, xs[i]? = some p → w.cell? ⟨g, i * 2, none⟩ = some (.string p.1) ∧ w.cell? ⟨g, i * 2 + 1, none⟩ = some (.int .i64 p.2))
theorem ItR.ext {w w' : World} {v : Value} {xs : List (ByteArray × Int)} (h : ItR w v xs) (hx : Ext w w') : ItR w' v xs := by
  obtain ⟨A, cap, e, hc, hr⟩ := h
  refine ⟨A, cap, e, hc, fun h0 => ?_⟩
  obtain ⟨g, ha, hg⟩ := hr h0
  exact ⟨g, ha, fun i p hp => ⟨hx.cell (hg i p hp).1, hx.cell (hg i p hp).2⟩⟩
def idxF (k : ByteArray) (xs : List (ByteArray × Int)) : Int := match xs.findIdx? (fun p => p.1.toList == k.toList) with | none => -1 | some i => i
set_option maxRecDepth 100000 in
theorem isk_any (k a : ByteArray) (z : Int) (h : Nat) (w : World) (hc : w.cell? ⟨h, 0, none⟩ = some (.string k)) :
    Calls Tryz.prog 142 #[.agg #[.string a, .int .i64 z], .pointer (some ⟨h, 0, none⟩)] w fun e w' => e = .returned (.bool (a.toList == k.toList)) ∧ Ext w w' := by
  have c0 := fun o => ((Ext.refl w).alloc o).cell hc
  go_enter Tryz.func142, Tryz.ntmps142
  go_wp2_with fail
  go_ret
  exact ⟨rfl, (Ext.refl w).alloc _⟩
theorem idx_none {k : ByteArray} {xs : List (ByteArray × Int)} (h : ∀ j, j < xs.length → ∀ p, xs[j]? = some p → (p.1.toList == k.toList) = false) : idxF k xs = -1 := by
  unfold idxF
  rw [List.findIdx?_eq_none_iff.2 (fun p hp => by
    obtain ⟨j, hj⟩ := List.getElem?_of_mem hp
    exact h j (List.getElem?_eq_some_iff.1 hj).1 p hj)]
theorem idx_some {k : ByteArray} {xs : List (ByteArray × Int)} {i : Nat} {q : ByteArray × Int} (hq : xs[i]? = some q) (hy : (q.1.toList == k.toList) = true) (h : ∀ j, j < i → ∀ p, xs[j]? = some p → (p.1.toList == k.toList) = false) : idxF k xs = i := by
  unfold idxF
  obtain ⟨hl, he⟩ := List.getElem?_eq_some_iff.1 hq
  rw [List.findIdx?_eq_some_iff_getElem.2 ⟨hl, by rw [he]; exact hy, fun j hj => by
    have := h j hj _ (List.getElem?_eq_getElem (by omega))
    simpa using this⟩]
set_option maxRecDepth 100000 in
theorem index_any {w : World} {v : Value} {xs : List (ByteArray × Int)} (h : ItR w v xs) (hn : xs.length ≤ 100000) (k : ByteArray) :
    Calls Tryz.prog 103 #[v, .string k] w fun e w' => e = .returned (.int .i64 (idxF k xs)) ∧ Ext w w' := by
  have HI := Lib.hid h
  obtain ⟨A, cap, rfl, hcap, hr⟩ := h
  obtain ⟨n, hxn⟩ : ∃ n, xs.length = n := ⟨_, rfl⟩
  have HN := Lib.hid hxn
  rw [hxn] at hcap hr hn HI ⊢
  have HR := Lib.hid hr
  clear hr hxn
  have HK := Lib.hid (fun W (h : Nat) (hc : W.cell? ⟨h, 0, none⟩ = some (.string k)) a z => isk_any k a z h W hc)
  go_enter Tryz.func103, Tryz.ntmps103
  go_wp2
  have HC := Lib.hid (show (w.alloc (.cells #[.string k] 9)).cell? ⟨w.heap.size, 0, none⟩ = some (.string k) by simp)
  have HX0 : Ext w (w.alloc (.cells #[.string k] 9)) := (Ext.refl w).alloc _
  have HX := Lib.hid HX0
  obtain ⟨wa, hwa⟩ : ∃ x, x = w.alloc (.cells #[.string k] 9) := ⟨_, rfl⟩
  rw [← hwa] at HC HX
  clear HX0
  try rw [← hwa]
  obtain ⟨hb, hhb⟩ : ∃ z, w.heap.size = z := ⟨_, rfl⟩
  rw [hhb] at HC
  rw [hhb]
  clear hwa hhb
  go_loopw [8] (fun i wr => ∃ j : Nat, j ≤ n ∧ i = .int .i64 j ∧ Ext wa wr ∧ Hid (∀ m, m < j → ∀ p, xs[m]? = some p → (p.1.toList == k.toList) = false)) (fun i _ => n - (intOf i).toNat)
  case atStart => exact ⟨0, by omega, rfl, Ext.refl _, Lib.hid (fun m hm => by omega)⟩
  case round =>
    obtain ⟨j, hj, rfl, hX, HALL⟩ := hrel
    by_cases hlt : j < n
    · have hji : (j : Int) < (n : Int) := by omega
      have hj6 : (j : Int) < 100001 := by omega
      have hjc : j < cap := by omega
      obtain ⟨g, rfl, hg⟩ := HR.out (by omega)
      obtain ⟨⟨a, z⟩, hp⟩ : ∃ p, xs[j]? = some p := ⟨_, List.getElem?_eq_getElem (by rw [HN.out]; exact hlt)⟩
      have c0 := (HX.out.trans hX).cell (hg j _ hp).1
      have c1 := (HX.out.trans hX).cell (hg j _ hp).2
      simp only at c0 c1
      have HP := Lib.hid hp
      have HIS := Lib.hid (HK.out wr hb (hX.cell HC.out) a z)
      have HXX := Lib.hid hX
      clear hp hg hX
      cases hq : (a.toList == k.toList) with
      | true =>
        have HQ := Lib.hid hq
        rw [hq] at HIS
        clear hq
        go_wp2_with (go_at_call 142; refine HIS.out.mono ?_; rintro e w1 ⟨rfl, hx1⟩)
        go_ret
        exact ⟨ret_int (idx_some HP.out HQ.out HALL.out).symm, (HX.out.trans HXX.out).trans hx1⟩
      | false =>
        have HQ := Lib.hid hq
        rw [hq] at HIS
        clear hq
        go_wp2_with (go_at_call 142; refine HIS.out.mono ?_; rintro e w1 ⟨rfl, hx1⟩)
        go_roundw
        case rel => exact ⟨j + 1, by omega, by go_num, HXX.out.trans hx1, Lib.hid (fun m hm p hp => by
          rcases Nat.lt_succ_iff_lt_or_eq.1 hm with h | rfl
          · exact HALL.out m h p hp
          · rw [HP.out] at hp; cases hp; exact HQ.out)⟩
        case measure => simp [intOf]; omega
    · obtain rfl : j = n := by omega
      go_wp2_with fail
      go_ret
      exact ⟨ret_int (idx_none (by rw [HN.out]; exact HALL.out)).symm, HX.out.trans hX⟩
def sumF (xs : List (ByteArray × Int)) : Int := (xs.map (·.2)).sum
theorem sum_take {xs : List (ByteArray × Int)} {j : Nat} {p : ByteArray × Int} (h : xs[j]? = some p) : sumF (xs.take (j + 1)) = sumF (xs.take j) + p.2 := by
  unfold sumF
  rw [List.take_add_one, h]
  simp
theorem sum_le (xs : List (ByteArray × Int)) (h : ∀ p ∈ xs, 0 ≤ p.2 ∧ p.2 ≤ 1099511627776) : 0 ≤ sumF xs ∧ sumF xs ≤ 1099511627776 * xs.length := by
  induction xs with
  | nil => simp [sumF]
  | cons x r ih =>
    have h1 := ih (fun p hp => h p (List.mem_cons_of_mem _ hp))
    have h2 := h x (List.mem_cons_self)
    unfold sumF at h1 ⊢
    rw [List.map_cons, List.sum_cons, List.length_cons]
    omega
set_option maxRecDepth 100000 in
theorem sum_any {w : World} {v : Value} {xs : List (ByteArray × Int)} (h : ItR w v xs) (hn : xs.length ≤ 100000) (hs : ∀ p ∈ xs, 0 ≤ p.2 ∧ p.2 ≤ 1099511627776) :
    Calls Tryz.prog 134 #[v] w fun e w' => e = .returned (.int .i64 (sumF xs)) ∧ Ext w w' := by
  obtain ⟨A, cap, rfl, hcap, hr⟩ := h
  obtain ⟨n, hxn⟩ : ∃ n, xs.length = n := ⟨_, rfl⟩
  have HN := Lib.hid hxn
  rw [hxn] at hcap hr hn ⊢
  have HR := Lib.hid hr
  have HS := Lib.hid hs
  clear hr hxn hs
  go_enter Tryz.func134, Tryz.ntmps134
  go_wp2
  go_loopw [3, 8] (fun s i wr => ∃ j : Nat, j ≤ n ∧ i = .int .i64 j ∧ s = .int .i64 (sumF (xs.take j)) ∧ Ext w wr) (fun _ i _ => n - (intOf i).toNat)
  case atStart => exact ⟨0, by omega, rfl, rfl, Ext.refl _⟩
  case round =>
    obtain ⟨j, hj, rfl, rfl, hX⟩ := hrel
    by_cases hlt : j < n
    · have hji : (j : Int) < (n : Int) := by omega
      have hj6 : (j : Int) < 100001 := by omega
      have hjc : j < cap := by omega
      obtain ⟨g, rfl, hg⟩ := HR.out (by omega)
      obtain ⟨⟨a, z⟩, hp⟩ : ∃ p, xs[j]? = some p := ⟨_, List.getElem?_eq_getElem (by rw [HN.out]; exact hlt)⟩
      have c0 := hX.cell (hg j _ hp).1
      have c1 := hX.cell (hg j _ hp).2
      simp only at c0 c1
      have hz := HS.out _ (List.mem_of_getElem? hp)
      have hb := sum_le (xs.take j) (fun p hp => HS.out p (List.mem_of_mem_take hp))
      have hl : (xs.take j).length ≤ 100000 := by rw [List.length_take]; omega
      have HT := Lib.hid (sum_take hp)
      obtain ⟨S, hS⟩ : ∃ S, sumF (xs.take j) = S := ⟨_, rfl⟩
      rw [hS] at hb HT ⊢
      have hb1 : 0 ≤ S := hb.1
      have hb2 : S ≤ 1099511627776 * 100000 := by omega
      have hz1 : 0 ≤ z := hz.1
      have hz2 : z ≤ 1099511627776 := hz.2
      clear hp hg hb hz hl hS
      go_wp2_with fail
      go_roundw
      case rel => exact ⟨j + 1, by omega, by go_num, by rw [HT.out], hX.alloc _⟩
      case measure => simp [intOf]; omega
    · obtain rfl : j = n := by omega
      have htk : xs.take j = xs := by rw [← HN.out, List.take_length]
      rw [htk]
      go_wp2_with fail
      go_ret
      exact ⟨rfl, hX⟩
/-- the list field at block q, offset i -/
def FldAt (w : World) (q i : Nat) (v : Value) : Prop := w.cell? ⟨q, i, none⟩ = some v ∧ w.frozen? ⟨q, i, none⟩ = false
theorem idx_nil (k : ByteArray) : idxF k [] = -1 := rfl
/-- remove: the key is not there -/
theorem remove_no {w : World} {q i : Nat} {v : Value} {xs : List (ByteArray × Int)} (hq : w.cell? ⟨q, i, none⟩ = some v) (h : ItR w v xs) (hn : xs.length ≤ 100000) (k : ByteArray) (hk : idxF k xs = -1) :
    Calls Tryz.prog 104 #[.pointer (some ⟨q, i, none⟩), .string k] w fun e w' => e = .returned (.bool false) ∧ Ext w w' := by
  have HIX := Lib.hid (index_any h hn k)
  rw [hk] at HIX
  clear hk h
  go_enter Tryz.func104, Tryz.ntmps104
  go_wp2_with (go_at_call 103; refine HIX.out.mono ?_; rintro e w1 ⟨rfl, hx1⟩)
  go_ret
  exact ⟨rfl, hx1⟩
theorem run_append_zero {P : Program} (w : World) (t ty e : TypeId) (i : TypeInfo) (ht : P.underlying t = some (.slice e)) (hi : P.info? e = some i) (a a' : Addr) (c c' : Nat) :
    (Builtin.append_ #[t, t] ty #[.slice (some a) 0 c, .slice (some a') 0 c']).run P w = .ok (.slice (some a) 0 c) w := by
  simp [Builtin.append_, run_underlying ht, sizeOf, typeInfo, hi, Builtin.lenOf, Builtin.firstCells, storeCells, loadCells, loadCellsFrom]
set_option maxRecDepth 100000 in
theorem clear_one {w : World} {g : Nat} {x y : Value} (c0 : w.cell? ⟨g, 0, none⟩ = some x) (c1 : w.cell? ⟨g, 1, none⟩ = some y) (f0 : w.frozen? ⟨g, 0, none⟩ = false) (f1 : w.frozen? ⟨g, 1, none⟩ = false) (cc : Nat) (ty : TypeId) :
    (Builtin.clear_ #[144] ty #[.slice (some ⟨g, 0, none⟩) 1 cc]).run Tryz.prog w = .ok (.tuple #[]) ((w.setCell ⟨g, 0, none⟩ (.string ⟨#[]⟩)).setCell ⟨g, 1, none⟩ (.int .i64 0)) := by
  have hz : ∀ W, (zeroValue 192).run Tryz.prog W = .ok (.agg #[.string ⟨#[]⟩, .int .i64 0]) W := fun _ => by kernel_rfl
  have hs := run_storeCells_cells (P := Tryz.prog) g 0 [.string ⟨#[]⟩, .int .i64 0] 0 w (fun j hj => by
    have : j = 0 ∨ j = 1 := by simp at hj; omega
    rcases this with rfl | rfl <;> simp [c0, c1]) (fun j hj => by
    have : j = 0 ∨ j = 1 := by simp at hj; omega
    rcases this with rfl | rfl <;> simp [f0, f1]) (by simp [Value.oneCell'])
  have hzc : (Builtin.zeroCells #[Value.string { data := #[] }, Value.int IntKind.i64 0] 1).toList = [.string ⟨#[]⟩, .int .i64 0] := by kernel_rfl
  simp [Builtin.clear_, run_underlying Tryz.underlying144, hz, Result.andThen, Value.cells, hzc, hs, World.setCells]
theorem LiOwn.form {w : World} {B : Nat} {v : Value} {R : Option (ByteArray × Int)} (h : LiOwn w B v R) : (v = .slice none 0 0 ∧ R = none) ∨ ∃ g c cur, v = .slice (some ⟨g, 0, none⟩) (itn R) c ∧ B ≤ g ∧ w.heap[g]? = some (.cells cur 192 (0, 0)) ∧ itn R ≤ c ∧ c ≤ maxLen ∧ cur.size = c * 2 ∧ cur.toList.take (itn R * 2) = itc R := by
  rcases h.2 with ⟨e, e0⟩ | h2
  · refine .inl ⟨e, ?_⟩
    cases R with
    | none => rfl
    | some p => cases e0
  · exact .inr h2
theorem LiOwn.form1 {w : World} {B : Nat} {v : Value} {p : ByteArray × Int} (h : LiOwn w B v (some p)) : ∃ g c cur, v = .slice (some ⟨g, 0, none⟩) 1 c ∧ B ≤ g ∧ w.heap[g]? = some (.cells cur 192 (0, 0)) ∧ 1 ≤ c ∧ c ≤ maxLen ∧ cur.size = c * 2 ∧ cur.toList.take 2 = [.string p.1, .int .i64 p.2] := by
  rcases h.form with ⟨-, e⟩ | h
  · cases e
  · exact h
theorem LiOwn.keep {w w' : World} {B : Nat} {v : Value} {R : Option (ByteArray × Int)} (h : LiOwn w B v R) (hk : ∀ g, v.ownBlock = some g → w'.heap[g]? = w.heap[g]?) : LiOwn w' B v R := own_keep h hk
theorem LiOwn.lt {w : World} {B : Nat} {v : Value} {R : Option (ByteArray × Int)} (h : LiOwn w B v R) : ∀ g, v.ownBlock = some g → B ≤ g ∧ g < w.heap.size := World.ownsRow.lt h
theorem LiOwn.apart {w : World} {B q : Nat} {v : Value} {R : Option (ByteArray × Int)} {T : TypeId} {xs : List Value} (h : LiOwn w B v R) (hq : RowB w q T xs) (hT : T ≠ 192) : v.ownBlock ≠ some q := by
  rcases h.form with ⟨rfl, -⟩ | ⟨g, c, cur, rfl, hb, hh, -⟩
  · simp [Value.ownBlock]
  · intro e
    simp only [Value.ownBlock, Option.some.injEq] at e
    subst e
    obtain ⟨C, fr, rest, h1, -, -⟩ := hq
    rw [h1] at hh
    cases hh
    exact hT rfl
theorem LiOwn.itr {w : World} {B : Nat} {v : Value} {R : Option (ByteArray × Int)} (h : LiOwn w B v R) : ItR w v R.toList := by
  rcases h.form with ⟨rfl, rfl⟩ | ⟨g, c, cur, rfl, hb, hh, hl, hm, hc, ht⟩
  · exact ⟨none, 0, rfl, Nat.le_refl _, fun h => by simp at h⟩
  · cases R with
    | none => exact ⟨_, c, rfl, by simp, fun h => by simp at h⟩
    | some p =>
      obtain ⟨k, z⟩ := p
      refine ⟨_, c, rfl, hl, fun _ => ⟨g, rfl, fun i p hp => ?_⟩⟩
      have hi : i = 0 := by have := (List.getElem?_eq_some_iff.1 hp).1; simp at this; omega
      subst hi
      simp at hp
      subst hp
      have h0 := World.ownsRow.cellAt h 0 (by simp [itn])
      have h1 := World.ownsRow.cellAt h 1 (by simp [itn])
      exact ⟨h0, h1⟩
set_option maxRecDepth 100000 in
theorem delete_raw {w : World} {g c : Nat} (hc : 1 ≤ c) (hc2 : c ≤ maxLen) {x y : Value} (c0 : w.cell? ⟨g, 0, none⟩ = some x) (c1 : w.cell? ⟨g, 1, none⟩ = some y) (f0 : w.frozen? ⟨g, 0, none⟩ = false) (f1 : w.frozen? ⟨g, 1, none⟩ = false) :
    Calls Tryz.prog 143 #[.slice (some ⟨g, 0, none⟩) 1 c, .int .i64 0, .int .i64 1] w fun e w' => e = .returned (.slice (some ⟨g, 0, none⟩) 0 c) ∧ ∃ q, w' = ((w.setCell ⟨g, 0, none⟩ (.string ⟨#[]⟩)).setCell ⟨g, 1, none⟩ (.int .i64 0)).drewN q := by
  obtain ⟨i0, hi0, -, -, -⟩ := info_parts item_info
  unfold maxLen at hc2
  have ha1 := fun W => run_append_zero (P := Tryz.prog) W 144 144 192 i0 Tryz.underlying144 hi0 ⟨g, 0, none⟩ ⟨g, 2, none⟩ c (c - 1)
  have ha2 := fun W => run_append_zero (P := Tryz.prog) W 144 144 192 i0 Tryz.underlying144 hi0 ⟨g, 0, none⟩ ⟨g, 0, none⟩ c (c - 1)
  have hci : (1 : Int) ≤ (c : Int) := by omega
  by_cases h1 : c = 1
  · subst h1
    go_enter Tryz.func143, Tryz.ntmps143
    go_upto_region 5 with fail
    go_quiet (fail)
    all_goals have hcl := fun cc ty => clear_one (w := w.drewN nq) c0 c1 f0 f1 cc ty
    all_goals go_wp2_with fail
    all_goals go_ret
    all_goals exact ⟨rfl, nq, rfl⟩
  · have h2 : (1 : Int) < (c : Int) := by omega
    go_enter Tryz.func143, Tryz.ntmps143
    go_upto_region 5 with fail
    go_quiet (fail)
    all_goals have hcl := fun cc ty => clear_one (w := w.drewN nq) c0 c1 f0 f1 cc ty
    all_goals go_wp2_with fail
    all_goals go_ret
    all_goals exact ⟨rfl, nq, rfl⟩
theorem own_cut {w : World} {B g c n : Nat} {T : TypeId} {size : Nat} {xs : List Value} (h : w.ownsRow B T size (.slice (some ⟨g, 0, none⟩) n c) n xs) : w.ownsRow B T size (.slice (some ⟨g, 0, none⟩) 0 c) 0 [] := by
  refine ⟨by simp, .inr ?_⟩
  rcases h.2 with ⟨e, _⟩ | ⟨g', cap, cur, e, hb, hh, hl, hm, hc, ht⟩
  · cases e
  · injection e with e1 e2 e3
    injection e1 with e1
    injection e1 with e1
    subst e1
    subst e3
    exact ⟨_, _, cur, rfl, hb, hh, Nat.zero_le _, hm, hc, by simp⟩
theorem delete_one {w : World} {B g c : Nat} {p : ByteArray × Int} (h : LiOwn w B (.slice (some ⟨g, 0, none⟩) 1 c) (some p)) :
    Calls Tryz.prog 143 #[.slice (some ⟨g, 0, none⟩) 1 c, .int .i64 0, .int .i64 1] w fun e w' => e = .returned (.slice (some ⟨g, 0, none⟩) 0 c) ∧ Mod (fun b => b = g) w w' ∧ LiOwn w' B (.slice (some ⟨g, 0, none⟩) 0 c) none := by
  have h0 : w.ownsRow B 192 2 (.slice (some ⟨g, 0, none⟩) 1 c) 1 [.string p.1, .int .i64 p.2] := h
  obtain ⟨g', c', cur, e, hb, hh, hl, hm, hc, ht⟩ := h.form1
  injection e with e1 e2 e3
  injection e1 with e1
  injection e1 with e1
  subst e1
  subst e3
  have c0 := World.ownsRow.cellAt h0 0 (by simp)
  have c1 := World.ownsRow.cellAt h0 1 (by simp)
  refine (delete_raw hl hm c0 c1 (World.ownsRow.frozenAt h0 0) (World.ownsRow.frozenAt h0 1)).mono ?_
  rintro e w' ⟨rfl, q, rfl⟩
  refine ⟨rfl, (((Mod.refl (fun k => k = g) w).setCell (p := ⟨g, 0, none⟩) (.inl rfl) _).setCell (p := ⟨g, 1, none⟩) (.inl rfl) _).drewN q, ?_⟩
  exact own_cut (World.ownsRow.stored (World.ownsRow.stored h0 0 _).1 1 _).1
set_option maxRecDepth 100000 in
theorem remove_one {w : World} {q i B : Nat} {v : Value} {xs : List Value} {k : ByteArray} {z : Int} (hq : RowB w q 146 xs) (hi : xs[i]? = some v) (h : LiOwn w B v (some (k, z))) :
    Calls Tryz.prog 104 #[.pointer (some ⟨q, i, none⟩), .string k] w fun e w' => e = .returned (.bool true) ∧ Mod (fun b => b = q ∨ v.ownBlock = some b) w w' ∧ ∃ v', RowB w' q 146 (xs.set i v') ∧ LiOwn w' B v' none ∧ v'.ownBlock = v.ownBlock := by
  have hne := h.apart hq (by decide)
  have hIX := index_any h.itr (by simp) k
  have hk : idxF k (some (k, z)).toList = 0 := by simp [idxF]
  rw [hk] at hIX
  obtain ⟨g, c, cur, rfl, -⟩ := h.form1
  have hgq : g ≠ q := fun e => hne (by rw [e]; rfl)
  have HIX := Lib.hid hIX
  have cq := hq.cell hi
  have fq := hq.frozen (List.getElem?_eq_some_iff.1 hi).1
  have HQ := Lib.hid hq
  have HI := Lib.hid hi
  have HNE := Lib.hid hgq
  have HD := Lib.hid (fun W (hW : Ext w W) => delete_one (w := W) (h.keep (fun g' hg' => Below.block hW g' (h.lt g' hg').2)))
  clear hIX hne h hk hq hi hgq
  go_enter Tryz.func104, Tryz.ntmps104
  go_upto_region 3 with (go_at_call 103; refine HIX.out.mono ?_; rintro e w1 ⟨rfl, hx1⟩; have cq1 := hx1.cell cq; have fq1 := (hx1.frozen cq).trans fq)
  have HX1 := Lib.hid hx1
  clear hx1 cq fq
  go_upto_region 4 with (go_at_call 143; refine (HD.out _ HX1.out).mono ?_; rintro e w2 ⟨rfl, hm2, ho2⟩; have cq2 := hm2.cell cq1 (by exact fun e => HNE.out e.symm); have fq2 : w2.frozen? ⟨q, i, none⟩ = false := (World.frozen?_of_block (hm2.block q (World.block_lt_of_cell? w1 ⟨q, i, none⟩ cq1) (fun e => HNE.out e.symm))).trans fq1)
  have HM2 := Lib.hid hm2
  have HO2 := Lib.hid ho2
  clear hm2 ho2
  go_wp2_with fail
  go_ret
  have hil := (List.getElem?_eq_some_iff.1 HI.out).1
  have hq2 := HM2.out.rowB (HQ.out.ext HX1.out) (fun e => HNE.out e.symm)
  refine ⟨rfl, ?_, .slice (some ⟨g, 0, none⟩) 0 c, hq2.set i _ hil, ?_, rfl⟩
  · refine Mod.setCell ((Mod.of_ext _ HX1.out).trans (HM2.out.mono ?_)) (.inl (.inl rfl)) _
    rintro k - rfl
    exact .inr rfl
  · refine HO2.out.keep (fun g' hg' => ?_)
    simp only [Value.ownBlock, Option.some.injEq] at hg'
    subst hg'
    exact Below.heap_setCell _ _ _ _ (fun e => HNE.out e)
set_option maxRecDepth 100000 in
theorem insert_one {w : World} {B gv : Nat} {v : Value} (h : LiOwn w B v none) {k : ByteArray} {z : Int} (c0 : w.cell? ⟨gv, 0, none⟩ = some (.string k)) (c1 : w.cell? ⟨gv, 1, none⟩ = some (.int .i64 z)) (hB : B ≤ w.heap.size) :
    Calls Tryz.prog 144 #[v, .int .i64 0, .slice (some ⟨gv, 0, none⟩) 1 1] w fun e w' => ∃ v', e = .returned v' ∧ LiOwn w' B v' (some (k, z)) ∧ w.grownBy w' v.ownBlock ∧ (v'.ownBlock = v.ownBlock ∨ v'.ownBlock = some w.heap.size) := by
  obtain ⟨i0, hi0, hz0, hz1, hz2⟩ := info_parts item_info
  have hr : Reads w w.heap.size 2 (some ⟨gv, 0, none⟩) 1 [.string k, .int .i64 z] := ⟨rfl, fun _ => ⟨_, rfl, World.block_lt_of_cell? w _ c0, fun j u hu => by
    rw [Addr.add_lit, Nat.zero_add]
    have hj : j = 0 ∨ j = 1 := by have := (List.getElem?_eq_some_iff.1 hu).1; simp at this; omega
    rcases hj with rfl | rfl
    · simp at hu; subst hu; exact c0
    · simp at hu; subst hu; exact c1⟩⟩
  have HR := Lib.hid hr
  have HO := Lib.hid (show w.ownsRow B 192 2 v 0 [] from h)
  rcases h.form with ⟨rfl, -⟩ | ⟨g, c, cur, rfl, -⟩
  · clear h hr c0 c1
    go_enter Tryz.func144, Tryz.ntmps144
    go_wp2_with (at_builtin; refine wpList_append_any2 _ rfl (.tmp 23) (.tmp 24) 144 143 192 Tryz.underlying143 rfl B 192 i0 _ 2 24 Tryz.underlying144 hi0 hz0 hz1 hz2 rfl (by omega) _ 0 [] rfl HO.out _ _ 1 1 _ rfl HR.out (by simp [Value.oneCell']) (by simp only [maxLen]; omega) (by omega) hB ?_; intro v2 w2 hown2 hg2 hat2)
    go_ret
    exact ⟨_, rfl, hown2, hg2, hat2⟩
  · clear h hr c0 c1
    by_cases hc : c = 0
    · subst hc
      go_enter Tryz.func144, Tryz.ntmps144
      go_wp2_with (at_builtin; refine wpList_append_any2 _ rfl (.tmp 23) (.tmp 24) 144 143 192 Tryz.underlying143 rfl B 192 i0 _ 2 24 Tryz.underlying144 hi0 hz0 hz1 hz2 rfl (by omega) _ 0 [] rfl HO.out _ _ 1 1 _ rfl HR.out (by simp [Value.oneCell']) (by simp only [maxLen]; omega) (by omega) hB ?_; intro v2 w2 hown2 hg2 hat2)
      go_ret
      exact ⟨_, rfl, hown2, hg2, hat2⟩
    · have hc0 : ¬ (c = 0) := hc
      go_enter Tryz.func144, Tryz.ntmps144
      go_wp2_with (at_builtin; refine wpList_append_any2 _ rfl (.tmp 23) (.tmp 24) 144 143 192 Tryz.underlying143 rfl B 192 i0 _ 2 24 Tryz.underlying144 hi0 hz0 hz1 hz2 rfl (by omega) _ 0 [] rfl HO.out _ _ 1 1 _ rfl HR.out (by simp [Value.oneCell']) (by simp only [maxLen]; omega) (by omega) hB ?_; intro v2 w2 hown2 hg2 hat2)
      go_ret
      exact ⟨_, rfl, hown2, hg2, hat2⟩
set_option maxRecDepth 100000 in
theorem push_one {w : World} {q i B : Nat} {v : Value} {xs : List Value} {k : ByteArray} {z : Int} (hq : RowB w q 146 xs) (hi : xs[i]? = some v) (h : LiOwn w B v none) (hB : B ≤ w.heap.size) :
    Calls Tryz.prog 105 #[.pointer (some ⟨q, i, none⟩), .agg #[.string k, .int .i64 z]] w fun e w' => e = .returned (.tuple #[]) ∧ Mod (fun b => b = q ∨ v.ownBlock = some b) w w' ∧ ∃ v', RowB w' q 146 (xs.set i v') ∧ LiOwn w' B v' (some (k, z)) ∧ (v'.ownBlock = v.ownBlock ∨ ∃ g, v'.ownBlock = some g ∧ w.heap.size ≤ g) := by
  have hne := h.apart hq (by decide)
  have HI := Lib.hid hi
  have HBS := Lib.hid hB
  obtain ⟨A, c, rfl⟩ : ∃ A c, v = .slice A 0 c := by
    rcases h.form with ⟨rfl, -⟩ | ⟨g, c, cur, rfl, -⟩
    · exact ⟨_, _, rfl⟩
    · exact ⟨_, _, rfl⟩
  have HNE := Lib.hid hne
  have HO := Lib.hid h
  have HQ := Lib.hid hq
  clear hi hne h hq hB
  go_enter Tryz.func105, Tryz.ntmps105
  go_upto_region 1 with fail
  have hx0 : Ext w (w.alloc (.cells #[.string k, .int .i64 z] 192)) := (Ext.refl w).alloc _
  have hrow := row_laid w 192 [.string k, .int .i64 z]
  obtain ⟨wa, hwa⟩ : ∃ x, x = w.alloc (.cells #[.string k, .int .i64 z] 192) := ⟨_, rfl⟩
  have hrow' : RowB wa w.heap.size 192 [.string k, .int .i64 z] := by rw [hwa]; exact hrow
  rw [← hwa] at hx0
  rw [← hwa]
  obtain ⟨gx, hgx⟩ : ∃ z, w.heap.size = z := ⟨_, rfl⟩
  rw [hgx] at hrow'
  rw [hgx]
  have HX0 := Lib.hid hx0
  have HG := Lib.hid hgx
  have z0 := hrow'.cell (j := 0) rfl
  have z1 := hrow'.cell (j := 1) rfl
  have cq := hx0.cell (HQ.out.cell HI.out)
  have HC0 := Lib.hid (show wa.drew.cell? ⟨q, i, none⟩ = some (.slice A 0 c) ∧ wa.drew.cell? ⟨gx, 0, none⟩ = some (.string k) ∧ wa.drew.cell? ⟨gx, 1, none⟩ = some (.int .i64 z) from ⟨cq, z0, z1⟩)
  clear hrow hrow' hwa hx0 hgx z0 z1 cq
  refine wp_region_E 8 (C := fun W => W.cell? ⟨q, i, none⟩ = some (.slice A 0 c) ∧ W.cell? ⟨gx, 0, none⟩ = some (.string k) ∧ W.cell? ⟨gx, 1, none⟩ = some (.int .i64 z)) (by kernel_rfl) ?_
  refine wpAnyE_take (i := 0) (by kernel_rfl) (by kernel_rfl) (v := .pointer (some ⟨q, i, none⟩)) rfl (by kernel_rfl) (by kernel_rfl) (by kernel_rfl) (fun _ _ _ h => h) HC0.out (by kernel_rfl) ?_ ?_
  · intro W hW; go_simp; try (with_reducible rfl)
  change wpAnyE _ _ _ _ _ _ _ _ (Act.put _ (some 4) (.pointer (some ⟨q, i, none⟩))) _
  try simp only [Act.put, List.setIfInBounds_toArray, List.set_cons_succ, List.set_cons_zero]
  refine wpAnyE_take (i := 1) (by kernel_rfl) (by kernel_rfl) (v := .pointer (some ⟨q, i, none⟩)) rfl (by kernel_rfl) (by kernel_rfl) (by kernel_rfl) (fun _ _ _ h => h) HC0.out (by kernel_rfl) ?_ ?_
  · intro W hW; go_simp; try (with_reducible rfl)
  change wpAnyE _ _ _ _ _ _ _ _ (Act.put _ (some 5) (.pointer (some ⟨q, i, none⟩))) _
  try simp only [Act.put, List.setIfInBounds_toArray, List.set_cons_succ, List.set_cons_zero]
  refine wpAnyE_take (i := 2) (by kernel_rfl) (by kernel_rfl) (v := .pointer (some ⟨q, i, none⟩)) rfl (by kernel_rfl) (by kernel_rfl) (by kernel_rfl) (fun _ _ _ h => h) HC0.out (by kernel_rfl) ?_ ?_
  · intro W hW; go_simp; try (with_reducible rfl)
  change wpAnyE _ _ _ _ _ _ _ _ (Act.put _ (some 6) (.pointer (some ⟨q, i, none⟩))) _
  try simp only [Act.put, List.setIfInBounds_toArray, List.set_cons_succ, List.set_cons_zero]
  refine wpAnyE_take (i := 3) (by kernel_rfl) (by kernel_rfl) (v := .slice A 0 c) rfl (by kernel_rfl) (by kernel_rfl) (by kernel_rfl) (fun _ _ _ h => h) HC0.out (by kernel_rfl) ?_ ?_
  · intro W hW; obtain ⟨z0, z1, z2⟩ := hW; go_simp; try (with_reducible rfl)
  change wpAnyE _ _ _ _ _ _ _ _ (Act.put _ (some 7) (.slice A 0 c)) _
  try simp only [Act.put, List.setIfInBounds_toArray, List.set_cons_succ, List.set_cons_zero]
  refine wpAnyE_take (i := 4) (by kernel_rfl) (by kernel_rfl) (v := .agg #[.string k, .int .i64 z]) rfl (by kernel_rfl) (by kernel_rfl) (by kernel_rfl) (fun _ _ _ h => h) HC0.out (by kernel_rfl) ?_ ?_
  · intro W hW; obtain ⟨z0, z1, z2⟩ := hW; go_simp; try (with_reducible rfl)
  change wpAnyE _ _ _ _ _ _ _ _ (Act.put _ (some 8) (.agg #[.string k, .int .i64 z])) _
  try simp only [Act.put, List.setIfInBounds_toArray, List.set_cons_succ, List.set_cons_zero]
  refine wpAnyE_one 5 (by kernel_rfl) rfl (by kernel_rfl) (fun KK hKK => ?_)
  go_simp
  obtain ⟨wn, hwn⟩ : ∃ x, x = (wa.alloc (.cells #[.string k, .int .i64 z] 192)).drew := ⟨_, rfl⟩
  obtain ⟨gv, hgv⟩ : ∃ z, wa.heap.size = z := ⟨_, rfl⟩
  have XN : Ext wa wn := by rw [hwn]; exact ((Ext.refl wa).alloc _).drew
  have hrow2 : RowB wn gv 192 [.string k, .int .i64 z] := by rw [hwn, ← hgv]; exact (row_laid wa 192 [.string k, .int .i64 z]).ext (Ext.refl _).drew
  have XW := HX0.out.trans XN
  have HXW := Lib.hid XW
  have HIN := Lib.hid (insert_one (w := wn) (B := B) (gv := gv) (HO.out.keep (fun g hg => Below.block XW g (HO.out.lt g hg).2)) (hrow2.cell (j := 0) rfl) (hrow2.cell (j := 1) rfl) (Nat.le_trans HBS.out XW.size))
  have HC1 := Lib.hid (show wn.cell? ⟨q, i, none⟩ = some (.slice A 0 c) ∧ wn.cell? ⟨gx, 0, none⟩ = some (.string k) ∧ wn.cell? ⟨gx, 1, none⟩ = some (.int .i64 z) from ⟨XN.cell HC0.out.1, XN.cell HC0.out.2.1, XN.cell HC0.out.2.2⟩)
  have HFQ := Lib.hid ((HXW.out.frozen (HQ.out.cell HI.out)).trans (HQ.out.frozen (List.getElem?_eq_some_iff.1 HI.out).1))
  try rw [← hwn]
  try rw [hgv]
  clear XN XW hrow2 hwn hgv
  refine hKK _ _ (.inr HC1.out) ?_
  clear hKK KK
  try simp only [Act.put, List.setIfInBounds_toArray, List.set_cons_succ, List.set_cons_zero]
  refine wpAnyE_one 6 (by kernel_rfl) rfl (by kernel_rfl) (fun KK hKK => ?_)
  go_simp
  refine HIN.out.mono ?_
  rintro e w5 ⟨v5, rfl, ho5, hg5, hat5⟩
  obtain ⟨g5, c5, cur5, rfl, -⟩ := ho5.form1
  have hb5 := hg5.block q (Nat.lt_of_lt_of_le HQ.out.lt HXW.out.size) (fun e => HNE.out e.symm)
  have HB5 := Lib.hid hb5
  have HG5 := Lib.hid hg5
  have HO5 := Lib.hid ho5
  have HAT := Lib.hid hat5
  have cq5 := (World.cell?_of_block (a := ⟨q, i, none⟩) hb5).trans HC1.out.1
  have fq5 := (World.frozen?_of_block (a := ⟨q, i, none⟩) hb5).trans HFQ.out
  have hx5 : w5.heap[gx]? = wn.heap[gx]? := hg5.block gx (World.block_lt_of_cell? wn ⟨gx, 0, none⟩ HC1.out.2.1) (fun e => by
    have := (HO.out.lt gx e.symm).2
    rw [HG.out] at this
    omega)
  have HC5 := Lib.hid (show w5.cell? ⟨q, i, none⟩ = some (.slice A 0 c) ∧ w5.cell? ⟨gx, 0, none⟩ = some (.string k) ∧ w5.cell? ⟨gx, 1, none⟩ = some (.int .i64 z) from ⟨cq5, (World.cell?_of_block (a := ⟨gx, 0, none⟩) hx5).trans HC1.out.2.1, (World.cell?_of_block (a := ⟨gx, 1, none⟩) hx5).trans HC1.out.2.2⟩)
  clear hb5 hg5 ho5 hat5 hx5
  refine hKK _ _ (.inr HC5.out) ?_
  clear hKK KK
  try simp only [Act.put, List.setIfInBounds_toArray, List.set_cons_succ, List.set_cons_zero]
  refine wpAnyE_take (i := 7) (by kernel_rfl) (by kernel_rfl) (v := .pointer (some ⟨q, i, none⟩)) rfl (by kernel_rfl) (by kernel_rfl) (by kernel_rfl) (fun _ _ _ h => h) HC5.out (by kernel_rfl) ?_ ?_
  · intro W hW; go_simp; try (with_reducible rfl)
  change wpAnyE _ _ _ _ _ _ _ _ (Act.put _ (some 11) (.pointer (some ⟨q, i, none⟩))) _
  try simp only [Act.put, List.setIfInBounds_toArray, List.set_cons_succ, List.set_cons_zero]
  refine wpAnyE_one 8 (by kernel_rfl) rfl (by kernel_rfl) (fun KK hKK => ?_)
  go_simp
  refine hKK _ _ (.inl rfl) ?_
  clear hKK KK
  refine ⟨by kernel_rfl, ?_⟩
  go_wp2_with fail
  go_end0
  have hil := (List.getElem?_eq_some_iff.1 HI.out).1
  have hq5 : RowB w5 q 146 xs := (HQ.out.ext HXW.out).kept HB5.out
  refine ⟨rfl, ?_, .slice (some ⟨g5, 0, none⟩) 1 c5, hq5.set i _ hil, ?_, ?_⟩
  · exact Mod.setCell ((Mod.of_ext _ HXW.out).grown HG5.out (fun k hk => .inl (.inr hk))) (.inl (.inl rfl)) _
  · refine LiOwn.keep HO5.out (fun g hg => Below.heap_setCell _ _ _ _ (fun e => ?_))
    have e' : g = q := e
    subst e'
    exact LiOwn.apart HO5.out hq5 (by decide) hg
  · rcases HAT.out with h | h
    · exact .inl h
    · exact .inr ⟨_, h, HXW.out.size⟩
/-- a queue that holds at most one key -/
def QAt (w : World) (B q : Nat) (r : Option Nat) (C : Int) (R : Option (ByteArray × Int)) : Prop := ∃ v, RowB w q 146 [.int .i64 C, v, .slice none 0 0, .slice none 0 0] ∧ LiOwn w B v R ∧ v.ownBlock = r
theorem QAt.keep {w w' : World} {B q : Nat} {r : Option Nat} {C : Int} {R : Option (ByteArray × Int)} (h : QAt w B q r C R) (hq : w'.heap[q]? = w.heap[q]?) (hr : ∀ g, r = some g → w'.heap[g]? = w.heap[g]?) : QAt w' B q r C R := by
  obtain ⟨v, h1, h2, h3⟩ := h
  exact ⟨v, h1.kept hq, h2.keep (fun g hg => hr g (h3.symm.trans hg)), h3⟩
theorem QAt.lt {w : World} {B q : Nat} {r : Option Nat} {C : Int} {R : Option (ByteArray × Int)} (h : QAt w B q r C R) : q < w.heap.size ∧ ∀ g, r = some g → B ≤ g ∧ g < w.heap.size := by
  obtain ⟨v, h1, h2, h3⟩ := h
  exact ⟨h1.lt, fun g hg => h2.lt g (h3.trans hg)⟩
theorem QAt.ext {w w' : World} {B q : Nat} {r : Option Nat} {C : Int} {R : Option (ByteArray × Int)} (h : QAt w B q r C R) (hx : Ext w w') : QAt w' B q r C R :=
  h.keep (Below.block hx q h.lt.1) (fun g hg => Below.block hx g (h.lt.2 g hg).2)
theorem QAt.mod {F : Nat → Prop} {w w' : World} {B q : Nat} {r : Option Nat} {C : Int} {R : Option (ByteArray × Int)} (h : QAt w B q r C R) (hm : Mod F w w') (hq : ¬ F q) (hr : ∀ g, r = some g → ¬ F g) : QAt w' B q r C R :=
  h.keep (hm.block q h.lt.1 hq) (fun g hg => hm.block g (h.lt.2 g hg).2 (hr g hg))
theorem itr_nil (w : World) : ItR w (.slice none 0 0) [] := ⟨none, 0, rfl, Nat.le_refl _, fun h => by simp at h⟩
theorem qnew_ok (C : Int) (h : 1 ≤ C) (h' : C ≤ 1099511627776) (w : World) :
    Calls Tryz.prog 34 #[.int .i64 C] w fun e w' => e = .returned (.tuple #[.pointer (some ⟨w.heap.size, 0, none⟩), .nilIface]) ∧ Ext w w' ∧ QAt w' w.heap.size w.heap.size none C none := by
  go_enter Tryz.func34, Tryz.ntmps34
  go_wp2_with fail
  go_ret2
  exact ⟨rfl, (Ext.refl w).alloc _, _, row_laid w 146 [.int .i64 C, .slice none 0 0, .slice none 0 0, .slice none 0 0], World.ownsRow_nil _ _ _ _, rfl⟩
theorem qnew_no (C : Int) (h : C < 1 ∨ 1099511627776 < C) (w : World) :
    Calls Tryz.prog 34 #[.int .i64 C] w fun e w' => e = .returned (.tuple #[.pointer none, errV 1]) ∧ w = w' := by
  rcases h with h | h
  · go_enter Tryz.func34, Tryz.ntmps34
    go_wp2_with fail
    go_ret2
    exact ⟨rfl, rfl⟩
  · have h' : ¬ C < 1 := by omega
    go_enter Tryz.func34, Tryz.ntmps34
    go_wp2_with fail
    go_ret2
    exact ⟨rfl, rfl⟩
theorem sum_nil (w : World) : Calls Tryz.prog 134 #[.slice none 0 0] w fun e w' => e = .returned (.int .i64 0) ∧ Ext w w' := sum_any (itr_nil w) (by simp) (by simp)
set_option maxRecDepth 100000 in
theorem used_any {w : World} {B q : Nat} {r : Option Nat} {C : Int} {R : Option (ByteArray × Int)} (h : QAt w B q r C R) (hs : ∀ p ∈ R.toList, 0 ≤ p.2 ∧ p.2 ≤ 1099511627776) :
    Calls Tryz.prog 133 #[.pointer (some ⟨q, 0, none⟩)] w fun e w' => e = .returned (.int .i64 (sumF R.toList)) ∧ Ext w w' := by
  obtain ⟨v, h1, h2, -⟩ := h
  have c1 := fun n : Wd w => n.ext.cell (h1.cell (j := 1) rfl)
  have c2 := fun n : Wd w => n.ext.cell (h1.cell (j := 2) rfl)
  have HI := Lib.hid h2.itr
  have HS := Lib.hid hs
  have HSB := sum_le R.toList hs
  have hl : R.toList.length ≤ 1 := by cases R <;> simp
  obtain ⟨S, hS⟩ : ∃ S, sumF R.toList = S := ⟨_, rfl⟩
  have HSS := Lib.hid hS
  rw [hS] at HSB ⊢
  have b1 : 0 ≤ S := HSB.1
  have b2 : S ≤ 1099511627776 := by omega
  have b3 : IntKind.i64.wrap (S + 0) = S := by rw [Int.add_zero]; exact IntWalk.i64_in _ (by omega)
  have HL := Lib.hid hl
  clear h1 h2 hs HSB hl hS
  go_enter Tryz.func133, Tryz.ntmps133
  go_upto_region 3 with fail
  refine wp_region_wd (by kernel_rfl) (by kernel_rfl) ?_
  repeat (go_big_quiet_step (first
    | (go_at_call_of 134 (Value.slice none 0 0); exact Calls.wd_of (sum_nil _))
    | (go_at_call_of 134 v; exact Calls.wd_of (HSS.out ▸ sum_any (HI.out.ext (Wd.ext _)) (by have := HL.out; omega) HS.out))))
  refine wpQuiet_nil ?_
  rintro _ ⟨nq, rfl⟩
  go_wp2_with fail
  go_ret
  exact ⟨ret_int (by omega), nq.ext⟩
theorem rem_any {w : World} {B q : Nat} {r : Option Nat} {C : Int} {R : Option (ByteArray × Int)} (h : QAt w B q r C R) {k : ByteArray} (hk : ∀ p, R = some p → p.1 = k) :
    Calls Tryz.prog 104 #[.pointer (some ⟨q, 1, none⟩), .string k] w fun e w' => e = .returned (.bool R.isSome) ∧ Mod (fun b => b = q ∨ r = some b) w w' ∧ QAt w' B q r C none := by
  have h0 := h
  obtain ⟨v, h1, h2, h3⟩ := h
  cases R with
  | none =>
    refine (remove_no (h1.cell (j := 1) rfl) h2.itr (by simp) k rfl).mono ?_
    rintro e w' ⟨rfl, hx⟩
    exact ⟨rfl, Mod.of_ext _ hx, h0.ext hx⟩
  | some p =>
    obtain ⟨k', z⟩ := p
    obtain rfl := hk _ rfl
    refine (remove_one h1 (i := 1) rfl h2).mono ?_
    rintro e w' ⟨rfl, hm, v', hq', ho', hb'⟩
    exact ⟨rfl, hm.mono (fun b _ hb => by rw [h3] at hb; exact hb), v', hq', ho', hb'.trans h3⟩
theorem rem_nil {w : World} {B q : Nat} {r : Option Nat} {C : Int} {R : Option (ByteArray × Int)} (h : QAt w B q r C R) (i : Nat) (hi : i = 2 ∨ i = 3) (k : ByteArray) :
    Calls Tryz.prog 104 #[.pointer (some ⟨q, i, none⟩), .string k] w fun e w' => e = .returned (.bool false) ∧ Ext w w' := by
  obtain ⟨v, h1, h2, h3⟩ := h
  rcases hi with rfl | rfl
  · exact remove_no (h1.cell (j := 2) rfl) (itr_nil w) (by simp) k rfl
  · exact remove_no (h1.cell (j := 3) rfl) (itr_nil w) (by simp) k rfl
theorem push_any {w : World} {B q : Nat} {r : Option Nat} {C : Int} (h : QAt w B q r C none) (hB : B ≤ w.heap.size) (k : ByteArray) (z : Int) :
    Calls Tryz.prog 105 #[.pointer (some ⟨q, 1, none⟩), .agg #[.string k, .int .i64 z]] w fun e w' => e = .returned (.tuple #[]) ∧ Mod (fun b => b = q ∨ r = some b) w w' ∧ ∃ r', QAt w' B q r' C (some (k, z)) ∧ (r' = r ∨ ∃ g, r' = some g ∧ w.heap.size ≤ g) := by
  obtain ⟨v, h1, h2, h3⟩ := h
  refine (push_one h1 (i := 1) rfl h2 hB).mono ?_
  rintro e w' ⟨rfl, hm, v', hq', ho', hb'⟩
  exact ⟨rfl, hm.mono (fun b _ hb => by rw [h3] at hb; exact hb), _, ⟨v', hq', ho', rfl⟩, by rw [h3] at hb'; exact hb'⟩
theorem QAt.cap {w : World} {B q : Nat} {r : Option Nat} {C : Int} {R : Option (ByteArray × Int)} (h : QAt w B q r C R) : w.cell? ⟨q, 0, none⟩ = some (.int .i64 C) := by
  obtain ⟨v, h1, h2, h3⟩ := h
  exact h1.cell (j := 0) rfl
set_option maxRecDepth 100000 in
theorem put_fits {w : World} {B q : Nat} {r : Option Nat} {C : Int} {R : Option (ByteArray × Int)} (h : QAt w B q r C R) (hB : B ≤ w.heap.size) {k : ByteArray} (hk : ∀ p, R = some p → p.1 = k) (z : Int) (hz : 1 ≤ z) (hzC : z ≤ C) (hC : C ≤ 1099511627776) :
    Calls Tryz.prog 91 #[.pointer (some ⟨q, 0, none⟩), .string k, .int .i64 z] w fun e w' => e = .returned (.slice none 0 0) ∧ Mod (fun b => b = q ∨ r = some b) w w' ∧ Hid (∃ r', QAt w' B q r' C (some (k, z)) ∧ (r' = r ∨ ∃ g, r' = some g ∧ w.heap.size ≤ g)) := by
  have HR := Lib.hid (rem_any h hk)
  have HN := Lib.hid (fun W (hq : QAt W B q r C none) i hi => rem_nil hq i hi k)
  have hm : max z 1 = z := by omega
  obtain ⟨b0, hb0⟩ : ∃ b, R.isSome = b := ⟨_, rfl⟩
  rw [hb0] at HR
  have HBS := Lib.hid hB
  clear hb0 h hk hB
  go_enter Tryz.func91, Tryz.ntmps91
  go_upto_region 5 with (go_at_call 104; refine HR.out.mono ?_; rintro e w1 ⟨rfl, hm1, hq1⟩)
  have HM1 := Lib.hid hm1
  have HQ1 := Lib.hid hq1
  clear hm1 hq1
  go_upto_region 6 with (go_at_call 104; refine (HN.out _ HQ1.out 2 (.inl rfl)).mono ?_; rintro e w2 ⟨rfl, hx2⟩)
  have HQ2 := Lib.hid (HQ1.out.ext hx2)
  have HM2 := Lib.hid (HM1.out.ext' hx2)
  clear hx2
  go_upto_region 7 with (go_at_call 104; refine (HN.out _ HQ2.out 3 (.inr rfl)).mono ?_; rintro e w3 ⟨rfl, hx3⟩)
  have HQ3 := Lib.hid (HQ2.out.ext hx3)
  have HM3 := Lib.hid (HM2.out.ext' hx3)
  have c0 := HQ3.out.cap
  have HPU := Lib.hid (push_any HQ3.out (Nat.le_trans HBS.out HM3.out.size) k z)
  clear hx3
  go_upto_region 12 with (go_at_call 105; refine HPU.out.mono ?_; rintro e w4 ⟨rfl, hm4, r4, hq4, hr4⟩)
  have HM4 := Lib.hid (HM3.out.trans hm4)
  have HQ4 := Lib.hid hq4
  have HR4 := Lib.hid (show r4 = r ∨ ∃ g, r4 = some g ∧ w.heap.size ≤ g from hr4.imp id (fun ⟨g, h1, h2⟩ => ⟨g, h1, Nat.le_trans HM3.out.size h2⟩))
  have cC := fun n : Wd w4 => n.ext.cell hq4.cap
  have HU := Lib.hid (fun n : Wd w4 => used_any (hq4.ext n.ext) (by simp; omega))
  have hs1 : sumF (some (k, z)).toList = z := by simp [sumF]
  rw [hs1] at HU
  have hzn : ¬ C < z := by omega
  clear hm4 hq4 hr4 hs1 c0
  go_wp2_with fail
  refine wp_loop_rounds 1 ?_
  rw [rounds_succ]
  go_wp2_with fail
  refine wp_region_wd (by kernel_rfl) (by kernel_rfl) ?_
  repeat (go_big_quiet_step ((go_at_call 133; exact Calls.wd_of (HU.out _))))
  refine wpQuiet_nil ?_
  rintro _ ⟨nq, rfl⟩
  go_wp2_with fail
  go_ret
  exact ⟨rfl, HM4.out.ext' nq.ext, Lib.hid ⟨r4, HQ4.out.ext nq.ext, HR4.out⟩⟩
set_option maxRecDepth 100000 in
theorem put_big {w : World} {B q : Nat} {r : Option Nat} {C : Int} {R : Option (ByteArray × Int)} (h : QAt w B q r C R) {k : ByteArray} (hk : ∀ p, R = some p → p.1 = k) (z : Int) (hz : 1 ≤ z) (hzC : C < z) :
    Calls Tryz.prog 91 #[.pointer (some ⟨q, 0, none⟩), .string k, .int .i64 z] w fun e w' => ∃ g, e = .returned (.slice (some ⟨g, 0, none⟩) 1 1) ∧ Mod (fun b => b = q ∨ r = some b) w w' ∧ QAt w' B q r C none ∧ Hid (w'.cell? ⟨g, 0, none⟩ = some (.string k) ∧ w.heap.size ≤ g) := by
  have HR := Lib.hid (rem_any h hk)
  have HN := Lib.hid (fun W (hq : QAt W B q r C none) i hi => rem_nil hq i hi k)
  have hm : max z 1 = z := by omega
  obtain ⟨b0, hb0⟩ : ∃ b, R.isSome = b := ⟨_, rfl⟩
  rw [hb0] at HR
  clear hb0 h hk
  go_enter Tryz.func91, Tryz.ntmps91
  go_upto_region 5 with (go_at_call 104; refine HR.out.mono ?_; rintro e w1 ⟨rfl, hm1, hq1⟩)
  have HM1 := Lib.hid hm1
  have HQ1 := Lib.hid hq1
  clear hm1 hq1
  go_upto_region 6 with (go_at_call 104; refine (HN.out _ HQ1.out 2 (.inl rfl)).mono ?_; rintro e w2 ⟨rfl, hx2⟩)
  have HQ2 := Lib.hid (HQ1.out.ext hx2)
  have HM2 := Lib.hid (HM1.out.ext' hx2)
  clear hx2
  go_upto_region 7 with (go_at_call 104; refine (HN.out _ HQ2.out 3 (.inr rfl)).mono ?_; rintro e w3 ⟨rfl, hx3⟩)
  have HQ3 := Lib.hid (HQ2.out.ext hx3)
  have HM3 := Lib.hid (HM2.out.ext' hx3)
  have c0 := HQ3.out.cap
  clear hx3
  go_wp2_with fail
  go_ret
  exact ⟨_, rfl, HM3.out.alloc _, HQ3.out.ext ((Ext.refl w3).alloc _), Lib.hid ⟨by simp, HM3.out.size⟩⟩
set_option maxRecDepth 100000 in
theorem touch_one {w : World} {B q : Nat} {r : Option Nat} {C : Int} {R : Option (ByteArray × Int)} (h : QAt w B q r C R) (k : ByteArray) :
    Calls Tryz.prog 55 #[.pointer (some ⟨q, 0, none⟩), .string k] w fun e w' => (∃ b, e = .returned (.bool b)) ∧ Ext w w' := by
  obtain ⟨v, h1, h2, h3⟩ := h
  have c1 := h1.cell (j := 1) rfl
  have c2 := h1.cell (j := 2) rfl
  have HI := Lib.hid (fun W (hx : Ext w W) => index_any (h2.itr.ext hx) (by cases R <;> simp) k)
  have HN := Lib.hid (fun W => index_any (itr_nil W) (by simp) k)
  obtain ⟨b, hb⟩ : ∃ b, idxF k R.toList = b := ⟨_, rfl⟩
  rw [hb] at HI
  clear h1 h2 hb
  go_enter Tryz.func55, Tryz.ntmps55
  go_wp2_with (first
    | (go_at_call_of 103 (Value.slice none 0 0); refine (HN.out _).mono ?_; rw [idx_nil]; rintro e w1 ⟨rfl, hx1⟩; have c1' := hx1.cell c1)
    | (go_at_call_of 103 v; refine (HI.out _ hx1).mono ?_; rintro e w2 ⟨rfl, hx2⟩))
  all_goals go_ret
  all_goals exact ⟨⟨_, rfl⟩, hx1.trans hx2⟩
end Go.Proofs.YtfgjbbpkkbohhaaGreat
