/- Chapter 09: what Multipart writes, and what is read of it (plain). Chapter 09: a slice of bytes that came of a text and grows; the body of a Multi. Chapter 09: the reference's Multipart. Chapter 09: the program's Multipart. Chapter 09: the program's Multipart: the walk. -/
import Derived.Test.YteamnofooicbeaaDoorGD
import Derived.Test.YteamnofooicbeaaDoorRdL
import Derived.ArgAppend
import Derived.Test.YteamnofooicbeaaDoorSh8
import Derived.Lib.AppendStr
import Derived.Laws.IdiomStrings
namespace Go.Proofs.YteamnofooicbeaaDoor
open Go.RowKit
theorem cut_crl {x y : List UInt8} (h : ∀ c ∈ x, c ≠ 13) : Lib.cut (x ++ ([13, 10] ++ y)) [13, 10] = (x, y, true) := by
  have hi : Lib.index (x ++ ([13, 10] ++ y)) [13, 10] = ((x.length : Nat) : Int) := index_gen ((occ_two _ _).2 ⟨by simp, by simp⟩) (by simp) (fun j hj => by
    rw [← Bool.not_eq_true, occ_two]
    rintro ⟨e1, -⟩
    rw [List.getElem?_append_left hj] at e1
    exact h _ (List.mem_of_getElem? e1) rfl)
  unfold Lib.cut
  rw [hi, if_pos (by omega)]
  simp
theorem ba_list (s : ByteArray) : (⟨s.data.toList.toArray⟩ : ByteArray) = s := by cases s; simp
theorem cutB_app {x y : ByteArray} (h : ∀ c ∈ x.data.toList, c ≠ 13) : cutB (x ++ (crlB ++ y)) = (x, y, true) := by
  unfold cutB
  rw [app_list, app_list, show crlB.data.toList = [13, 10] from rfl, cut_crl h, ba_list, ba_list]
theorem aft_pre (p x : ByteArray) : aft p (p ++ x) = x := bs_ext (by
  rw [ByteArray.toList_eq, ByteArray.toList_eq, aft_list, app_list]
  simp)
theorem pfxB_pre (p x : ByteArray) : pfxB p (p ++ x) = true := by
  unfold pfxB
  rw [app_list]
  exact List.isPrefixOf_iff_prefix.2 (List.prefix_append _ _)
def cr2 : ByteArray := ⟨#[13, 10, 67, 111, 110, 116, 101, 110, 116, 45, 82, 97, 110, 103, 101, 58, 32]⟩
def cr4 : ByteArray := ⟨#[13, 10, 13, 10]⟩
/-- a part's head, as both write it -/
def headS (b k c : ByteArray) : ByteArray := hdB b ++ k ++ cr2 ++ c ++ cr4
def partS (b k c d : ByteArray) : ByteArray := headS b k c ++ d ++ crlB
theorem part_app (b k c d r : ByteArray) : partS b k c d ++ r = hdB b ++ (k ++ (crlB ++ (crB ++ (c ++ (crlB ++ (crlB ++ (d ++ (crlB ++ r)))))))) := by
  have h2 : cr2.data.toList = crlB.data.toList ++ crB.data.toList := rfl
  have h4 : cr4.data.toList = crlB.data.toList ++ crlB.data.toList := rfl
  unfold partS headS
  refine bs_ext ?_
  rw [ByteArray.toList_eq, ByteArray.toList_eq]
  simp only [app_list, h2, h4, List.append_assoc]
theorem part_fin {b k c d r : ByteArray} : partS b k c d ++ r ≠ finB b := by
  intro e
  rw [part_app] at e
  have h := pfxB_size (p := hdB b) (s := finB b) (by rw [← e]; exact pfxB_pre _ _)
  unfold hdB finB at h
  rw [app_size, app_size, app_size, app_size] at h
  have h1 : (⟨#[13, 10, 67, 111, 110, 116, 101, 110, 116, 45, 84, 121, 112, 101, 58, 32]⟩ : ByteArray).size = 16 := rfl
  have h2 : (⟨#[45, 45, 13, 10]⟩ : ByteArray).size = 4 := rfl
  omega
theorem kind_noCR {k : ByteArray} (h : kindF k = true) : ∀ c ∈ k.data.toList, c ≠ 13 := by
  unfold kindF at h
  rw [Bool.and_eq_true] at h
  have h1 := h.1
  unfold cleanF at h1
  rw [decide_eq_true_iff] at h1
  intro c hc e
  obtain ⟨i, hi, hic⟩ := List.getElem_of_mem hc
  have hi' : i < k.size := by rw [Lib.size_eq]; exact hi
  have h2 := h1 i hi'
  have h3 := byt_list k i hi'
  rw [List.getElem?_eq_getElem hi, hic, e] at h3
  rw [byt_is hi', ← Option.some.inj h3] at h2
  exact absurd h2 (by decide)
theorem cr_noCR {f t n : Int} (h : okC f t n = true) : ∀ c ∈ (crS f t n).data.toList, c ≠ 13 := by
  obtain ⟨⟨h1, h2, h3⟩, h4, h5, -⟩ := okC_parts h
  rw [crS_list, show (bs (cpL ++ (Lib.itoa f ++ 45 :: (Lib.itoa (t - 1) ++ 47 :: Lib.itoa n)))).data.toList = cpL ++ (Lib.itoa f ++ 45 :: (Lib.itoa (t - 1) ++ 47 :: Lib.itoa n)) from by unfold bs; simp]
  intro c hc e
  subst e
  have hd : ∀ m : Int, 0 ≤ m → ¬ (13 : UInt8) ∈ Lib.itoa m := fun m hm hx => by
    have := (itoa_dig hm _ hx).1
    exact absurd this (by decide)
  simp only [cpL, List.mem_append, List.mem_cons, List.not_mem_nil] at hc
  rcases hc with hc | hc | hc | hc | hc | hc
  · rcases hc with hc | hc | hc | hc | hc | hc | hc <;> first | cases hc | (exact absurd hc (by decide))
  · exact hd f h1 hc
  · exact absurd hc (by decide)
  · exact hd (t - 1) (by omega) hc
  · exact absurd hc (by decide)
  · exact hd n (by omega) hc
theorem hold_part {s p : ByteArray} (h : holdF s p = false) (f t : Nat) : holdF (s.extract f t) p = false := by
  refine holdF_no fun j hj => ?_
  rw [← Bool.not_eq_true]
  intro hx
  unfold Lib.occAt at hx
  rw [show (s.extract f t).data.toList = (s.data.toList.drop f).take (t - f) by rw [← ByteArray.toList_eq, Lib.extract_toList]] at hx
  have h1 : p.data.toList <+: (s.data.toList.drop f).drop j := by
    have h2 := List.isPrefixOf_iff_prefix.1 hx
    rw [List.drop_take] at h2
    exact h2.trans (List.take_prefix _ _)
  rw [List.drop_drop] at h1
  by_cases hle : f + j ≤ s.size
  · have h3 := holdF_at (s := s) (p := p) (i := f + j) hle (by unfold Lib.occAt; exact List.isPrefixOf_iff_prefix.2 h1)
    rw [h] at h3
    cases h3
  · have hp : p.data.toList = [] := List.length_eq_zero_iff.1 (by
      rw [ByteArray.size_extract] at hj
      rw [← Lib.size_eq]
      omega)
    have h3 := holdF_at (s := s) (p := p) (i := 0) (Nat.zero_le _) (by unfold Lib.occAt; rw [hp]; rfl)
    rw [h] at h3
    cases h3
theorem ext_app (d r : ByteArray) : (d ++ r).extract 0 d.size = d ∧ (d ++ r).extract d.size (d ++ r).size = r := by
  constructor
  · refine bs_ext ?_
    rw [ext_list, ByteArray.toList_eq, ByteArray.toList_eq, app_list, Lib.size_eq]
    simp
  · exact aft_pre d r
/-- a part that was written is read -/
theorem part_read {b k d r : ByteArray} {f t n : Int} {st : Option (ByteArray × Int)} (hk : kindF k = true) (hc : okC f t n = true) (hst : st = none ∨ st = some (k, n)) (hd : szI f t = d.size) (hh : holdF d b = false) :
    partF b (partS b k (crS f t n) d ++ r) st = some ((f, t, d), (k, n), r) := by
  have e1 : k1 b (partS b k (crS f t n) d ++ r) = (k, crB ++ (crS f t n ++ (crlB ++ (crlB ++ (d ++ (crlB ++ r))))), true) := by
    unfold k1
    rw [part_app, aft_pre, cutB_app (kind_noCR hk)]
  have e2 : k2 b (partS b k (crS f t n) d ++ r) = (crS f t n, crlB ++ (d ++ (crlB ++ r)), true) := by
    unfold k2
    rw [e1]
    simp only
    rw [aft_pre, cutB_app (cr_noCR hc)]
  have e3 : eB b (partS b k (crS f t n) d ++ r) = d ++ (crlB ++ r) := by
    unfold eB
    rw [e2]
    exact aft_pre _ _
  obtain ⟨x1, x2⟩ := ext_app d (crlB ++ r)
  have hP : okP b (partS b k (crS f t n) d ++ r) := by
    refine ⟨by rw [part_app]; exact pfxB_pre _ _, by rw [e1], by rw [e1]; exact pfxB_pre _ _, by rw [e2], by rw [e2]; exact pfxB_pre _ _⟩
  have hcr : crO (k2 b (partS b k (crS f t n) d ++ r)).1 = some (f, t, n) := by rw [e2]; exact crO_yes hc rfl
  have hcond : condP b (partS b k (crS f t n) d ++ r) st f t n := by
    unfold condP
    rw [e1, e3, hd, x1, x2]
    refine ⟨hk, hst, ?_, pfxB_pre _ _, hh⟩
    rw [app_size]
    omega
  rw [part_yes hP hcr hcond, e1, e3, hd, x1, x2, aft_pre]
/-- what lies between -/
def cutO (body : ByteArray) (p : Int × Int) : ByteArray := body.extract p.1.toNat p.2.toNat
def preS (b k body : ByteArray) (n : Int) : List (Int × Int) → ByteArray
  | [] => ⟨#[]⟩
  | p :: l => partS b k (crS p.1 p.2 n) (cutO body p) ++ preS b k body n l
theorem app_assoc (a b c : ByteArray) : a ++ b ++ c = a ++ (b ++ c) := bs_ext (by
  rw [ByteArray.toList_eq, ByteArray.toList_eq]
  simp only [app_list, List.append_assoc])
theorem app_nil (a : ByteArray) : a ++ (⟨#[]⟩ : ByteArray) = a := bs_ext (by
  rw [ByteArray.toList_eq, ByteArray.toList_eq, app_list]
  simp)
theorem preS_snoc (b k body : ByteArray) (n : Int) (p : Int × Int) : ∀ l, preS b k body n (l ++ [p]) = preS b k body n l ++ partS b k (crS p.1 p.2 n) (cutO body p)
  | [] => by
    show partS b k (crS p.1 p.2 n) (cutO body p) ++ ⟨#[]⟩ = ⟨#[]⟩ ++ partS b k (crS p.1 p.2 n) (cutO body p)
    rw [app_nil, empty_app]
  | q :: l => by
    show partS b k (crS q.1 q.2 n) (cutO body q) ++ preS b k body n (l ++ [p]) = partS b k (crS q.1 q.2 n) (cutO body q) ++ preS b k body n l ++ partS b k (crS p.1 p.2 n) (cutO body p)
    rw [preS_snoc b k body n p l, app_assoc]
theorem rd_written {b k body : ByteArray} (hk : kindF k = true) (hh : holdF body b = false) : ∀ (l : List (Int × Int)) (st : Option (ByteArray × Int)), (∀ p ∈ l, okC p.1 p.2 body.size = true) → (st = none ∨ st = some (k, (body.size : Int))) → (l ≠ [] ∨ st = some (k, (body.size : Int))) →
    rdF b (preS b k body body.size l ++ finB b) st = some (l.map fun p => (p.1, p.2, cutO body p), (body.size : Int))
  | [], st, _, _, h => by
    have hs : st = some (k, (body.size : Int)) := by
      rcases h with h | h
      · exact absurd rfl h
      · exact h
    show rdF b (⟨#[]⟩ ++ finB b) st = _
    rw [empty_app, rd_fin rfl, hs]
    rfl
  | p :: l, st, hall, hst, _ => by
    obtain ⟨f, t⟩ := p
    have hc := hall (f, t) (by simp)
    obtain ⟨⟨h1, h2, h3⟩, h4, -, -⟩ := okC_parts hc
    simp only at h1 h2 h3 h4
    have hsz : szI f t = (cutO body (f, t)).size := by
      unfold szI cutO
      rw [ByteArray.size_extract]
      simp only
      omega
    show rdF b (partS b k (crS f t body.size) (cutO body (f, t)) ++ preS b k body body.size l ++ finB b) st = _
    rw [app_assoc, rd_step part_fin (part_read hk hc hst hsz (hold_part hh _ _)), rd_written hk hh l (some (k, (body.size : Int))) (fun q hq => hall q (by simp [hq])) (.inr rfl) (.inr rfl)]
    rfl
end Go.Proofs.YteamnofooicbeaaDoor
namespace Go.Proofs.YteamnofooicbeaaDoor
open Go.RowKit Go.Deep
theorem u8_info : (Tryd.prog.info? 5).map (fun i => (i.zero, i.size, i.bytes)) = some (some (.int .u8 0), 1, 1) := by kernel_rfl
/-- bytes of the call's own, whatever lies behind them -/
def GB (w : World) (B : Nat) (v : Value) (xs : List Int) : Prop := ∃ g cap cur fr, v = .slice (some ⟨g, 0, none⟩) xs.length cap ∧ B ≤ g ∧ w.heap[g]? = some (.cells cur 5 fr) ∧ (∀ j, fr.1 ≤ j → j < fr.2 → cur.size ≤ j) ∧ xs.length ≤ cap ∧ cur.size = cap ∧ cur.toList.take xs.length = xs.map (Value.int .u8)
theorem GB.row {w : World} {B : Nat} {v : Value} {xs : List Int} (h : GB w B v xs) : ∃ g cap, v = .slice (some ⟨g, 0, none⟩) xs.length cap ∧ B ≤ g ∧ RowB w g 5 (xs.map (Value.int .u8)) := by
  obtain ⟨g, cap, cur, fr, rfl, hB, hh, hf, hl, hc, ht⟩ := h
  exact ⟨g, cap, rfl, hB, cur, fr, cur.toList.drop xs.length, hh, hf, by rw [← ht, List.take_append_drop]⟩
theorem GB.ext {w w' : World} {B : Nat} {v : Value} {xs : List Int} (h : GB w B v xs) (hx : Ext w w') : GB w' B v xs := by
  obtain ⟨g, cap, cur, fr, rfl, hB, hh, r⟩ := h
  exact ⟨g, cap, cur, fr, rfl, hB, (Below.block hx g (Array.getElem?_eq_some_iff.1 hh).1).trans hh, r⟩
theorem GB.slice {w : World} {B : Nat} {v : Value} {xs : List Int} (h : GB w B v xs) : ∃ g cap, v = .slice (some ⟨g, 0, none⟩) xs.length cap ∧ xs.length ≤ cap := by
  obtain ⟨g, cap, cur, fr, rfl, hB, hh, hf, hl, hc, ht⟩ := h
  exact ⟨g, cap, rfl, hl⟩
theorem GB.of_own {w : World} {B n : Nat} {v : Value} {xs : List Int} (h : w.ownsRow B 5 1 v n (xs.map (Value.int .u8))) (hn : 0 < n) : GB w B v xs := by
  have hlen : xs.length = n := by have := h.1; simpa using this
  rcases h.2 with ⟨_, e⟩ | ⟨g, cap, cur, rfl, hB, hh, hl, _, hc, ht⟩
  · omega
  · refine ⟨g, cap, cur, (0, 0), by rw [hlen], hB, hh, fun j _ h2 => absurd h2 (by omega), by omega, by omega, ?_⟩
    rw [hlen]
    simpa using ht
theorem wpList_append_gb (w : World) {ops : Array Oper} {rest : List Oper} {o : Oper} {a : Act} {Q : Exit → Act → World → Prop} (hg : o.guard = none) (s x : Operand)
    (ho : o.op = .call { callee := .builtin .append, args := #[s, x], argTypes := #[60, 60] })
    (B : Nat) {v : Value} {xs : List Int} (y : Int) (h : GB w B v xs) (hs : a.eval s = v) {G : Nat} (hx : a.eval x = .slice (some ⟨G, 0, none⟩) 1 1) (hG : G = w.heap.size) (hlen : xs.length ≤ 1000000000) (hB : B ≤ w.heap.size)
    (hK : ∀ v' w', GB w' B v' (xs ++ [y]) → Below B w w' → wpList Tryd.prog ops Q rest (a.put o.dst v') w') :
    wpList Tryd.prog ops Q (o :: rest) a (w.alloc (.cells #[.int .u8 y] 5)) := by
  subst hG
  obtain ⟨i0, hi0, hz0, hz1, hz2⟩ := info_parts u8_info
  have hX : Ext w (w.alloc (.cells #[.int .u8 y] 5)) := (Ext.refl w).alloc _
  have hb1 : Below B w (w.alloc (.cells #[.int .u8 y] 5)) := (Below.refl B w).alloc hB _
  have h' := h.ext hX
  obtain ⟨g, cap, cur, fr, rfl, hBg, hh, hf, hl, hc, ht⟩ := h'
  have hcell : ∀ j u, (xs.map (Value.int .u8))[j]? = some u → (w.alloc (.cells #[.int .u8 y] 5)).cell? ⟨g, 0 + j, none⟩ = some u := by
    intro j u hu
    rw [Nat.zero_add, cell_of_row _ g j cur 5 fr hh]
    rw [← ht, List.getElem?_take] at hu
    split at hu
    · simpa using hu
    · cases hu
  refine wpList_append_arg _ hg s x 60 ho 5 i0 _ 1 1 Tryd.underlying60 hi0 hz0 hz1 hz2 rfl (by decide) g 0 xs.length cap (xs.map (Value.int .u8)) hs (by simp) hcell ⟨w.heap.size, 0, none⟩ 1 1 [.int .u8 y] hx rfl ?_ ?_ ?_ ?_ ?_ ?_ ?_
  · intro j u hu
    match j, hu with
    | 0, hu =>
      simp at hu
      subst hu
      simp [Addr.add]
  · intro u hu
    simp at hu
    subst hu
    rfl
  · intro hr j hj
    have hj0 : j = 0 := by simp at hj; exact hj
    subst hj0
    have hlt : xs.length < cur.size := by omega
    constructor
    · rw [cell_of_row _ g _ cur 5 fr hh]
      simp [hlt]
    · simp only [World.frozen?, hh, Bool.and_eq_false_iff, decide_eq_false_iff_not]
      by_cases h1 : fr.1 ≤ 0 + xs.length * 1 + 0
      · right
        intro h2
        have := hf _ h1 h2
        omega
      · exact .inl h1
  · simp only [maxLen]; omega
  · omega
  · intro hr
    have hlt : xs.length < cur.size := by omega
    refine hK _ _ ⟨g, cap, cur.setIfInBounds xs.length (.int .u8 y), fr, by simp, hBg, ?_, ?_, by simp; omega, by simpa using hc, ?_⟩ ?_
    · simp only [World.setCells, Nat.zero_add, Nat.mul_one]
      simp [World.setCell, Array.getElem?_modify, hh]
    · intro k h1 h2; simpa using hf k h1 h2
    · rw [Array.toList_setIfInBounds, List.length_append, List.map_append, ← ht]
      simp only [List.length_cons, List.length_nil, List.map_cons, List.map_nil]
      have hl2 : xs.length < cur.toList.length := by simpa using hlt
      rw [List.take_succ_eq_append_getElem (by simpa using hl2)]
      simp only [List.getElem_set_self, List.take_set]
      rw [List.set_eq_of_length_le (by rw [List.length_take]; omega)]
    · simp only [World.setCells]
      exact hb1.setCell (p := ⟨g, 0 + xs.length * 1, none⟩) hBg _
  · intro hr v' w' hown hgr
    refine hK v' w' (GB.of_own (n := xs.length + 1) ?_ (by omega)) (hb1.grown hgr (Nat.le_trans hB hX.size) (fun k hk => by cases hk))
    rw [List.map_append]
    exact own_more hown (Nat.le_trans hB hX.size)
/-- '[]byte(s)' as such a slice -/
def numsOf (s : ByteArray) : List Int := s.data.toList.map fun b => (b.toNat : Int)
theorem numsOf_length (s : ByteArray) : (numsOf s).length = s.size := by unfold numsOf; rw [List.length_map, ← Lib.size_eq]
theorem wpList_gb_of_string (w : World) {ops : Array Oper} {rest : List Oper} {o : Oper} {a : Act} {Q : Exit → Act → World → Prop}
    (hgd : o.guard = none) (x : Operand) (ho : o.op = Op.convert 9 60 x) (s : ByteArray) (hx : a.eval x = .string s)
    (hK : ∀ w' v, Ext w w' → GB w' w.heap.size v (numsOf s) → wpList Tryd.prog ops Q rest (a.put o.dst v) w') :
    wpList Tryd.prog ops Q (o :: rest) a w := by
  refine wpList_plain hgd fun K hK' => ?_
  have hrun := run_bytes_of_string (P := Tryd.prog) w 9 60 5 s Tryd.underlying9 Tryd.underlying60 Tryd.underlying5
  unfold Oper.wp
  simp only [execOp, ho, hx, Sem.run_bind, hrun, Result.andThen]
  refine hK' _ _ (hK _ _ ((Ext.refl w).drew.trans (Ext.alloc (Ext.refl _) _)) ?_)
  have hge := grownCap_ge w s.size 0 5
  refine ⟨w.heap.size, grownCap w s.size 0 5, bytesRow s (grownCap w s.size 0 5), ((bytesRow s (grownCap w s.size 0 5)).size, (bytesRow s (grownCap w s.size 0 5)).size + 1), by rw [numsOf_length], Nat.le_refl _, ?_, ?_, by rw [numsOf_length]; exact hge, ?_, ?_⟩
  · show (w.heap.push _)[w.heap.size]? = _
    simp
  · intro j h1 _; exact h1
  · unfold bytesRow
    simp
    omega
  · have hb : (bytesRow s (grownCap w s.size 0 5)).toList = (s.data.toList.map fun b => Value.int .u8 b.toNat) ++ List.replicate (grownCap w s.size 0 5 - s.size) (.int .u8 0) := by
      unfold bytesRow
      simp
    rw [numsOf_length, hb, List.take_append_of_le_length (by rw [List.length_map, ← Lib.size_eq]; exact Nat.le_refl _), List.take_of_length_le (by rw [List.length_map, ← Lib.size_eq]; exact Nat.le_refl _)]
    unfold numsOf
    rw [List.map_map]
    rfl
set_option maxRecDepth 100000 in
/-- the body of a Multi: some text -/
theorem body_any (b k g : ByteArray) (lv : Value) (sz : Int) (hz : 0 ≤ sz ∧ sz ≤ 65535) (hg : g.size ≤ 3000) (w : World) :
    Calls Tryd.prog 38 #[.agg #[.string b, .string k, lv, .int .u16 sz, .string g]] w fun e w' => ∃ s : ByteArray, e = .returned (.string s) ∧ s.size ≤ 3000 ∧ Ext w w' := by
  go_enter Tryd.func38, Tryd.ntmps38
  go_upto_region 1 with fail
  obtain ⟨wa, hwa⟩ : ∃ x, x = w.alloc (.cells #[.string b, .string k, lv, .int .u16 sz, .string g] 88) := ⟨_, rfl⟩
  have XA : Ext w wa := by rw [hwa]; exact (Ext.refl w).alloc _
  have hrow : RowB wa w.heap.size 88 [.string b, .string k, lv, .int .u16 sz, .string g] := by rw [hwa]; exact row_laid w 88 [.string b, .string k, lv, .int .u16 sz, .string g]
  rw [← hwa]
  clear hwa
  have HROW := Lib.hid hrow
  have HXA := Lib.hid XA
  have c4 := hrow.cell (j := 4) rfl
  have hm : ((sz : Int).tmod 2000) = sz % 2000 := by rw [Int.tmod_eq_emod_of_nonneg hz.1]
  clear hrow XA
  go_upto_region 2 with ((with_reducible show wpList _ _ _ _ _ _); refine wpList_gb_of_string _ rfl _ rfl g rfl ?_; intro w1 v1 hx1 hgb1)
  clear c4
  obtain ⟨g1, cap1, rfl, hc1⟩ := hgb1.slice
  have HGB1 := Lib.hid (hgb1)
  have hn1 := numsOf_length g
  have HX1 := Lib.hid (HXA.out.trans hx1)
  have HR1 := Lib.hid (HROW.out.ext hx1)
  obtain ⟨B, hB⟩ : ∃ q, wa.heap.size = q := ⟨_, rfl⟩
  have HB := Lib.hid (show w.heap.size < B ∧ B ≤ w1.heap.size from ⟨by rw [← hB]; exact HROW.out.lt, by rw [← hB]; exact hx1.size⟩)
  rw [hB] at HGB1
  clear hgb1 hB hx1
  rw [hn1] at hc1 ⊢
  go_wp2_with fail
  go_loopw [3, 4] (fun v i wr => ∃ (xs : List Int) (q cap : Nat), v = .slice (some ⟨q, 0, none⟩) xs.length cap ∧ xs.length ≤ cap ∧ i = .int .i64 (xs.length : Nat) ∧ xs.length ≤ 3000 ∧ Hid (GB wr B v xs ∧ Below B w1 wr)) (fun _ i _ => 3000 - (intOf i).toNat)
  case atStart => exact ⟨numsOf g, g1, cap1, by rw [hn1], by omega, by rw [hn1], by omega, Lib.hid ⟨by have h := HGB1.out; rwa [hn1] at h, Below.refl _ _⟩⟩
  case round =>
    obtain ⟨xs, q, cap, rfl, hcap, rfl, hlen, HS⟩ := hrel
    have c3 := (HR1.out.below HS.out.2 HB.out.1).cell (j := 3) rfl
    obtain ⟨l, hl⟩ : ∃ l, xs.length = l := ⟨_, rfl⟩
    have HL := Lib.hid hl
    rw [hl] at hcap hlen HS ⊢
    clear hl
    have HSZ := Lib.hid (Nat.le_trans HB.out.2 HS.out.2.size)
    have hz2 : (sz : Int) % 2000 < 2000 := Int.emod_lt_of_pos _ (by decide)
    by_cases hlt : (l : Int) < sz % 2000
    · go_wp2_with (at_builtin; refine wpList_append_gb _ rfl _ _ rfl B _ HS.out.1 rfl rfl rfl (by have := HL.out; omega) HSZ.out ?_; intro v2 w2 hgb2 hb2)
      obtain ⟨g2, cap2, rfl, hc2⟩ := hgb2.slice
      have hx2 : (xs ++ [(l : Int) % 256]).length = l + 1 := by rw [List.length_append, HL.out]; rfl
      refine ⟨⟨xs ++ [(l : Int) % 256], g2, cap2, rfl, hc2, by rw [hx2]; rfl, by rw [hx2]; omega, Lib.hid ⟨hgb2, HS.out.2.trans hb2⟩⟩, ?_⟩
      simp [intOf]
      omega
    · have hcv : (convert 60 9 (.slice (some ⟨q, 0, none⟩) l cap)).run Tryd.prog wr = .ok (.string (strOfNums xs)) wr := by
        obtain ⟨q', cap', e, -, hr⟩ := HS.out.1.row
        injection e with e1 e2 e3
        subst e3
        injection e1 with e1
        injection e1 with e1
        subst e1
        have h := hr.toString (P := Tryd.prog) (src := 60) (dst := 9) Tryd.underlying60 Tryd.underlying5 Tryd.underlying9 cap
        rwa [HL.out] at h
      go_wp2_with fail
      go_ret
      exact ⟨_, rfl, by rw [strOfNums_size, HL.out]; exact hlen, Below.trans HX1.out (HS.out.2.mono (Nat.le_of_lt HB.out.1))⟩
end Go.Proofs.YteamnofooicbeaaDoor
namespace Go.Proofs.YteamnofooicbeaaDoor
open Go.RowKit Go.Deep
def goodM (b k body : ByteArray) : Bool := bndF b && !holdF body b && kindF k
/-- what Multipart returns: the body, or the error -/
def mOut (b k body : ByteArray) (xs : List (Int × Int)) (s : ByteArray) (c : Int) : Prop :=
  (goodM b k body = true ∧ xs ≠ [] ∧ (∀ p ∈ xs, okC p.1 p.2 body.size = true) ∧ s = preS b k body body.size xs ++ finB b ∧ c = 0) ∨
  (goodM b k body = true ∧ ¬ (xs ≠ [] ∧ ∀ p ∈ xs, okC p.1 p.2 body.size = true) ∧ s = ⟨#[]⟩ ∧ c = 1) ∨
  (goodM b k body = false ∧ s = ⟨#[]⟩ ∧ c = 2)
theorem kind_size {k : ByteArray} (h : kindF k = true) : k.size ≤ 2048 := by
  unfold kindF at h
  rw [Bool.and_eq_true, decide_eq_true_iff] at h
  exact h.2.2
theorem bnd_size {b : ByteArray} (h : bndF b = true) : b.size ≤ 40 := by
  unfold bndF at h
  rw [decide_eq_true_iff] at h
  exact h.2.2
theorem cr_size {f t n : Int} (h : okC f t n = true) : (crS f t n).size ≤ 80 := by
  obtain ⟨⟨h1, h2, h3⟩, h4, h5, -⟩ := okC_parts h
  have a1 := itoS_size f (by omega) (by omega)
  have a2 := itoS_size (t - 1) (by omega) (by omega)
  have a3 := itoS_size n (by omega) (by omega)
  unfold crS
  rw [app_size, app_size, app_size, app_size, app_size]
  have e1 : (⟨#[98, 121, 116, 101, 115, 32]⟩ : ByteArray).size = 6 := rfl
  have e2 : (⟨#[45]⟩ : ByteArray).size = 1 := rfl
  have e3 : (⟨#[47]⟩ : ByteArray).size = 1 := rfl
  omega
theorem head_size {b k c : ByteArray} (hb : b.size ≤ 40) (hk : k.size ≤ 2048) (hc : c.size ≤ 80) : (headS b k c).size ≤ 2210 := by
  unfold headS hdB
  rw [app_size, app_size, app_size, app_size, app_size, app_size]
  have e1 : (⟨#[45, 45]⟩ : ByteArray).size = 2 := rfl
  have e2 : (⟨#[13, 10, 67, 111, 110, 116, 101, 110, 116, 45, 84, 121, 112, 101, 58, 32]⟩ : ByteArray).size = 16 := rfl
  have e3 : cr2.size = 17 := rfl
  have e4 : cr4.size = 4 := rfl
  omega
theorem preS_size {b k body : ByteArray} (hb : b.size ≤ 40) (hk : k.size ≤ 2048) (hs : body.size ≤ 3000) : ∀ l : List (Int × Int), (∀ p ∈ l, okC p.1 p.2 body.size = true) → (preS b k body body.size l).size ≤ 5300 * l.length
  | [], _ => Nat.le_refl _
  | p :: l, h => by
    show (partS b k (crS p.1 p.2 body.size) (cutO body p) ++ preS b k body body.size l).size ≤ _
    have h1 := preS_size hb hk hs l (fun q hq => h q (by simp [hq]))
    have h2 := head_size (b := b) (k := k) hb hk (cr_size (h p (by simp)))
    have h3 : (cutO body p).size ≤ 3000 := by unfold cutO; rw [ByteArray.size_extract]; omega
    unfold partS
    rw [app_size, app_size, app_size, List.length_cons]
    have e1 : crlB.size = 2 := rfl
    omega
theorem take_step {xs : List (Int × Int)} {k : Nat} {p : Int × Int} (h : xs[k]? = some p) : xs.take (k + 1) = xs.take k ++ [p] := by rw [List.take_add_one, h]; rfl
set_option maxRecDepth 100000 in
set_option maxHeartbeats 2000000 in
theorem rmult_any (b k body : ByteArray) (hb : b.size ≤ 3000) (hk : k.size ≤ 3000) (hy : body.size ≤ 3000) {w : World} {v : Value} {xs : List (Int × Int)} (h : RIn w v xs) (hn : xs.length ≤ 12) :
    Calls Tryd.prog 40 #[.string b, .string k, v, .string body] w fun e w' => ∃ s c, e = .returned (.tuple #[.string s, .int .i64 c]) ∧ Hid (mOut b k body xs s c) ∧ Ext w w' := by
  obtain ⟨A, cap, rfl, hcap, hr⟩ := h
  obtain ⟨n, hxn⟩ : ∃ n, xs.length = n := ⟨_, rfl⟩
  have HN := Lib.hid hxn
  rw [hxn] at hn hcap hr ⊢
  have HR := Lib.hid hr
  clear hr hxn
  have HB := Lib.hid (fun W => rboundary_any b (by omega) W)
  have HH := Lib.hid (fun W => rholds_any body b (by omega) (by omega) W)
  have HK := Lib.hid (fun W => rkind_any k (by omega) W)
  obtain ⟨b1, hb1⟩ : ∃ c, bndF b = c := ⟨_, rfl⟩
  obtain ⟨b2, hb2⟩ : ∃ c, holdF body b = c := ⟨_, rfl⟩
  obtain ⟨b3, hb3⟩ : ∃ c, kindF k = c := ⟨_, rfl⟩
  have HG : Hid (goodM b k body = (b1 && !b2 && b3)) := Lib.hid (by unfold goodM; rw [hb1, hb2, hb3])
  have HS1 := Lib.hid (fun h : b1 = true => bnd_size (hb1.trans h))
  have HS3 := Lib.hid (fun h : b3 = true => kind_size (hb3.trans h))
  rw [hb1] at HB
  rw [hb2] at HH
  rw [hb3] at HK
  clear hb1 hb2 hb3
  cases b1 with
  | false =>
    go_enter Tryd.func40, Tryd.ntmps40
    go_wp2_with (go_at_call 61; refine (HB.out _).mono ?_; rintro e w1 ⟨rfl, rfl⟩)
    go_returns
    exact ⟨_, _, rfl, Lib.hid (.inr (.inr ⟨HG.out, rfl, rfl⟩)), Ext.refl _⟩
  | true =>
  cases b2 with
  | true =>
    go_enter Tryd.func40, Tryd.ntmps40
    go_wp2_with (first
      | (go_at_call 61; refine (HB.out _).mono ?_; rintro e w1 ⟨rfl, rfl⟩)
      | (go_at_call 64; refine (HH.out _).mono ?_; rintro e w2 ⟨rfl, hx2⟩))
    go_returns
    exact ⟨_, _, rfl, Lib.hid (.inr (.inr ⟨HG.out, rfl, rfl⟩)), hx2⟩
  | false =>
  cases b3 with
  | false =>
    go_enter Tryd.func40, Tryd.ntmps40
    go_wp2_with (first
      | (go_at_call 61; refine (HB.out _).mono ?_; rintro e w1 ⟨rfl, rfl⟩)
      | (go_at_call 64; refine (HH.out _).mono ?_; rintro e w2 ⟨rfl, hx2⟩)
      | (go_at_call 63; refine (HK.out _).mono ?_; rintro e w3 ⟨rfl, rfl⟩))
    go_returns
    exact ⟨_, _, rfl, Lib.hid (.inr (.inr ⟨HG.out, rfl, rfl⟩)), hx2⟩
  | true =>
    have hbz := HS1.out rfl
    have hkz := HS3.out rfl
    clear hb hk HS1 HS3
    go_enter Tryd.func40, Tryd.ntmps40
    go_upto_region 3 with (first
      | (go_at_call 61; refine (HB.out _).mono ?_; rintro e w1 ⟨rfl, rfl⟩)
      | (go_at_call 64; refine (HH.out _).mono ?_; rintro e w2 ⟨rfl, hx2⟩)
      | (go_at_call 63; refine (HK.out _).mono ?_; rintro e w3 ⟨rfl, rfl⟩))
    have HX2 := Lib.hid hx2
    clear hx2 HB HH HK
    go_wp2_with fail
    go_loopw [10, 30] (fun sv i wr => ∃ m : Nat, m ≤ n ∧ i = .int .i64 m ∧ sv = .string (preS b k body body.size (xs.take m)) ∧ Ext w wr ∧ Hid (∀ p ∈ xs.take m, okC p.1 p.2 body.size = true)) (fun _ i _ => n - (intOf i).toNat)
    case atStart => exact ⟨0, by omega, rfl, rfl, HX2.out, Lib.hid (fun p hp => by simp at hp)⟩
    case round =>
      obtain ⟨m, hm, rfl, rfl, hX, HALL⟩ := hrel
      have hsz := preS_size hbz hkz hy (xs.take m) HALL.out
      have hsz2 : (preS b k body body.size (xs.take m)).size ≤ 64000 := by rw [List.length_take] at hsz; omega
      obtain ⟨y, hyy⟩ : ∃ y, preS b k body body.size (xs.take m) = y := ⟨_, rfl⟩
      have HY := Lib.hid hyy
      rw [hyy] at hsz2 ⊢
      clear hyy hsz
      by_cases hlt : m < n
      · obtain ⟨a, rfl, hg⟩ := HR.out (by omega)
        have hki : (m : Int) < (n : Int) := by omega
        have hk6 : (m : Int) < 13 := by omega
        have hkc : m < cap := by omega
        obtain ⟨⟨f, t⟩, hr⟩ : ∃ r, xs[m]? = some r := ⟨_, List.getElem?_eq_getElem (by rw [HN.out]; exact hlt)⟩
        have c0 := hX.cell (hg m _ hr).1
        have c1 := hX.cell (hg m _ hr).2
        simp only at c0 c1
        have HXM := Lib.hid hr
        clear hr hg
        cases hok : okC f t body.size with
        | false =>
          have HCR := Lib.hid (fun W => rcontent_no hok W)
          have HNO := Lib.hid (show ¬ (xs ≠ [] ∧ ∀ p ∈ xs, okC p.1 p.2 body.size = true) from fun h => by
            have := h.2 (f, t) (List.mem_of_getElem? HXM.out)
            simp only at this
            rw [hok] at this
            cases this)
          clear hok
          go_wp2_with (go_at_call 20; refine (HCR.out _).mono ?_; rintro e w4 ⟨rfl, hx4⟩)
          go_returns
          exact ⟨_, _, rfl, Lib.hid (.inr (.inl ⟨HG.out, HNO.out, rfl, rfl⟩)), (hX.alloc _).trans hx4⟩
        | true =>
          have HCR := Lib.hid (fun W => rcontent_ok hok W)
          have HOK := Lib.hid hok
          have hcz := cr_size hok
          obtain ⟨⟨p1, p2, p3⟩, p4, -, -⟩ := okC_parts hok
          obtain ⟨f, rfl⟩ := Int.eq_ofNat_of_zero_le p1
          obtain ⟨t, rfl⟩ := Int.eq_ofNat_of_zero_le (show 0 ≤ t by omega)
          obtain ⟨c, hc⟩ : ∃ c, crS f t body.size = c := ⟨_, rfl⟩
          rw [hc] at HCR hcz
          have HC := Lib.hid hc
          clear hok hc p1 p3
          obtain ⟨d, hd⟩ : ∃ d, body.extract f t = d := ⟨_, rfl⟩
          have hdz : d.size ≤ 3000 := by rw [← hd, ByteArray.size_extract]; omega
          have hft : f ≤ t := by omega
          have hty : t ≤ body.size := by omega
          have HD : Hid (cutO body ((f : Int), (t : Int)) = d) := Lib.hid (by unfold cutO; simpa using hd)
          go_upto_region 11 with (go_at_call 20; refine (HCR.out _).mono ?_; rintro e w4 ⟨rfl, hx4⟩; have z0 := hx4.cell ((row_laid wr 43 [.int .i64 (f : Int), .int .i64 (t : Int)]).cell (j := 0) rfl); have z1 := hx4.cell ((row_laid wr 43 [.int .i64 (f : Int), .int .i64 (t : Int)]).cell (j := 1) rfl))
          have HX4 := Lib.hid ((hX.alloc (.cells #[.int .i64 (f : Int), .int .i64 (t : Int)] 43)).trans hx4)
          clear hx4 c0 c1
          go_wp2_with fail
          go_roundw
          case rel =>
            refine ⟨m + 1, by omega, by go_num, ?_, HX4.out, Lib.hid (fun p hp => ?_)⟩
            · rw [take_step HXM.out, preS_snoc, HY.out, HC.out, HD.out]
              try rw [hd]
              rfl
            · rw [take_step HXM.out, List.mem_append] at hp
              rcases hp with hp | hp
              · exact HALL.out p hp
              · obtain rfl : p = ((f : Int), (t : Int)) := by simpa using hp
                exact HOK.out
          case measure => simp [intOf]; omega
      · obtain rfl : m = n := by omega
        have htk : xs.take m = xs := by rw [← HN.out, List.take_length]
        rw [htk] at HY HALL
        clear htk
        rcases Nat.eq_zero_or_pos m with h0 | h0
        · subst h0
          have HNE := Lib.hid (show xs = [] from List.length_eq_zero_iff.1 HN.out)
          go_wp2_with fail
          go_returns
          exact ⟨_, _, rfl, Lib.hid (.inr (.inl ⟨HG.out, fun h => h.1 HNE.out, rfl, rfl⟩)), hX⟩
        · have h0' : ((m : Int) == 0) = false := by simp; omega
          have hne : ¬ (m : Int) = 0 := by omega
          have HNE := Lib.hid (show xs ≠ [] from fun e => by have h := HN.out; rw [e] at h; simp at h; omega)
          go_wp2_with fail
          go_returns
          refine ⟨_, _, rfl, Lib.hid (.inl ⟨HG.out, HNE.out, HALL.out, ?_, rfl⟩), hX⟩
          rw [HY.out]
          unfold finB
          rw [← app_assoc, ← app_assoc]
end Go.Proofs.YteamnofooicbeaaDoor
namespace Go.Proofs.YteamnofooicbeaaDoor
open Go.RowKit Go.Deep
theorem bytesOf_nums (s : ByteArray) : Lib.bytesOf (numsOf s) = s.data.toList := by
  unfold Lib.bytesOf numsOf
  rw [List.map_map]
  conv => rhs; rw [← List.map_id s.data.toList]
  refine List.map_congr_left fun c _ => ?_
  simp
theorem nums_range (s : ByteArray) : ∀ x ∈ numsOf s, 0 ≤ x ∧ x < 256 := by
  intro x hx
  unfold numsOf at hx
  obtain ⟨c, -, rfl⟩ := List.mem_map.1 hx
  have := c.toNat_lt
  omega
theorem row_nums {w : World} {g : Nat} {s : ByteArray} (h : RowB w g 5 (s.data.toList.map fun b => Value.int .u8 b.toNat)) : ∀ i, i < s.size → w.cell? ((⟨g, 0, none⟩ : Addr).add i) = some (.int .u8 ((numsOf s).getD i 0)) := by
  intro i hi
  rw [Addr.add_lit, Nat.zero_add]
  have hl : i < s.data.toList.length := by rw [← Lib.size_eq]; exact hi
  refine h.cell ?_
  unfold numsOf
  rw [List.getD_eq_getElem?_getD, List.getElem?_map, List.getElem?_map, List.getElem?_eq_getElem hl]
  rfl
theorem bcontains_any {w : World} {B B' : Nat} {u v : Value} {s p : ByteArray} (h : BytesV w B u s) (k : BytesV w B' v p) (hs : s.size ≤ 100000) (hp : p.size ≤ 100000) (hcap : ∀ g n c, u = .slice g n c → n ≤ c) (hM : MaxL w) :
    Calls Tryd.prog 70 #[u, v] w fun e w' => e = .returned (.bool (holdF s p)) ∧ Ext w w' := by
  obtain ⟨m, hm⟩ := hM
  obtain ⟨g, c, rfl, -, hr⟩ := h
  obtain ⟨g', c', rfl, -, hr'⟩ := k
  have := Any.bytes_Contains_at (P := Tryd.prog) (ρ := Tryd.lays186_ren) { Tryd.lays186 with } ⟨g, 0, none⟩ ⟨g', 0, none⟩ s.size c p.size c' (numsOf s) (numsOf p) m w (numsOf_length s) (numsOf_length p) (nums_range s) (nums_range p) (row_nums hr) (row_nums hr') (hcap _ _ _ rfl) (by omega) (by omega) hm
  rw [bytesOf_nums, bytesOf_nums] at this
  refine this.mono ?_
  rintro e w' ⟨rfl, q, rfl⟩
  exact ⟨rfl, (Ext.refl w).drewN q⟩
/-- the bytes of a text in a slice of the call's own -/
def OS (w : World) (B : Nat) (v : Value) (s : ByteArray) : Prop := w.ownsRow B 5 1 v s.size (Lib.strCells s)
theorem OS.nil (w : World) (B : Nat) : OS w B (.slice none 0 0) ⟨#[]⟩ := World.ownsRow_nil _ _ _ _
theorem OS.slice {w : World} {B : Nat} {v : Value} {s : ByteArray} (h : OS w B v s) : ∃ A cap, v = .slice A s.size cap ∧ s.size ≤ cap := by
  rcases h.2 with ⟨rfl, e⟩ | ⟨g, cap, cur, rfl, hb, hh, hl, hm, hc, ht⟩
  · exact ⟨none, 0, by rw [e], by omega⟩
  · exact ⟨_, cap, rfl, hl⟩
theorem OS.kept {w w' : World} {B : Nat} {v : Value} {s : ByteArray} (h : OS w B v s) (hx : Ext w w') : OS w' B v s := own_kept h hx
theorem OS.bytes {w : World} {B : Nat} {v : Value} {s : ByteArray} (h : OS w B v s) (hs : 0 < s.size) : BytesV w B v s := by
  rcases h.2 with ⟨_, e⟩ | ⟨g, cap, cur, rfl, hb, hh, hl, hm, hc, ht⟩
  · omega
  · refine ⟨g, cap, rfl, hb, cur, (0, 0), cur.toList.drop s.size, hh, fun j _ h2 => absurd h2 (by omega), ?_⟩
    have e : cur.toList.take s.size = s.data.toList.map fun b => Value.int .u8 b.toNat := by
      have := ht
      rw [Nat.mul_one] at this
      exact this
    rw [← e, List.take_append_drop]
theorem os_ne {w : World} {B g : Nat} {v : Value} {s : ByteArray} {e : TypeId} {xs : List Value} (h : OS w B v s) (hr : RowB w g e xs) (he : e ≠ 5) : some g ≠ v.ownBlock := by
  rcases h.2 with ⟨rfl, _⟩ | ⟨g', cap, cur, rfl, _, hg, _⟩
  · simp [Value.ownBlock]
  · intro e'
    simp only [Value.ownBlock, Option.some.injEq] at e'
    obtain ⟨C, fr, rest, hc, _⟩ := hr
    rw [e', hg] at hc
    cases hc
    exact he rfl
/-- rows that hold no bytes stay -/
def KpU (w w' : World) : Prop := ∀ (g : Nat) (e : TypeId) (xs : List Value), e ≠ 5 → RowB w g e xs → RowB w' g e xs
theorem cells_app (s x : ByteArray) : Lib.strCells (s ++ x) = Lib.strCells s ++ Lib.strCells x := by
  unfold Lib.strCells
  rw [app_list, List.map_append]
theorem wpList_os_string (w : World) {ops : Array Oper} {rest : List Oper} {o : Oper} {a : Act} {Q : Exit → Act → World → Prop} (hgd : o.guard = none) (sl x : Operand)
    (ho : o.op = .call { callee := .builtin .append, args := #[sl, x], argTypes := #[60, 9] })
    (B : Nat) {v : Value} {y : ByteArray} (h : OS w B v y) (hs : a.eval sl = v) (z : ByteArray) (hx : a.eval x = .string z) (hlen : y.size + z.size ≤ 1000000000) (hB : B ≤ w.heap.size)
    (hK : ∀ (y' : ByteArray) A c w', y' = y ++ z → y'.size = y.size + z.size → y'.size ≤ c → OS w' B (.slice A y'.size c) y' → Below B w w' → KpU w w' → wpList Tryd.prog ops Q rest (a.put o.dst (.slice A y'.size c)) w') :
    wpList Tryd.prog ops Q (o :: rest) a w := by
  obtain ⟨i0, hi0, hz0, hz1, hz2⟩ := info_parts u8_info
  refine Lib.wpList_append_own_string w hgd sl x 60 9 ho B 5 i0 Tryd.underlying60 Tryd.underlying9 hi0 hz0 hz1 hz2 v y.size _ hs h z hx (by simp only [maxLen]; omega) (by omega) hB ?_
  intro v' w' hown hgr _
  have ho' : OS w' B v' (y ++ z) := by
    unfold OS
    rw [app_size, cells_app]
    exact hown
  obtain ⟨A, c, e, hc⟩ := ho'.slice
  subst e
  exact hK _ A c w' rfl (app_size _ _) hc ho' ((Below.refl B w).grown hgr hB (own_base h)) (fun g e xs he hr => hr.kept (hgr.block g hr.lt (os_ne h hr he)))
theorem wpList_os_bytes (w : World) {ops : Array Oper} {rest : List Oper} {o : Oper} {a : Act} {Q : Exit → Act → World → Prop} (hgd : o.guard = none) (sl x : Operand)
    (ho : o.op = .call { callee := .builtin .append, args := #[sl, x], argTypes := #[60, 60] })
    (B : Nat) {v : Value} {y : ByteArray} (h : OS w B v y) (hs : a.eval sl = v) (z : ByteArray) {A : Option Addr} {m c : Nat} (hx : a.eval x = .slice A m c) (hr : Reads w w.heap.size 1 A m (Lib.strCells z)) (hm : m = z.size) (hlen : y.size + z.size ≤ 1000000000) (hB : B ≤ w.heap.size)
    (hK : ∀ (y' : ByteArray) A c w', y' = y ++ z → y'.size = y.size + z.size → y'.size ≤ c → OS w' B (.slice A y'.size c) y' → Below B w w' → KpU w w' → wpList Tryd.prog ops Q rest (a.put o.dst (.slice A y'.size c)) w') :
    wpList Tryd.prog ops Q (o :: rest) a w := by
  subst hm
  obtain ⟨i0, hi0, hz0, hz1, hz2⟩ := info_parts u8_info
  refine wpList_append_any w hgd sl x 60 ho B 5 i0 (.int .u8 0) 1 1 Tryd.underlying60 hi0 hz0 hz1 hz2 rfl (by omega) v y.size _ hs h w.heap.size A z.size c (Lib.strCells z) hx hr ?_ (by simp only [maxLen]; omega) (by omega) hB ?_
  · intro u hu
    unfold Lib.strCells at hu
    obtain ⟨b, -, rfl⟩ := List.mem_map.1 hu
    rfl
  · intro v' w' hown hgr _
    have ho' : OS w' B v' (y ++ z) := by
      unfold OS
      rw [app_size, cells_app]
      exact hown
    obtain ⟨A, c, e, hc⟩ := ho'.slice
    subst e
    exact hK _ A c w' rfl (app_size _ _) hc ho' ((Below.refl B w).grown hgr hB (own_base h)) (fun g e xs he hr => hr.kept (hgr.block g hr.lt (os_ne h hr he)))
/-- a stretch of bytes in memory -/
theorem reads_part {w : World} {g : Nat} {body : ByteArray} (hr : RowB w g 5 (body.data.toList.map fun b => Value.int .u8 b.toNat)) {f t : Nat} (hft : f ≤ t) (ht : t ≤ body.size) : Reads w w.heap.size 1 (some ⟨g, f, none⟩) (t - f) (Lib.strCells (body.extract f t)) := by
  have hz : (body.extract f t).size = t - f := by rw [ByteArray.size_extract]; omega
  refine ⟨by rw [Lib.strCells_length, hz]; omega, fun _ => ⟨_, rfl, hr.lt, fun j u hu => ?_⟩⟩
  rw [Addr.add_lit]
  refine hr.cell ?_
  unfold Lib.strCells at hu
  rw [show (body.extract f t).data.toList = (body.data.toList.drop f).take (t - f) by rw [← ByteArray.toList_eq, Lib.extract_toList], List.getElem?_map, List.getElem?_take] at hu
  split at hu
  · rw [List.getElem?_drop] at hu
    rw [List.getElem?_map]
    exact hu
  · cases hu
end Go.Proofs.YteamnofooicbeaaDoor
namespace Go.Proofs.YteamnofooicbeaaDoor
open Go.RowKit Go.Deep
/-- '[]byte(s)' behind a guard that is met -/
theorem wpList_bytes_of_string_g {P : Program} (w : World) {ops : Array Oper} {rest : List Oper} {o : Oper} {a : Act} {Q : Exit → Act → World → Prop}
    (src dst e : TypeId) (x : Operand) (ho : o.op = Op.convert src dst x) (hw : Region.wanted o (yielded ops a.tmps) = true) (hs : P.underlying src = some .string) (hd : P.underlying dst = some (.slice e)) (he : P.underlying e = some (.int .u8))
    (s : ByteArray) (hx : a.eval x = .string s)
    (hK : ∀ w' cap, Ext w w' → RowB w' w.heap.size e (s.data.toList.map fun b => Value.int .u8 b.toNat) → s.size ≤ cap → wpList P ops Q rest (a.put o.dst (.slice (some ⟨w.heap.size, 0, none⟩) s.size cap)) w') :
    wpList P ops Q (o :: rest) a w := by
  refine BigFrame.wpList_want hw fun K hK' => ?_
  have hrun := run_bytes_of_string (P := P) w src dst e s hs hd he
  unfold Oper.wp
  simp only [execOp, ho, hx, Sem.run_bind, hrun, Result.andThen]
  refine hK' _ _ (hK _ _ ((Ext.refl w).drew.trans (Ext.alloc (Ext.refl _) _)) ?_ ?_)
  · refine ⟨bytesRow s (grownCap w s.size 0 e), ((bytesRow s (grownCap w s.size 0 e)).size, (bytesRow s (grownCap w s.size 0 e)).size + 1), List.replicate (grownCap w s.size 0 e - s.size) (.int .u8 0), ?_, ?_, ?_⟩
    · show (w.heap.push _)[w.heap.size]? = _
      simp
    · intro j h1 _; exact h1
    · unfold bytesRow
      simp
  · exact grownCap_ge w s.size 0 e
/-- what the program's Multipart returns -/
def MRes (w w' : World) (b k body : ByteArray) (xs : List (Int × Int)) (v' ev : Value) : Prop := ∃ s c, ev = errC c ∧ mOut b k body xs s c ∧ (c = 0 → BytesV w' w.heap.size v' s ∧ ∀ g n cap, v' = .slice g n cap → n ≤ cap) ∧ (c ≠ 0 → v' = .slice none 0 0)
theorem mres_two {w w' : World} {b k body : ByteArray} {xs : List (Int × Int)} (h : goodM b k body = false) : MRes w w' b k body xs (.slice none 0 0) (errV 2) :=
  ⟨⟨#[]⟩, 2, rfl, .inr (.inr ⟨h, rfl, rfl⟩), fun h => absurd h (by decide), fun _ => rfl⟩
theorem mres_one {w w' : World} {b k body : ByteArray} {xs : List (Int × Int)} (h : goodM b k body = true) (h2 : ¬ (xs ≠ [] ∧ ∀ p ∈ xs, okC p.1 p.2 body.size = true)) : MRes w w' b k body xs (.slice none 0 0) (errV 1) :=
  ⟨⟨#[]⟩, 1, rfl, .inr (.inl ⟨h, h2, rfl, rfl⟩), fun h => absurd h (by decide), fun _ => rfl⟩
theorem good_field {k : ByteArray} {vv : ByteArray} {ev : Value} (h : (kindF k = true ∧ vv = k ∧ ev = .nilIface) ∨ (kindF k = false ∧ (ev = errV 2 ∨ ev = errV 5 ∨ (ev = .nilIface ∧ vv ≠ k)))) : (kindF k = true ∧ vv = k ∧ ev = .nilIface) ∨ (kindF k = false ∧ (ev = errV 2 ∨ ev = errV 5)) ∨ (kindF k = false ∧ ev = .nilIface ∧ vv ≠ k) := by
  rcases h with h | ⟨h1, h2 | h2 | h2⟩
  · exact .inl h
  · exact .inr (.inl ⟨h1, .inl h2⟩)
  · exact .inr (.inl ⟨h1, .inr h2⟩)
  · exact .inr (.inr ⟨h1, h2⟩)
set_option maxRecDepth 100000 in
set_option maxHeartbeats 4000000 in
theorem mult_any (b k body : ByteArray) (hb : b.size ≤ 3000) (hk : k.size ≤ 3000) (hy : body.size ≤ 3000) {w : World} {v dv : Value} {xs : List (Int × Int)} (h : RIn w v xs) (hn : xs.length ≤ 12) {gd cd : Nat} (hdv : dv = .slice (some ⟨gd, 0, none⟩) body.size cd) (hcd : body.size ≤ cd) (hrd : RowB w gd 5 (body.data.toList.map fun b => Value.int .u8 b.toNat)) (hM : MaxL w) (hP : PowT w) :
    Calls Tryd.prog 39 #[.string b, .string k, v, dv] w fun e w' => ∃ v' ev, e = .returned (.tuple #[v', ev]) ∧ Hid (MRes w w' b k body xs v' ev) ∧ Ext w w' := by
  subst hdv
  have HBV := Lib.hid (show BytesV w 0 (.slice (some ⟨gd, 0, none⟩) body.size cd) body from ⟨gd, cd, rfl, Nat.zero_le _, hrd⟩)
  have HRD := Lib.hid hrd
  have HM := Lib.hid hM
  have HP := Lib.hid hP
  obtain ⟨A, cap, rfl, hcap, hr⟩ := h
  obtain ⟨n, hxn⟩ : ∃ n, xs.length = n := ⟨_, rfl⟩
  have HN := Lib.hid hxn
  rw [hxn] at hn hcap hr ⊢
  have HR := Lib.hid hr
  clear hr hxn hrd hM hP
  have HFV := Lib.hid (fvalue_any k (by omega) w)
  have HDL := Lib.hid (fun W => delimiter_any b (by omega) W)
  obtain ⟨b1, hb1⟩ : ∃ c, bndF b = c := ⟨_, rfl⟩
  obtain ⟨b2, hb2⟩ : ∃ c, holdF body b = c := ⟨_, rfl⟩
  obtain ⟨b3, hb3⟩ : ∃ c, kindF k = c := ⟨_, rfl⟩
  have HG : Hid (goodM b k body = (b1 && !b2 && b3)) := Lib.hid (by unfold goodM; rw [hb1, hb2, hb3])
  have HS1 := Lib.hid (fun h : b1 = true => bnd_size (hb1.trans h))
  have HS3 := Lib.hid (fun h : b3 = true => kind_size (hb3.trans h))
  have HB2 := Lib.hid hb2
  have HB3 := Lib.hid hb3
  rw [hb1] at HDL
  clear hb1 hb2 hb3
  go_enter Tryd.func39, Tryd.ntmps39
  go_upto_region 2 with (go_at_call 59; refine HFV.out.mono ?_; rintro e w1 ⟨⟨vv, ev, rfl, HK⟩, hx1⟩)
  have HX1 := Lib.hid hx1
  clear hx1
  cases b1 with
  | false =>
    go_wp2_with (go_at_call 56; refine (HDL.out _).mono ?_; rintro e w2 ⟨rfl, rfl⟩)
    go_returns
    exact ⟨_, _, rfl, Lib.hid (mres_two HG.out), HX1.out⟩
  | true =>
    have HCAP : Hid (∀ g n c, Value.slice (some ⟨gd, 0, none⟩) body.size cd = .slice g n c → n ≤ c) := Lib.hid (fun g n c e => by injection e with e1 e2 e3; omega)
    cases b2 with
    | true =>
      go_wp2_with (first
      | (go_at_call 56; refine (HDL.out _).mono ?_; rintro e w2 ⟨rfl, rfl⟩)
      | (go_at_call 70; refine (bcontains_any (HBV.out.ext (HX1.out.trans hx2)) (show BytesV w2 0 _ b from ⟨_, _, rfl, Nat.zero_le _, hr2⟩) (by omega) (by omega) HCAP.out (HM.out.ext (HX1.out.trans hx2))).mono ?_; rw [HB2.out]; rintro e w3 ⟨rfl, hx3⟩)
      | (refine wpList_bytes_of_string_g _ 9 60 5 (.tmp 27) rfl (by kernel_rfl) Tryd.underlying9 Tryd.underlying60 Tryd.underlying5 b rfl ?_; intro w2 cap2 hx2 hr2 hc2))
      go_returns
      exact ⟨_, _, rfl, Lib.hid (mres_two HG.out), (HX1.out.trans hx2).trans hx3⟩
    | false =>
      rcases good_field HK.out with ⟨h1, rfl, rfl⟩ | ⟨h1, h2⟩ | ⟨h1, rfl, h2⟩
      · obtain rfl : b3 = true := HB3.out.symm.trans h1
        have hbz := HS1.out rfl
        have hkz := HS3.out rfl
        clear h1 HS1 HS3 HB3
        go_upto_region 4 with (first
      | (go_at_call 56; refine (HDL.out _).mono ?_; rintro e w2 ⟨rfl, rfl⟩)
      | (go_at_call 70; refine (bcontains_any (HBV.out.ext (HX1.out.trans hx2)) (show BytesV w2 0 _ b from ⟨_, _, rfl, Nat.zero_le _, hr2⟩) (by omega) (by omega) HCAP.out (HM.out.ext (HX1.out.trans hx2))).mono ?_; rw [HB2.out]; rintro e w3 ⟨rfl, hx3⟩)
      | (refine wpList_bytes_of_string_g _ 9 60 5 (.tmp 27) rfl (by kernel_rfl) Tryd.underlying9 Tryd.underlying60 Tryd.underlying5 b rfl ?_; intro w2 cap2 hx2 hr2 hc2))
        have HX3 := Lib.hid ((HX1.out.trans hx2).trans hx3)
        clear hx2 hx3 hr2 hc2 HX1 HCAP HDL HFV HK HB2
        rcases Nat.eq_zero_or_pos n with h0 | h0
        · subst h0
          have HNE := Lib.hid (show xs = [] from List.length_eq_zero_iff.1 HN.out)
          go_wp2_with fail
          go_returns
          exact ⟨_, _, rfl, Lib.hid (mres_one HG.out (fun h => h.1 HNE.out)), HX3.out⟩
        · have h0' : ((n : Int) == 0) = false := by simp; omega
          have hne : ¬ (n : Int) = 0 := by omega
          have HNE := Lib.hid (show xs ≠ [] from fun e => by have h := HN.out; rw [e] at h; simp at h; omega)
          obtain ⟨B, hB⟩ : ∃ q, w3.heap.size = q := ⟨_, rfl⟩
          have HB := Lib.hid hB
          clear hB
          go_wp2_with fail
          go_loopw [12, 47] (fun ov i wr => ∃ (m : Nat) (y : ByteArray) (A8 : Option Addr) (c8 : Nat), m ≤ n ∧ i = .int .i64 m ∧ ov = .slice A8 y.size c8 ∧ y.size ≤ 64000 ∧ y.size ≤ c8 ∧ Hid (OS wr B (.slice A8 y.size c8) y ∧ Below B w3 wr ∧ y = preS b vv body body.size (xs.take m) ∧ ∀ p ∈ xs.take m, okC p.1 p.2 body.size = true)) (fun _ i _ => n - (intOf i).toNat)
          case atStart => exact ⟨0, ⟨#[]⟩, none, 0, by omega, rfl, rfl, by decide, by decide, Lib.hid ⟨OS.nil _ _, Below.refl _ _, rfl, fun p hp => by simp at hp⟩⟩
          case round =>
            obtain ⟨m, y, A8, c8, hm, rfl, rfl, hy64, hyc, HS⟩ := hrel
            have HX := Lib.hid (show Ext w wr from by have h := HS.out.2.1; rw [← HB.out] at h; exact HX3.out.trans h)
            have HBS := Lib.hid (show B ≤ wr.heap.size from by have h := HS.out.2.1.size; rw [HB.out] at h; exact h)
            by_cases hlt : m < n
            · obtain ⟨a, rfl, hg⟩ := HR.out (by omega)
              have hki : (m : Int) < (n : Int) := by omega
              have hk6 : (m : Int) < 13 := by omega
              have hkc : m < cap := by omega
              obtain ⟨⟨f, t⟩, hr⟩ : ∃ r, xs[m]? = some r := ⟨_, List.getElem?_eq_getElem (by rw [HN.out]; exact hlt)⟩
              have c0 := HX.out.cell (hg m _ hr).1
              have c1 := HX.out.cell (hg m _ hr).2
              simp only at c0 c1
              have HXM := Lib.hid hr
              clear hr hg
              cases hok : okC f t body.size with
              | false =>
                have HCR := Lib.hid (fun W => content_no hok W)
                have HNO := Lib.hid (show ¬ (xs ≠ [] ∧ ∀ p ∈ xs, okC p.1 p.2 body.size = true) from fun h => by
                  have := h.2 (f, t) (List.mem_of_getElem? HXM.out)
                  simp only at this
                  rw [hok] at this
                  cases this)
                clear hok
                by_cases a1 : f < 0
                · go_wp2_with fail
                  go_returns
                  exact ⟨_, _, rfl, Lib.hid (mres_one HG.out HNO.out), HX.out.alloc _⟩
                · by_cases a2 : t ≤ f
                  · go_wp2_with fail
                    go_returns
                    exact ⟨_, _, rfl, Lib.hid (mres_one HG.out HNO.out), HX.out.alloc _⟩
                  · by_cases a3 : (body.size : Int) < t
                    · go_wp2_with fail
                      go_returns
                      exact ⟨_, _, rfl, Lib.hid (mres_one HG.out HNO.out), HX.out.alloc _⟩
                    · go_wp2_with (go_at_call 19; refine (HCR.out _).mono ?_; rintro e w4 ⟨rfl, hx4⟩)
                      go_returns
                      exact ⟨_, _, rfl, Lib.hid (mres_one HG.out HNO.out), (HX.out.alloc _).trans hx4⟩
              | true =>
                have HCR := Lib.hid (fun W (hW : Ext w W) => content_ok hok W (HP.out.ext hW))
                have HOK := Lib.hid hok
                have hcz := cr_size hok
                obtain ⟨⟨p1, p2, p3⟩, p4, -, -⟩ := okC_parts hok
                obtain ⟨f, rfl⟩ := Int.eq_ofNat_of_zero_le p1
                obtain ⟨t, rfl⟩ := Int.eq_ofNat_of_zero_le (show 0 ≤ t by omega)
                obtain ⟨c, hc⟩ : ∃ c, crS f t body.size = c := ⟨_, rfl⟩
                rw [hc] at HCR hcz
                have HC := Lib.hid hc
                have hft : f ≤ t := by omega
                have hty : t ≤ body.size := by omega
                have hfc : ¬ cd = f := by omega
                have a1 : ¬ (f : Int) < 0 := by omega
                have a2 : ¬ (t : Int) ≤ (f : Int) := by omega
                have a3 : ¬ (body.size : Int) < (t : Int) := by omega
                clear hok hc p1 p3
                obtain ⟨H, hH⟩ : ∃ H, headS b vv c = H := ⟨_, rfl⟩
                have hHz : H.size ≤ 2210 := by rw [← hH]; exact head_size hbz hkz hcz
                have HH := Lib.hid hH
                clear hH
                go_upto_region 15 with (go_at_call 19; refine (HCR.out _ (HX.out.alloc _)).mono ?_; rintro e w4 ⟨rfl, hx4⟩)
                have HBX := Lib.hid ((row_laid wr 37 [.int .i64 (f : Int), .int .i64 (t : Int)]).ext hx4)
                have XA : Ext wr w4 := ((Ext.refl wr).alloc (.cells #[.int .i64 (f : Int), .int .i64 (t : Int)] 37)).trans hx4
                have HOS4 := Lib.hid (HS.out.1.kept XA)
                have HB4 := Lib.hid (Nat.le_trans HBS.out XA.size)
                have HW4 := Lib.hid (HS.out.2.1.trans (Below.mono XA HBS.out))
                clear hx4 XA c0 c1
                go_upto_region 16 with (at_builtin; refine wpList_os_string _ rfl _ _ rfl B HOS4.out rfl H (by rw [← HH.out]; rfl) (by omega) HB4.out ?_; intro y5 A5 c5 w5 e5 hz5 hc5 ho5 hb5 hk5; have HZ5 := Lib.hid hz5; have HE5 := Lib.hid e5; have hy5 : y5.size ≤ 66300 := (by omega); clear hz5 e5)
                have HBX5 := Lib.hid (hk5 _ _ _ (by decide) HBX.out)
                have HOS5 := Lib.hid ho5
                have HB5 := Lib.hid (Nat.le_trans HB4.out hb5.size)
                have HW5 := Lib.hid (HW4.out.trans hb5)
                have z0 := HBX5.out.cell (j := 0) rfl
                have z1 := HBX5.out.cell (j := 1) rfl
                clear ho5 hb5 hk5
                obtain ⟨d, hd⟩ : ∃ d, body.extract f t = d := ⟨_, rfl⟩
                have hdz : d.size = t - f := by rw [← hd, ByteArray.size_extract]; omega
                have HDZ := Lib.hid hdz
                have hd3 : d.size ≤ 3000 := by omega
                have HD := Lib.hid hd
                have HRD5 := Lib.hid (show Reads w5 w5.heap.size 1 (some ⟨gd, f, none⟩) (t - f) (Lib.strCells d) from by
                  have hX5 : Ext w w5 := by have h := HW5.out; rw [← HB.out] at h; exact HX3.out.trans h
                  have h := reads_part (HRD.out.ext hX5) hft hty
                  rwa [hd] at h)
                clear hd hdz
                go_upto_region 17 with (first
                  | (at_builtin; refine wpList_os_string _ rfl _ _ rfl B HOS6.out rfl crlB rfl (by have : crlB.size = 2 := rfl; omega) HB6.out ?_; intro y7 A7 c7 w7 e7 hz7 hc7 ho7 hb7 hk7; have HZ7 := Lib.hid hz7; have HE7 := Lib.hid e7; clear hz7 e7)
                  | (at_builtin; refine wpList_os_bytes _ rfl _ _ rfl B HOS5.out rfl d rfl HRD5.out HDZ.out.symm (by omega) HB5.out ?_; intro y6 A6 c6 w6 e6 hz6 hc6 ho6 hb6 hk6; have HZ6 := Lib.hid hz6; have HE6 := Lib.hid e6; have hy6 : y6.size ≤ 70000 := (by omega); have HOS6 := Lib.hid ho6; have HB6 := Lib.hid (Nat.le_trans HB5.out hb6.size); clear hz6 ho6 hk6 e6))
                have HY7 : Hid (y7 = preS b vv body body.size (xs.take (m + 1))) := Lib.hid (by
                  have hcut : cutO body ((f : Int), (t : Int)) = d := by unfold cutO; simpa using HD.out
                  rw [take_step HXM.out, preS_snoc, ← HS.out.2.2.1, hcut, HE7.out, HE6.out, HE5.out]
                  simp only
                  rw [HC.out]
                  unfold partS
                  rw [HH.out, app_assoc, app_assoc, app_assoc])
                have HALL : Hid (∀ p ∈ xs.take (m + 1), okC p.1 p.2 body.size = true) := Lib.hid (fun p hp => by
                  rw [take_step HXM.out, List.mem_append] at hp
                  rcases hp with hp | hp
                  · exact HS.out.2.2.2 p hp
                  · obtain rfl : p = ((f : Int), (t : Int)) := by simpa using hp
                    exact HOK.out)
                have hz7 : y7.size ≤ 64000 := by
                  have h := preS_size hbz hkz hy (xs.take (m + 1)) HALL.out
                  rw [← HY7.out, List.length_take] at h
                  omega
                have HOS7 := Lib.hid ho7
                have HW7 := Lib.hid ((HW5.out.trans hb6).trans hb7)
                clear ho7 hb6 hb7 hk7
                go_wp2_with fail
                go_roundw
                case rel => exact ⟨m + 1, y7, A7, c7, by omega, by go_num, rfl, hz7, hc7, Lib.hid ⟨HOS7.out, HW7.out, HY7.out, HALL.out⟩⟩
                case measure => simp [intOf]; omega
            · obtain rfl : m = n := by omega
              have htk : xs.take m = xs := by rw [← HN.out, List.take_length]
              rw [htk] at HS
              clear htk
              have hfz : (finB b).size ≤ 46 := by
                unfold finB
                rw [app_size, app_size]
                have e1 : (⟨#[45, 45]⟩ : ByteArray).size = 2 := rfl
                have e2 : (⟨#[45, 45, 13, 10]⟩ : ByteArray).size = 4 := rfl
                omega
              have hf0 : 0 < (finB b).size := by
                unfold finB
                rw [app_size, app_size]
                have e2 : (⟨#[45, 45, 13, 10]⟩ : ByteArray).size = 4 := rfl
                omega
              obtain ⟨F, hF⟩ : ∃ F, finB b = F := ⟨_, rfl⟩
              have HF := Lib.hid hF
              rw [hF] at hfz hf0
              clear hF
              go_wp2_with (at_builtin; refine wpList_os_string _ rfl _ _ rfl B HS.out.1 rfl F (by rw [← HF.out]; rfl) (by omega) HBS.out ?_; intro y7 A7 c7 w7 e7 hz7 hc7 ho7 hb7 hk7; have HZ7 := Lib.hid hz7; have HE7 := Lib.hid e7; clear hz7 e7)
              go_returns
              refine ⟨_, _, rfl, Lib.hid ⟨y7, 0, rfl, .inl ⟨HG.out, HNE.out, HS.out.2.2.2, ?_, rfl⟩, fun _ => ⟨?_, ?_⟩, fun h => absurd rfl h⟩, ?_⟩
              · rw [HE7.out, HS.out.2.2.1, HF.out]
              · obtain ⟨g, cap, e, hg, hr⟩ := ho7.bytes (by have := HZ7.out; omega)
                exact ⟨g, cap, e, Nat.le_trans (by have := HX3.out.size; rw [HB.out] at this; exact this) hg, hr⟩
              · intro g n cap e
                injection e with e1 e2 e3
                omega
              · have h := HS.out.2.1.trans hb7
                rw [← HB.out] at h
                exact HX3.out.trans h
      · obtain rfl : b3 = false := HB3.out.symm.trans h1
        rcases h2 with rfl | rfl
        · clear h1
          go_wp2_with (first
      | (go_at_call 56; refine (HDL.out _).mono ?_; rintro e w2 ⟨rfl, rfl⟩)
      | (go_at_call 70; refine (bcontains_any (HBV.out.ext (HX1.out.trans hx2)) (show BytesV w2 0 _ b from ⟨_, _, rfl, Nat.zero_le _, hr2⟩) (by omega) (by omega) HCAP.out (HM.out.ext (HX1.out.trans hx2))).mono ?_; rw [HB2.out]; rintro e w3 ⟨rfl, hx3⟩)
      | (refine wpList_bytes_of_string_g _ 9 60 5 (.tmp 27) rfl (by kernel_rfl) Tryd.underlying9 Tryd.underlying60 Tryd.underlying5 b rfl ?_; intro w2 cap2 hx2 hr2 hc2))
          go_returns
          exact ⟨_, _, rfl, Lib.hid (mres_two HG.out), (HX1.out.trans hx2).trans hx3⟩
        · clear h1
          go_wp2_with (first
      | (go_at_call 56; refine (HDL.out _).mono ?_; rintro e w2 ⟨rfl, rfl⟩)
      | (go_at_call 70; refine (bcontains_any (HBV.out.ext (HX1.out.trans hx2)) (show BytesV w2 0 _ b from ⟨_, _, rfl, Nat.zero_le _, hr2⟩) (by omega) (by omega) HCAP.out (HM.out.ext (HX1.out.trans hx2))).mono ?_; rw [HB2.out]; rintro e w3 ⟨rfl, hx3⟩)
      | (refine wpList_bytes_of_string_g _ 9 60 5 (.tmp 27) rfl (by kernel_rfl) Tryd.underlying9 Tryd.underlying60 Tryd.underlying5 b rfl ?_; intro w2 cap2 hx2 hr2 hc2))
          go_returns
          exact ⟨_, _, rfl, Lib.hid (mres_two HG.out), (HX1.out.trans hx2).trans hx3⟩
      · obtain rfl : b3 = false := HB3.out.symm.trans h1
        have qv : (vv.toList == k.toList) = false := by rw [beq_eq_false_iff_ne]; exact fun h => h2 (bs_ext h)
        clear h1 h2
        go_wp2_with (first
      | (go_at_call 56; refine (HDL.out _).mono ?_; rintro e w2 ⟨rfl, rfl⟩)
      | (go_at_call 70; refine (bcontains_any (HBV.out.ext (HX1.out.trans hx2)) (show BytesV w2 0 _ b from ⟨_, _, rfl, Nat.zero_le _, hr2⟩) (by omega) (by omega) HCAP.out (HM.out.ext (HX1.out.trans hx2))).mono ?_; rw [HB2.out]; rintro e w3 ⟨rfl, hx3⟩)
      | (refine wpList_bytes_of_string_g _ 9 60 5 (.tmp 27) rfl (by kernel_rfl) Tryd.underlying9 Tryd.underlying60 Tryd.underlying5 b rfl ?_; intro w2 cap2 hx2 hr2 hc2))
        go_returns
        exact ⟨_, _, rfl, Lib.hid (mres_two HG.out), (HX1.out.trans hx2).trans hx3⟩
end Go.Proofs.YteamnofooicbeaaDoor
