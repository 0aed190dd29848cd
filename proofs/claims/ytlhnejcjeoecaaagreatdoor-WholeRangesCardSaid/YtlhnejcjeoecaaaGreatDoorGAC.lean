/- Chapter 20: Read where something is missing, or out of range. Chapter 20: the reference's Put. Chapter 20: held. Chapter 20: Ints; the example. Chapter 20: the example. Chapter 20: the bytes of texts and of their pieces. Chapter 20: the law PiecesDrop, walked. Chapter 20: Join of two bodies that fit. The program's Put of a stretch of bytes, wherever it lies. Chapter 20: nil bodies; New refused; Merge of nothing; Held of a body without pieces. Chapter 20: the library's sort of a short list of ranges that is in order already. Chapter 20: ranges.Merge of a short list that is in order. -/
import Derived.Test.YtlhnejcjeoecaaaGreatDoorGAB
import Derived.Lib.SlBuf
import Derived.Laws.CopyOwn
import Derived.Laws.BitsLemmas
import Derived.Test.YtlhnejcjeoecaaaGreatDoorGAA
import Derived.Deep.RegionHeld3
import Derived.Deep.RegionLaw
import Derived.Deep.DrawnRows
import Derived.Deep.DeepCutAuto
namespace Go.Proofs.YtlhnejcjeoecaaaGreatDoor.P20
open Go.RowKit Go.Deep Go.Sort
set_option maxRecDepth 100000 in
set_option maxHeartbeats 4000000 in
theorem read_none {w : World} {B b l len : Nat} {A : Nat → Prop} {tag : ByteArray} {D : Nat → Option ByteArray} (h : BodyAt w B A b l tag len D) (f t : Nat) (hl : len ≤ 65536) (hft : f ≤ t) (htl : t ≤ len) (hg : gaps D (pcs f t) ≠ []) :
    Calls Tryz.prog 12 #[.pointer (some ⟨b, 0, none⟩), rngV f t] w fun e w' => e = .returned (.tuple #[.slice none 0 0, errV 3]) ∧ Ext w w' := by
  have c1 := h.c1
  have hb2 : (w.alloc (.cells #[.int .i64 f, .int .i64 t] 27)).cell? ⟨b, 1, none⟩ = some (.int .i64 len) := ((Ext.refl w).alloc _).cell c1
  have hb1 : (w.alloc (.cells #[.int .i64 f, .int .i64 t] 27)).drew.cell? ⟨b, 1, none⟩ = some (.int .i64 len) := (((Ext.refl w).alloc _).drew).cell c1
  have q1 : decide ((f : Int) < 0) = false := by simp
  have q2 : decide (t < f) = false := by simp; omega
  have q3 : decide (len < t) = false := by simp; omega
  have ha : Ext w (w.alloc (.cells #[.int .i64 f, .int .i64 t] 27)) := (Ext.refl w).alloc _
  have HM := Lib.hid (fun W (hW : BodyAt W B A b l tag len D) => missing_any hW f t f t hl (by omega) (by omega) (by omega))
  have HB := Lib.hid h
  have hpos : 0 < (gaps D (pcs f t)).length := List.length_pos_iff.2 hg
  obtain ⟨n, hn⟩ : ∃ n, (gaps D (pcs f t)).length = n := ⟨_, rfl⟩
  rw [hn] at hpos
  have HN := Lib.hid hn
  clear h hg hn
  go_enter Tryz.func12, Tryz.ntmps12
  go_upto_region 3 with fail
  refine wp_region_quiet_lit (by kernel_rfl) (by kernel_rfl) ?_
  repeat (go_big_quiet_step (fail))
  refine wpQuiet_nil ?_
  rintro _ ⟨nq, rfl⟩
  go_wp2_with (go_at_call 14; refine (HM.out _ (HB.out.ext (ha.drewN _))).mono ?_; rintro e w1 ⟨v1, rfl, hx, ho⟩; obtain ⟨A1, cap1, rfl, -, -⟩ := ho.shape; rw [HN.out]; have X1 := (ha.drewN _).trans hx)
  go_returns
  exact ⟨rfl, X1⟩
set_option maxRecDepth 100000 in
set_option maxHeartbeats 4000000 in
theorem read_bad {w : World} {B b l len : Nat} {A : Nat → Prop} {tag : ByteArray} {D : Nat → Option ByteArray} (h : BodyAt w B A b l tag len D) (F T : Int) (hb : F < 0 ∨ T < F ∨ (len : Int) < T) :
    Calls Tryz.prog 12 #[.pointer (some ⟨b, 0, none⟩), rngV F T] w fun e w' => e = .returned (.tuple #[.slice none 0 0, errV 1]) ∧ Ext w w' := by
  have c1 := h.c1
  have hb2 : (w.alloc (.cells #[.int .i64 F, .int .i64 T] 27)).cell? ⟨b, 1, none⟩ = some (.int .i64 len) := ((Ext.refl w).alloc _).cell c1
  have hb1 : (w.alloc (.cells #[.int .i64 F, .int .i64 T] 27)).drew.cell? ⟨b, 1, none⟩ = some (.int .i64 len) := (((Ext.refl w).alloc _).drew).cell c1
  have ha : Ext w (w.alloc (.cells #[.int .i64 F, .int .i64 T] 27)) := (Ext.refl w).alloc _
  go_enter Tryz.func12, Tryz.ntmps12
  by_cases h1 : F < 0
  · have q1 : decide (F < 0) = true := by simp [h1]
    clear hb h1
    go_upto_region 3 with fail
    refine wp_region_quiet_lit (by kernel_rfl) (by kernel_rfl) ?_
    repeat (go_big_quiet_step (fail))
    refine wpQuiet_nil ?_
    rintro _ ⟨nq, rfl⟩
    go_wp2_with fail
    go_returns
    exact ⟨rfl, ha.drewN _⟩
  · have q1 : decide (F < 0) = false := by simp; omega
    by_cases h2 : T < F
    · have q2 : decide (T < F) = true := by simp [h2]
      clear hb h1 h2
      go_upto_region 3 with fail
      refine wp_region_quiet_lit (by kernel_rfl) (by kernel_rfl) ?_
      repeat (go_big_quiet_step (fail))
      refine wpQuiet_nil ?_
      rintro _ ⟨nq, rfl⟩
      go_wp2_with fail
      go_returns
      exact ⟨rfl, ha.drewN _⟩
    · have q2 : decide (T < F) = false := by simp; omega
      have q3 : decide ((len : Int) < T) = true := by simp; omega
      clear hb h1 h2
      go_upto_region 3 with fail
      refine wp_region_quiet_lit (by kernel_rfl) (by kernel_rfl) ?_
      repeat (go_big_quiet_step (fail))
      refine wpQuiet_nil ?_
      rintro _ ⟨nq, rfl⟩
      go_wp2_with fail
      go_returns
      exact ⟨rfl, ha.drewN _⟩
end Go.Proofs.YtlhnejcjeoecaaaGreatDoor.P20
namespace Go.Proofs.YtlhnejcjeoecaaaGreatDoor.P20
open Go.RowKit Go.Deep Go.Sort

/-- copy(d, s) of two rows of the same length -/
theorem wpList_copy_rows {w : World} {ops : Array Oper} {rest : List Oper} {o : Oper} {a : Act} {Q : Exit → Act → World → Prop} (hgd : o.guard = none) (x y : Operand) (T e : TypeId)
    (ho : o.op = .call { callee := .builtin .copy, args := #[x, y], argTypes := #[T, T] }) (hu : Tryz.prog.underlying T = some (.slice e)) (hsz : (Tryz.prog.info? e).map (·.size) = some 1)
    (d s n cap cap' : Nat) (f g : Nat → Value) (hd : w.rowIs d e n f) (hs : w.rowIs s e n g) (h1 : ∀ i, i < n → (g i).oneCell' = true)
    (hx : a.eval x = .slice (some ⟨d, 0, none⟩) n cap) (hy : a.eval y = .slice (some ⟨s, 0, none⟩) n cap')
    (h : ∀ w', w'.rowIs d e n g → (∀ k, k ≠ d → w'.heap[k]? = w.heap[k]?) → (∀ B v, B ≤ d → Below B v w → Below B v w') → wpList Tryz.prog ops Q rest (a.put o.dst (.int .i64 n)) w') : wpList Tryz.prog ops Q (o :: rest) a w := by
  obtain ⟨cur, hb, hn, hc⟩ := hd
  have hl : ((List.range n).map g).length = n := by simp
  have hrun := run_copy_row (P := Tryz.prog) w T T o.type e d 0 n cap ⟨s, 0, none⟩ n cap' cur e ((List.range n).map g) hu hsz hb (by simp) (fun j v hj => by
    have hjn : j < n := by have := (List.getElem?_eq_some_iff.1 hj).1; simpa using this
    rw [Addr.add_lit, Nat.zero_add, hs.cell hjn, ← hj]
    simp [hjn]) (by simp; omega) (fun v hv => by
    obtain ⟨j, hj, rfl⟩ := List.mem_map.1 hv
    exact h1 j (List.mem_range.1 hj))
  refine Lib.wpList_copy_run w hgd x y T T ho _ _ hx hy hrun ?_
  rw [hl]
  refine h _ ⟨_, setRow_heap w d cur _ e _ hb, ?_, fun i hi => ?_⟩ (fun k hk => setRow_other w d k _ hk) (fun B v hB hbl => below_setRow hbl hB _)
  · simp; omega
  · simp [hn, hi]


end Go.Proofs.YtlhnejcjeoecaaaGreatDoor.P20
namespace Go.Proofs.YtlhnejcjeoecaaaGreatDoor.P20
open Go.RowKit Go.Deep Go.Sort

/-- the pieces that bits choose -/
def hD (t : ByteArray) (bits i : Nat) : Option ByteArray := if bits / 2 ^ (i % 8) % 2 = 1 then some (pcS t i) else none
def hK (t : ByteArray) (bits k i : Nat) : Option ByteArray := if i < k then hD t bits i else none
theorem bit_test (bits k : Nat) (h : bits < 256) : (Go.bits .and .u8 ((bits : Int) / 2 ^ (k % 8)) 1 == 1) = decide (bits / 2 ^ (k % 8) % 2 = 1) := by
  have e : ((bits : Int) / 2 ^ (k % 8)) = ((bits / 2 ^ (k % 8) : Nat) : Int) := by simp
  have hle : bits / 2 ^ (k % 8) < 256 := Nat.lt_of_le_of_lt (Nat.div_le_self _ _) h
  rw [e]
  generalize bits / 2 ^ (k % 8) = x at hle
  have := bits_mask .u8 8 (by decide) wraps_u8 1 (by decide) (x : Int) (by omega) (by omega)
  have h2 : Go.bits .and .u8 (x : Int) 1 = (x : Int) % 2 := this
  rw [h2]
  by_cases hx : x % 2 = 1
  · rw [decide_eq_true hx, beq_iff_eq]; omega
  · rw [decide_eq_false hx, beq_eq_false_iff_ne]; omega
theorem bytes_of_row {w : World} {g : Nat} {e : TypeId} {s : ByteArray} (h : RowB w g e (s.data.toList.map fun b => Value.int .u8 b.toNat)) : BytesAt w g s := by
  intro i hi
  have hi2 : i < s.data.toList.length := by simpa using hi
  refine h.cell ?_
  rw [List.getElem?_map, List.getElem?_eq_getElem hi2]
  have hi3 : i < (byteIs s).length := by rw [byteIs_length]; exact hi
  rw [List.getD_eq_getElem?_getD, List.getElem?_eq_getElem hi3]
  simp [byteIs]
theorem hK_hit {t : ByteArray} {bits k : Nat} (h : bits / 2 ^ (k % 8) % 2 = 1) : hK t bits (k + 1) = upd (hK t bits k) k (some (pcS t k)) := by
  funext j
  unfold upd hK
  by_cases e : j = k
  · subst e
    rw [if_pos rfl, if_pos (by omega)]
    unfold hD
    rw [if_pos h]
  · rw [if_neg e]
    by_cases e2 : j < k
    · rw [if_pos e2, if_pos (by omega)]
    · rw [if_neg e2, if_neg (by omega)]
theorem hK_miss {t : ByteArray} {bits k : Nat} (h : ¬ bits / 2 ^ (k % 8) % 2 = 1) : hK t bits (k + 1) = hK t bits k := by
  funext j
  unfold hK
  by_cases e : j = k
  · subst e
    rw [if_pos (by omega), if_neg (by omega)]
    unfold hD
    rw [if_neg h]
  · by_cases e2 : j < k
    · rw [if_pos e2, if_pos (by omega)]
    · rw [if_neg e2, if_neg (by omega)]
theorem BodyAt.more {w : World} {B B' b l len : Nat} {A : Nat → Prop} {tag : ByteArray} {D : Nat → Option ByteArray} (h : BodyAt w B A b l tag len D) (hb : B' ≤ B) : BodyAt w B' A b l tag len D := by
  obtain ⟨f, hf, hp⟩ := h.row
  refine ⟨Nat.le_trans hb h.hb, Nat.le_trans hb h.hl, h.ne, h.av, h.c0, h.c1, h.c2, f, hf, fun i hi => ?_⟩
  have := hp i hi
  cases hD : D i with
  | none => rw [hD] at this; exact this
  | some s =>
    rw [hD] at this
    obtain ⟨g, cap, h1, h2, h3, h4, h5, h6⟩ := this
    exact ⟨g, cap, h1, h2, ⟨by omega, h3.2⟩, h4, h5, h6⟩
end Go.Proofs.YtlhnejcjeoecaaaGreatDoor.P20
namespace Go.Proofs.YtlhnejcjeoecaaaGreatDoor.P20
open Go.RowKit Go.Deep Go.Sort

/-- a slice that reads as a list of ints -/
def IntsIn (w : World) (v : Value) (xs : List Nat) : Prop := ∃ A cap, v = .slice A xs.length cap ∧ xs.length ≤ cap ∧ ∀ i, i < xs.length → ∃ g, A = some ⟨g, 0, none⟩ ∧ w.cell? ⟨g, i, none⟩ = some (.int .i64 ((xs[i]?).getD 0 : Nat))
theorem IntsOwn.reads {w : World} {B : Nat} {v : Value} {xs : List Nat} (h : IntsOwn w B v xs) : IntsIn w v xs := by
  obtain ⟨A, cap, rfl, hc, hn⟩ := h.shape
  refine ⟨A, cap, rfl, hc, fun i hi => ?_⟩
  obtain ⟨g, cap', e1, e2, e3, e4, e5⟩ := h.cell i hi
  simp only [Value.slice.injEq, true_and] at e1
  exact ⟨g, e1.1, e5⟩
theorem IntsIn.ext {w w' : World} {v : Value} {xs : List Nat} (h : IntsIn w v xs) (hx : Ext w w') : IntsIn w' v xs := by
  obtain ⟨A, cap, h1, h2, h3⟩ := h
  exact ⟨A, cap, h1, h2, fun i hi => by
    obtain ⟨g, e1, e2⟩ := h3 i hi
    exact ⟨g, e1, hx.cell e2⟩⟩
end Go.Proofs.YtlhnejcjeoecaaaGreatDoor.P20
namespace Go.Proofs.YtlhnejcjeoecaaaGreatDoor.P20
open Go.RowKit Go.Deep Go.Sort

def z88 : ByteArray := ⟨(List.replicate 88 (0 : UInt8)).toArray⟩
end Go.Proofs.YtlhnejcjeoecaaaGreatDoor.P20
namespace Go.Proofs.YtlhnejcjeoecaaaGreatDoor.P20
open Go.RowKit Go.Deep Go.Sort

theorem txB_range (salt j : Nat) : 0 ≤ txB salt j ∧ txB salt j < 256 := by
  have h : ∀ n : Int, 0 ≤ IntKind.u8.wrap n ∧ IntKind.u8.wrap n < 256 := fun n => by rw [IntKind.wrap_u8]; omega
  unfold txB bits
  exact h _
theorem txS_size (n salt : Nat) : (txS n salt).size = n := by
  unfold txS strOfNums
  show (List.map _ _).toArray.size = n
  simp
theorem txS_bytes (n salt : Nat) : byteIs (txS n salt) = (List.range n).map (txB salt) := by
  unfold byteIs txS strOfNums
  show List.map _ ((List.map _ _).toArray.toList) = _
  rw [List.map_map, List.map_map]
  apply List.map_congr_left
  intro j _
  have := txB_range salt j
  simp only [Function.comp]
  rw [UInt8.toNat_ofNat']
  omega
theorem byteIs_getD {s : ByteArray} {j : Nat} (h : j < s.size) : (byteIs s).getD j 0 = ((s[j]'h).toNat : Int) := by
  rw [List.getD_eq_getElem?_getD, List.getElem?_eq_getElem (by rw [byteIs_length]; exact h)]
  simp [byteIs]
  rfl
theorem pcS_byte (t : ByteArray) (j : Nat) (h : j < t.size) : (byteIs (pcS t (j / 256))).getD (j % 256) 0 = (byteIs t).getD j 0 := by
  have hs : j % 256 < (pcS t (j / 256)).size := by rw [pcS_size t _ (by omega)]; unfold pto; omega
  rw [byteIs_getD hs, byteIs_getD h]
  have e : (pcS t (j / 256))[j % 256]'hs = t[j / 256 * 256 + j % 256]'(by omega) := ByteArray.getElem_extract (h := hs)
  have e2 : t[j / 256 * 256 + j % 256]'(by omega) = t[j]'h := getElem_congr rfl (by omega) _
  rw [e, e2]
theorem tx_ne (j : Nat) : txB 9 j ≠ txB 10 j := by
  have h : ∀ x : Nat, x < 256 → bits .xor .u8 (x : Int) 9 ≠ bits .xor .u8 (x : Int) 10 := by decide +kernel
  unfold txB
  have := h ((((j : Int) * 7 + (j : Int) / 256) % 256).toNat) (by omega)
  have e : (((((j : Int) * 7 + (j : Int) / 256) % 256).toNat : Nat) : Int) = ((j : Int) * 7 + (j : Int) / 256) % 256 := by omega
  rw [e] at this
  exact this
end Go.Proofs.YtlhnejcjeoecaaaGreatDoor.P20
namespace Go.Proofs.YtlhnejcjeoecaaaGreatDoor.P20
open Go.RowKit Go.Deep Go.Sort

/-- '[]byte(s)' behind a guard that is met -/
theorem wpList_bytes_of_string_g {P : Program} (w : World) {ops : Array Oper} {rest : List Oper} {o : Oper} {a : Act} {Q : Exit → Act → World → Prop}
    (src dst e : TypeId) (x : Operand) (ho : o.op = Op.convert src dst x) (hw : Region.wanted o (yielded ops a.tmps) = true) (hs : P.underlying src = some .string) (hd : P.underlying dst = some (.slice e)) (he : P.underlying e = some (.int .u8))
    (s : ByteArray) (hx : a.eval x = .string s)
    (hK : ∀ w' cap, Ext w w' → RowB w' w.heap.size e (s.data.toList.map fun b => Value.int .u8 b.toNat) → s.size ≤ cap → wpList P ops Q rest (a.put o.dst (.slice (some ⟨w.heap.size, 0, none⟩) s.size cap)) w') :
    wpList P ops Q (o :: rest) a w := by
  refine BigFrame.wpList_want hw fun K hK' => ?_
  have hrun := run_bytes_of_string (P := P) w src dst e s hs hd he
  unfold Oper.wp
  simp only [execOp, ho, hx, Sem.run_bind, hrun, Result.andThen]
  refine hK' _ _ (hK _ _ ((Ext.refl w).drew.trans (Ext.alloc (Ext.refl _) _)) ?_ ?_)
  · refine ⟨bytesRow s (grownCap w s.size 0 e), ((bytesRow s (grownCap w s.size 0 e)).size, (bytesRow s (grownCap w s.size 0 e)).size + 1), List.replicate (grownCap w s.size 0 e - s.size) (.int .u8 0), ?_, ?_, ?_⟩
    · show (w.heap.push _)[w.heap.size]? = _
      simp
    · intro j h1 _; exact h1
    · unfold bytesRow
      simp
  · exact grownCap_ge w s.size 0 e
theorem Ext.below' {B : Nat} {w w' : World} (h : Ext w w') (hb : B ≤ w.heap.size) : Below B w w' := Below.mono h hb
theorem BytesOwn.shape {w : World} {B : Nat} {v : Value} {xs : List Int} (h : BytesOwn w B v xs) : ∃ A cap, v = .slice A xs.length cap := by
  rcases h.2 with ⟨rfl, e⟩ | ⟨g, cap, cur, rfl, hb, hh, hl, hm, hc, ht⟩
  · exact ⟨none, 0, by rw [e]⟩
  · exact ⟨_, cap, rfl⟩
theorem BytesOwn.cell {w : World} {B : Nat} {A : Option Addr} {n cap : Nat} {xs : List Int} (h : BytesOwn w B (.slice A n cap) xs) (i : Nat) (hi : i < xs.length) :
    ∃ g, A = some ⟨g, 0, none⟩ ∧ xs.length ≤ cap ∧ B ≤ g ∧ w.cell? ⟨g, i, none⟩ = some (.int .u8 ((xs[i]? ).getD 0)) := by
  rcases h.2 with ⟨_, e⟩ | ⟨g, cap', cur, e, hb, hh, hl, hm, hc, ht⟩
  · omega
  · simp only [Value.slice.injEq] at e
    obtain ⟨rfl, rfl, rfl⟩ := e
    refine ⟨g, rfl, hl, hb, ?_⟩
    rw [cell_of_row w g i cur _ _ hh]
    have h1 : (cur.toList.take (xs.length * 1))[i]? = some (Value.int .u8 ((xs[i]?).getD 0)) := by
      rw [ht, List.getElem?_map, List.getElem?_eq_getElem hi]
      rfl
    rw [List.getElem?_take] at h1
    simpa [hi] using h1
theorem hD_all (t : ByteArray) (i : Nat) : hD t 255 i = some (pcS t i) := by
  unfold hD
  have : ∀ r, r < 8 → 255 / 2 ^ r % 2 = 1 := by decide
  rw [if_pos (this _ (Nat.mod_lt _ (by omega)))]
theorem mk_bytes {w' : World} {e : TypeId} {g : Nat} {s : ByteArray} (h : RowB w' g e (s.data.toList.map fun b => Value.int .u8 b.toNat)) : BytesAt w' g s := bytes_of_row h
def dp (t p : ByteArray) (k : Nat) : Nat → Option ByteArray := upd (upd (upd (hD t 255) k none) k none) k (some p)
theorem dp_at (t p : ByteArray) (k i : Nat) : dp t p k i = some (if i = k then p else pcS t i) := by
  unfold dp upd
  by_cases h : i = k
  · rw [if_pos h, if_pos h]
  · simp only [if_neg h]
    rw [hD_all]
theorem dp_whole (t p : ByteArray) (k m : Nat) : decide (∀ i, i < npc m → (dp t p k i).isSome = true) = true := by
  rw [decide_eq_true_iff]
  intro i _
  rw [dp_at]
  rfl
theorem dp_ok {t p : ByteArray} {k m : Nat} (hts : t.size = m) (hp : p.size = pto k m - k * 256) : PcOk m (dp t p k) := by
  intro i hi s hs
  rw [dp_at] at hs
  obtain rfl := Option.some.inj hs
  by_cases h : i = k
  · rw [if_pos h, h, hp]
  · rw [if_neg h, pcS_size t i (by unfold npc at hi; omega), hts]
theorem dp_gaps (t p : ByteArray) (k m : Nat) : gaps (dp t p k) (pcs 0 m) = [] := by
  unfold gaps
  rw [List.filter_eq_nil_iff]
  intro i _
  rw [dp_at]
  simp
theorem rd_byte {t o p : ByteArray} {k m : Nat} (hts : t.size = m) (hos : o.size = m) (ht : t = txS m 9) (ho : o = txS m 10) (hp : pcS o k = p) (j : Nat) (hj : j < m) :
    ((rdL (dp t p k) 0 m)[j]?).getD 0 = (if j / 256 = k then txB 10 j else txB 9 j) ∧ ∀ h : j < t.size, ((t[j]'h).toNat : Int) = txB 9 j := by
  have h9 : (byteIs t).getD j 0 = txB 9 j := by rw [ht, txS_bytes]; simp [hj]
  have h10 : (byteIs o).getD j 0 = txB 10 j := by rw [ho, txS_bytes]; simp [hj]
  refine ⟨?_, fun h => by rw [← byteIs_getD h, h9]⟩
  have : ((rdL (dp t p k) 0 m)[j]?).getD 0 = (byteIs ((dp t p k (j / 256)).getD ⟨#[]⟩)).getD (j % 256) 0 := by
    unfold rdL
    simp [hj]
  rw [this, dp_at, Option.getD_some]
  by_cases e : j / 256 = k
  · rw [if_pos e, if_pos e, ← hp, ← e, pcS_byte o j (by omega), h10]
  · rw [if_neg e, if_neg e, pcS_byte t j (by omega), h9]
end Go.Proofs.YtlhnejcjeoecaaaGreatDoor.P20
namespace Go.Proofs.YtlhnejcjeoecaaaGreatDoor.P20
open Go.RowKit Go.Deep Go.Sort
attribute [local go_sem ↓] Go.wp_at_zero Go.wp_at_succ

def jnK (D E : Nat → Option ByteArray) (k i : Nat) : Option ByteArray := if i < k then (E i).or (D i) else D i
def jn (D E : Nat → Option ByteArray) (i : Nat) : Option ByteArray := (E i).or (D i)
theorem jnK_zero (D E : Nat → Option ByteArray) : jnK D E 0 = D := by funext j; unfold jnK; rw [if_neg (by omega)]
theorem jnK_hit {D E : Nat → Option ByteArray} {k : Nat} {s : ByteArray} (h : E k = some s) : jnK D E (k + 1) = upd (jnK D E k) k (some s) := by
  funext j
  unfold upd jnK
  by_cases e : j = k
  · subst e
    rw [if_pos rfl, if_pos (by omega), h]
    rfl
  · rw [if_neg e]
    by_cases e2 : j < k
    · rw [if_pos e2, if_pos (by omega)]
    · rw [if_neg e2, if_neg (by omega)]
theorem jnK_miss {D E : Nat → Option ByteArray} {k : Nat} (h : E k = none) : jnK D E (k + 1) = jnK D E k := by
  funext j
  unfold jnK
  by_cases e : j = k
  · subst e
    rw [if_pos (by omega), if_neg (by omega), h]
    rfl
  · by_cases e2 : j < k
    · rw [if_pos e2, if_pos (by omega)]
    · rw [if_neg e2, if_neg (by omega)]
theorem equal_same (w : World) (g g' c d : Nat) (s : ByteArray) (hs : BytesAt w g s) (ht : BytesAt w g' s) :
    Calls Tryz.prog 22 #[.slice (some ⟨g, 0, none⟩) s.size c, .slice (some ⟨g', 0, none⟩) s.size d] w fun e w' => e = .returned (.bool true) ∧ w = w' := by
  have := equal_any w g g' c d s s hs ht
  simpa using this
set_option maxRecDepth 100000 in
set_option maxHeartbeats 4000000 in
theorem join_ok {w : World} {B b l len : Nat} {A : Nat → Prop} {tag : ByteArray} {D : Nat → Option ByteArray} (h : BodyAt w B A b l tag len D) {B' b' l' : Nat} {A' : Nat → Prop} {E : Nat → Option ByteArray} (h' : BodyAt w B' A' b' l' tag len E)
    (hA : ∀ k, A k → k < w.heap.size) (hA' : A' l) (hl : len ≤ 65536) (q1 : (tag.toList == []) = false) (hok : PcOk len E) (hfit : ∀ i, i < npc len → ∀ s s', D i = some s → E i = some s' → s = s') :
    Calls Tryz.prog 9 #[.pointer (some ⟨b, 0, none⟩), .pointer (some ⟨b', 0, none⟩)] w fun e w' => e = .returned .nilIface ∧ Below B w w' ∧ Kept l w w' ∧ BodyAt w' B A b l tag len (jn D E) ∧ BodyAt w' B' A' b' l' tag len E := by
  have hn : npc len ≤ 256 := by unfold npc; omega
  obtain ⟨i0, hi0, hz0, hz1, hz2⟩ := info_parts u8_info
  have HH := Lib.hid h
  have HH' := Lib.hid h'
  have c0 := h.c0
  have c1 := h.c1
  have c2 := h.c2
  have d0 := h'.c0
  have d1 := h'.c1
  have d2 := h'.c2
  have q2 : ((len : Int) != (len : Int)) = false := by simp
  clear h h'
  go_enter Tryz.func9, Tryz.ntmps9
  go_upto_region 3 with fail
  refine wp_region_quiet_lit (by kernel_rfl) (by kernel_rfl) ?_
  repeat (go_big_quiet_step (fail))
  refine wpQuiet_nil ?_
  rintro _ ⟨nq, rfl⟩
  go_wp2_with fail
  go_loopw [49] (fun i wr => ∃ k : Nat, k ≤ npc len ∧ i = .int .i64 k ∧ wr = w.drewN nq) (fun i _ => npc len - (intOf i).toNat)
  case atStart => exact ⟨0, by omega, rfl, rfl⟩
  case round =>
    obtain ⟨k, hk, rfl, rfl⟩ := hrel
    by_cases hlt : k < npc len
    · have hki : (k : Int) < (npc len : Int) := by omega
      obtain ⟨f, hf, hp⟩ := HH.out.row
      obtain ⟨f', hf', hp'⟩ := HH'.out.row
      have hc := hf.cell hlt
      have hc' := hf'.cell hlt
      have hpk := hp k hlt
      have hpk' := hp' k hlt
      cases hD : D k with
      | none =>
        rw [hD] at hpk
        rw [show f k = .slice none 0 0 from hpk] at hc
        clear hp hp' hpk hpk' hD hc' hfit
        go_wp2_with fail
        go_roundw
        case rel => exact ⟨k + 1, by omega, by go_num, by first | rfl | trivial⟩
        case measure => simp [intOf]; omega
      | some s =>
        rw [hD] at hpk
        obtain ⟨g, cap, e1, -, -, -, -, hs⟩ := hpk
        rw [e1] at hc
        cases hE : E k with
        | none =>
          rw [hE] at hpk'
          rw [show f' k = .slice none 0 0 from hpk'] at hc'
          clear hp hp' hpk' hD hE hfit
          go_wp2_with fail
          go_roundw
          case rel => exact ⟨k + 1, by omega, by go_num, by first | rfl | trivial⟩
          case measure => simp [intOf]; omega
        | some s' =>
          rw [hE] at hpk'
          obtain ⟨g', cap', e1', -, -, -, -, hs'⟩ := hpk'
          rw [e1'] at hc'
          obtain rfl := hfit k hlt s s' hD hE
          clear hp hp' hD hE e1 e1' hfit
          go_wp2_with (go_at_call 22; refine (equal_same (w.drewN nq) g g' cap cap' s (fun i hi => hs i hi) (fun i hi => hs' i hi)).mono ?_; rintro e w' ⟨rfl, rfl⟩)
          go_roundw
          case rel => exact ⟨k + 1, by omega, by go_num, by first | rfl | trivial⟩
          case measure => simp [intOf]; omega
    · obtain rfl : k = npc len := by omega
      clear hfit
      go_wp2_with fail
      clear c0 c1 c2 d0 d1 d2
      go_loopw [85] (fun i wr => ∃ k : Nat, k ≤ npc len ∧ i = .int .i64 k ∧ Below B w wr ∧ Kept l w wr ∧ BodyAt wr B A b l tag len (jnK D E k) ∧ BodyAt wr B' A' b' l' tag len E) (fun i _ => npc len - (intOf i).toNat)
      case atStart =>
        exact ⟨0, by omega, rfl, Below.mono ((Ext.refl w).drewN nq) (Nat.le_trans HH.out.hb (Nat.le_of_lt (World.block_lt_of_cell? w _ HH.out.c0))), Kept.of_ext l ((Ext.refl w).drewN nq), by rw [jnK_zero]; exact HH.out.ext ((Ext.refl w).drewN nq), HH'.out.ext ((Ext.refl w).drewN nq)⟩
      case round =>
        obtain ⟨k, hk, rfl, hbl, hkp, hB, hE⟩ := hrel
        by_cases hlt : k < npc len
        · have hki : (k : Int) < (npc len : Int) := by omega
          have c2 := hB.c2
          obtain ⟨f, hf, hp⟩ := hB.row
          obtain ⟨f', hf', hp'⟩ := hE.row
          have hc := hf.cell hlt
          have hfz := hf.frozen k
          have hc' := hf'.cell hlt
          have hpk' := hp' k hlt
          cases hEk : E k with
          | none =>
            rw [hEk] at hpk'
            rw [show f' k = .slice none 0 0 from hpk'] at hc'
            have HJ := Lib.hid (jnK_miss (D := D) hEk)
            have HB := Lib.hid hB
            have HE := Lib.hid hE
            clear hp hp' hpk' hEk hB hE
            go_wp2_with fail
            go_roundw
            case rel => exact ⟨k + 1, by omega, by go_num, hbl, hkp, by rw [HJ.out]; exact HB.out, HE.out⟩
            case measure => simp [intOf]; omega
          | some s =>
            rw [hEk] at hpk'
            obtain ⟨g, cap, e1, e2, e3, e4, e5, hs⟩ := hpk'
            rw [e1] at hc'
            have HJ := Lib.hid (jnK_hit (D := D) hEk)
            have hz := hok k hlt s hEk
            have hkl : k * 256 < len := by unfold npc at hlt; omega
            have hs6 : s.size ≤ 256 := by rw [hz]; unfold pto; omega
            have hs0 : 1 ≤ s.size := by rw [hz]; unfold pto; omega
            have hrd : Reads wr wr.heap.size 1 (some ⟨g, 0, none⟩) s.size ((byteIs s).map (Value.int .u8)) := by
              refine ⟨by simp [byteIs_length], fun _ => ⟨_, rfl, e5, fun j u hu => ?_⟩⟩
              have hj : j < s.size := by
                have := (List.getElem?_eq_some_iff.1 hu).1
                simpa [byteIs_length] using this
              rw [Addr.add_lit, Nat.zero_add, hs j hj, ← hu, List.getElem?_map, List.getElem?_eq_getElem (by rw [byteIs_length]; exact hj)]
              simp [List.getD, byteIs_length, hj]
            have hrd6 : Reads (wr.alloc (.cells #[] 5)).drew wr.heap.size 1 (some ⟨g, 0, none⟩) s.size ((byteIs s).map (Value.int .u8)) := (hrd.alloc (Nat.le_refl _) _).drew
            have hown : (wr.alloc (.cells #[] 5)).drew.ownsRow wr.heap.size 5 1 (.slice (some ⟨wr.heap.size, 0, none⟩) 0 0) 0 [] := by
              refine ⟨rfl, .inr ⟨wr.heap.size, 0, #[], rfl, Nat.le_refl _, heap_alloc_new wr _, Nat.le_refl _, by simp only [maxLen]; omega, rfl, rfl⟩⟩
            have hone : ∀ v ∈ (byteIs s).map (Value.int .u8), v.oneCell' = true := by
              intro v hv
              obtain ⟨n, -, rfl⟩ := List.mem_map.1 hv
              rfl
            have hbz : b < wr.heap.size := World.block_lt_of_cell? wr _ c2
            have hlz : l < wr.heap.size := hf.lt
            have hc6 : (wr.alloc (.cells #[] 5)).drew.cell? ⟨l, k, none⟩ = some (f k) := Ext.cell (((Ext.refl wr).alloc _).drew) hc
            have hf6 : (wr.alloc (.cells #[] 5)).drew.frozen? ⟨l, k, none⟩ = false := (Ext.frozen (((Ext.refl wr).alloc _).drew) hc).trans hfz
            have hd6 : (wr.alloc (.cells #[] 5)).drew.cell? ⟨b, 2, none⟩ = some (.slice (some ⟨l, 0, none⟩) (npc len) (npc len)) := Ext.cell (((Ext.refl wr).alloc _).drew) c2
            have HB := Lib.hid hB
            have HE := Lib.hid hE
            have HAV : Hid (∀ k, A k → k < wr.heap.size) := fun k hk => Nat.lt_of_lt_of_le (hA k hk) hkp.1
            have hBl := hB.hl
            have HKP := Lib.hid hkp
            have HBL := Lib.hid hbl
            have HEK := Lib.hid hEk
            have qa : decide ((k : Int) < 0) = false := by simp
            have qb : decide (npc len ≤ k) = false := by simp; omega
            clear hp hp' hEk hB hE hz hs e1 hkp hbl
            go_upto_region 15 with fail
            go_region_law (first
              | (refine step_append_any _ (by rfl) _ _ _ (by rfl) wr.heap.size 5 i0 _ 1 1 Tryz.underlying22 hi0 hz0 hz1 hz2 rfl (by omega) (.slice (some ⟨wr.heap.size, 0, none⟩) 0 0) 0 [] (by rfl) hown wr.heap.size (some ⟨g, 0, none⟩) s.size cap ((byteIs s).map (Value.int .u8)) (by rfl) hrd6 hone (by simp only [maxLen]; omega) (by omega) (by simp) ?_
                 intro v7 w7 hown7 hg7 hat7
                 rw [Nat.zero_add, List.nil_append] at hown7
                 obtain ⟨g7, cap7, rfl, hb7, hl7, hm7, hz7⟩ := own_some hown7 (by rcases hat7 with e | e <;> rw [e] <;> simp [Value.ownBlock])
                 have bl7 := hg7.block l (by simp; omega) (by simp [Value.ownBlock]; omega)
                 have bb7 := hg7.block b (by simp; omega) (by simp [Value.ownBlock]; omega)
                 have c7 : w7.cell? ⟨l, k, none⟩ = some (f k) := (World.cell?_of_block bl7).trans hc6
                 have f7 : w7.frozen? ⟨l, k, none⟩ = false := (World.frozen?_of_block bl7).trans hf6
                 have d7 : w7.cell? ⟨b, 2, none⟩ = some (.slice (some ⟨l, 0, none⟩) (npc len) (npc len)) := (World.cell?_of_block bb7).trans hd6
                 have X7 : Ext wr w7 := Below.grown (((Ext.refl wr).alloc _).drew) hg7 (Ext.size (((Ext.refl wr).alloc _).drew)) (own_ge (Nat.le_refl _))
                 have Y7 := (HB.out.ext X7).set k (.slice (some ⟨g7, 0, none⟩) s.size cap7) (some s) ⟨g7, cap7, rfl, hl7, ⟨by omega, fun e => by have := HAV.out _ e; omega⟩, by omega, hz7, own_bytes hown7⟩
                 have Z7 : Below B w (w7.setCell ⟨l, k, none⟩ (.slice (some ⟨g7, 0, none⟩) s.size cap7)) := (Below.trans HBL.out (Below.mono X7 (by omega))).setCell hBl _
                 have K7' : Kept l wr (w7.setCell ⟨l, k, none⟩ (.slice (some ⟨g7, 0, none⟩) s.size cap7)) := (Kept.of_ext l X7).set _ _
                 have K7 := HKP.out.trans K7'
                 have E7 := HE.out.kept K7' hA'))
            all_goals go_wp2_with fail
            all_goals exact ⟨⟨k + 1, by omega, by go_num, Z7, K7, by rw [HJ.out]; exact Y7, E7⟩, by simp [intOf]; omega⟩
        · obtain rfl : k = npc len := by omega
          clear hk hlt
          have HB := Lib.hid hB
          have HE := Lib.hid hE
          clear hB hE
          go_wp2_with fail
          go_ret
          exact ⟨rfl, hbl, hkp, HB.out.congr fun j hj => by unfold jnK jn; rw [if_pos hj], HE.out⟩
end Go.Proofs.YtlhnejcjeoecaaaGreatDoor.P20
namespace Go.Proofs.YtlhnejcjeoecaaaGreatDoor.P20
open Go.RowKit Go.Deep Go.Sort
attribute [local go_sem ↓] Go.wp_at_zero Go.wp_at_succ
theorem conv_bytesO {w : World} {g o cap : Nat} {s : ByteArray} (h : BytesO w g o s) :
    (convert 22 9 (.slice (some ⟨g, o, none⟩) s.size cap)).run Tryz.prog w = .ok (.string s) w := by
  have := run_convert_bytes_arg (P := Tryz.prog) w 22 5 Tryz.underlying22 Tryz.underlying5 g o s.size cap (byteIs s) (byteIs_length s) (fun i hi => h i hi) 9 Tryz.underlying9
  rw [strOf_byteIs] at this
  exact this
set_option maxRecDepth 100000 in
theorem equal_sameO (w : World) (g g' o c d : Nat) (s : ByteArray) (hs : BytesAt w g s) (ht : BytesO w g' o s) :
    Calls Tryz.prog 22 #[.slice (some ⟨g, 0, none⟩) s.size c, .slice (some ⟨g', o, none⟩) s.size d] w fun e w' => e = .returned (.bool true) ∧ w = w' := by
  have h1 := conv_bytes (cap := c) hs
  have h2 := conv_bytesO (cap := d) ht
  go_enter Tryz.func22, Tryz.ntmps22
  go_wp2_with fail
  go_ret
  exact ⟨ret_bool (by simp), rfl⟩
set_option maxRecDepth 100000 in
/-- a Put of a piece that is there with the same bytes -/
theorem put_sameO {w : World} {B b l len : Nat} {A : Nat → Prop} {tag : ByteArray} {D : Nat → Option ByteArray} (h : BodyAt w B A b l tag len D) (hl : len ≤ 65536) (i : Nat) (hi : i < npc len) (g o cap : Nat) (s : ByteArray)
    (hs : BytesO w g o s) (hz : s.size = pto i len - i * 256) (hD : D i = some s) (hA : ∀ k, A k → k < w.heap.size) :
    Calls Tryz.prog 8 #[.pointer (some ⟨b, 0, none⟩), .int .i64 i, .slice (some ⟨g, o, none⟩) s.size cap] w fun e w' => e = .returned .nilIface ∧ Below B w w' ∧ Kept l w w' ∧ BodyAt w' B A b l tag len (upd D i (some s)) := by
  have hn : npc len ≤ 256 := by unfold npc; omega
  have hi2 : i * 256 < len := by unfold npc at hi; omega
  have c1 := h.c1
  have c2 := h.c2
  obtain ⟨f, hf, hp⟩ := h.row
  have hc := hf.cell hi
  have hfz := hf.frozen i
  have hpi := hp i hi
  rw [hD] at hpi
  obtain ⟨g0, cap0, ef, -, -, -, -, hs0'⟩ := hpi
  rw [ef] at hc
  have HEQ := Lib.hid (fun W (hW : Ext w W) => equal_sameO W g0 g o cap0 cap s (fun j hj => hW.cell (hs0' j hj)) (fun j hj => hW.cell (hs j hj)))
  have hs6 : s.size ≤ 256 := by rw [hz]; unfold pto; omega
  have hs0 : 1 ≤ s.size := by rw [hz]; unfold pto; omega
  have hgs : g < w.heap.size := World.block_lt_of_cell? w _ (hs 0 hs0)
  obtain ⟨i0, hi0, hz0, hz1, hz2⟩ := info_parts (show (Tryz.prog.info? 5).map (fun i => (i.zero, i.size, i.bytes)) = some (some (.int .u8 0), 1, 1) by kernel_rfl)
  have hrd : Reads w w.heap.size 1 (some ⟨g, o, none⟩) s.size ((byteIs s).map (Value.int .u8)) := by
    refine ⟨by simp [byteIs_length], fun _ => ⟨_, rfl, hgs, fun j u hu => ?_⟩⟩
    have hj : j < s.size := by
      have := (List.getElem?_eq_some_iff.1 hu).1
      simpa [byteIs_length] using this
    rw [Addr.add_lit, hs j hj, ← hu, List.getElem?_map, List.getElem?_eq_getElem (by rw [byteIs_length]; exact hj)]
    simp [List.getD, byteIs_length, hj]
  have hrd6 : Reads (w.alloc (.cells #[] 5)).drew w.heap.size 1 (some ⟨g, o, none⟩) s.size ((byteIs s).map (Value.int .u8)) := (hrd.alloc (Nat.le_refl _) _).drew
  have hown : (w.alloc (.cells #[] 5)).drew.ownsRow w.heap.size 5 1 (.slice (some ⟨w.heap.size, 0, none⟩) 0 0) 0 [] := by
    refine ⟨rfl, .inr ⟨w.heap.size, 0, #[], rfl, Nat.le_refl _, heap_alloc_new w _, Nat.le_refl _, by simp only [maxLen]; omega, rfl, rfl⟩⟩
  have hone : ∀ v ∈ (byteIs s).map (Value.int .u8), v.oneCell' = true := by
    intro v hv
    obtain ⟨n, -, rfl⟩ := List.mem_map.1 hv
    rfl
  have HZ := Lib.hid hz
  have key : ((len : Int) - (i : Int) * 256 < 256 ∧ (len : Int) - (i : Int) * 256 = (s.size : Int)) ∨ (¬ (len : Int) - (i : Int) * 256 < 256 ∧ (s.size : Int) = 256) := by
    rw [hz]; unfold pto; omega
  clear hz
  have hbz : b < w.heap.size := World.block_lt_of_cell? w _ c2
  have hlz : l < w.heap.size := hf.lt
  have hc6 : (w.alloc (.cells #[] 5)).drew.cell? ⟨l, i, none⟩ = some (.slice (some ⟨g0, 0, none⟩) s.size cap0) := Ext.cell (((Ext.refl w).alloc _).drew) hc
  have hf6 : (w.alloc (.cells #[] 5)).drew.frozen? ⟨l, i, none⟩ = false := (Ext.frozen (((Ext.refl w).alloc _).drew) hc).trans hfz
  have hd6 : (w.alloc (.cells #[] 5)).drew.cell? ⟨b, 2, none⟩ = some (.slice (some ⟨l, 0, none⟩) (npc len) (npc len)) := Ext.cell (((Ext.refl w).alloc _).drew) c2
  have HB := Lib.hid h
  have HAV := Lib.hid hA
  have hBl := h.hl
  have q1 : decide ((i : Int) < 0) = false := by simp
  have q2 : decide (npc len ≤ i) = false := by simp; omega
  clear h hp hA ef hs0'
  go_enter Tryz.func8, Tryz.ntmps8
  rcases key with ⟨e1, e2⟩ | ⟨e1, e2⟩
  all_goals go_upto_region 9 with (go_at_call 22; refine (HEQ.out _ (by first | exact Ext.refl _ | exact (Ext.refl w).drew | exact (Ext.refl w).drewN _)).mono ?_; rintro e w' ⟨rfl, rfl⟩)
  all_goals go_cut [] (fun wx => Below B w wx ∧ Kept l w wx ∧ BodyAt wx B A b l tag len (upd D i (some s)))
  case first =>
    go_region_law (first
      | (refine step_append_any _ (by rfl) _ _ _ (by rfl) w.heap.size 5 i0 _ 1 1 Tryz.underlying22 hi0 hz0 hz1 hz2 rfl (by omega) (.slice (some ⟨w.heap.size, 0, none⟩) 0 0) 0 [] (by rfl) hown w.heap.size (some ⟨g, o, none⟩) s.size cap ((byteIs s).map (Value.int .u8)) (by rfl) hrd6 hone (by simp only [maxLen]; omega) (by omega) (by simp) ?_
         intro v7 w7 hown7 hg7 hat7
         rw [Nat.zero_add, List.nil_append] at hown7
         obtain ⟨g7, cap7, rfl, hb7, hl7, hm7, hz7⟩ := own_some hown7 (by rcases hat7 with e | e <;> rw [e] <;> simp [Value.ownBlock])
         have bl7 := hg7.block l (by simp; omega) (by simp [Value.ownBlock]; omega)
         have bb7 := hg7.block b (by simp; omega) (by simp [Value.ownBlock]; omega)
         have c7 : w7.cell? ⟨l, i, none⟩ = some (.slice (some ⟨g0, 0, none⟩) s.size cap0) := (World.cell?_of_block bl7).trans hc6
         have f7 : w7.frozen? ⟨l, i, none⟩ = false := (World.frozen?_of_block bl7).trans hf6
         have d7 : w7.cell? ⟨b, 2, none⟩ = some (.slice (some ⟨l, 0, none⟩) (npc len) (npc len)) := (World.cell?_of_block bb7).trans hd6
         have X7 : Ext w w7 := Below.grown (((Ext.refl w).alloc _).drew) hg7 (Ext.size (((Ext.refl w).alloc _).drew)) (own_ge (Nat.le_refl _))
         have Y7 := (HB.out.ext X7).set i (.slice (some ⟨g7, 0, none⟩) s.size cap7) (some s) ⟨g7, cap7, rfl, hl7, ⟨by omega, fun e => by have := HAV.out _ e; omega⟩, by omega, hz7, own_bytes hown7⟩
         have Z7 : Below B w (w7.setCell ⟨l, i, none⟩ (.slice (some ⟨g7, 0, none⟩) s.size cap7)) := (Below.mono X7 (by omega)).setCell hBl _
         have K7 : Kept l w (w7.setCell ⟨l, i, none⟩ (.slice (some ⟨g7, 0, none⟩) s.size cap7)) := (Kept.of_ext l X7).set _ _))
    all_goals go_wp2_with fail
    all_goals go_meet
    all_goals exact ⟨Z7, K7, Y7⟩
  case rest =>
    go_wp2_with fail
    go_ret
    exact ⟨rfl, hcut⟩
  case first =>
    go_region_law (first
      | (refine step_append_any _ (by rfl) _ _ _ (by rfl) w.heap.size 5 i0 _ 1 1 Tryz.underlying22 hi0 hz0 hz1 hz2 rfl (by omega) (.slice (some ⟨w.heap.size, 0, none⟩) 0 0) 0 [] (by rfl) hown w.heap.size (some ⟨g, o, none⟩) s.size cap ((byteIs s).map (Value.int .u8)) (by rfl) hrd6 hone (by simp only [maxLen]; omega) (by omega) (by simp) ?_
         intro v7 w7 hown7 hg7 hat7
         rw [Nat.zero_add, List.nil_append] at hown7
         obtain ⟨g7, cap7, rfl, hb7, hl7, hm7, hz7⟩ := own_some hown7 (by rcases hat7 with e | e <;> rw [e] <;> simp [Value.ownBlock])
         have bl7 := hg7.block l (by simp; omega) (by simp [Value.ownBlock]; omega)
         have bb7 := hg7.block b (by simp; omega) (by simp [Value.ownBlock]; omega)
         have c7 : w7.cell? ⟨l, i, none⟩ = some (.slice (some ⟨g0, 0, none⟩) s.size cap0) := (World.cell?_of_block bl7).trans hc6
         have f7 : w7.frozen? ⟨l, i, none⟩ = false := (World.frozen?_of_block bl7).trans hf6
         have d7 : w7.cell? ⟨b, 2, none⟩ = some (.slice (some ⟨l, 0, none⟩) (npc len) (npc len)) := (World.cell?_of_block bb7).trans hd6
         have X7 : Ext w w7 := Below.grown (((Ext.refl w).alloc _).drew) hg7 (Ext.size (((Ext.refl w).alloc _).drew)) (own_ge (Nat.le_refl _))
         have Y7 := (HB.out.ext X7).set i (.slice (some ⟨g7, 0, none⟩) s.size cap7) (some s) ⟨g7, cap7, rfl, hl7, ⟨by omega, fun e => by have := HAV.out _ e; omega⟩, by omega, hz7, own_bytes hown7⟩
         have Z7 : Below B w (w7.setCell ⟨l, i, none⟩ (.slice (some ⟨g7, 0, none⟩) s.size cap7)) := (Below.mono X7 (by omega)).setCell hBl _
         have K7 : Kept l w (w7.setCell ⟨l, i, none⟩ (.slice (some ⟨g7, 0, none⟩) s.size cap7)) := (Kept.of_ext l X7).set _ _))
    all_goals go_wp2_with fail
    all_goals go_meet
    all_goals exact ⟨Z7, K7, Y7⟩
  case rest =>
    go_wp2_with fail
    go_ret
    exact ⟨rfl, hcut⟩
end Go.Proofs.YtlhnejcjeoecaaaGreatDoor.P20
namespace Go.Proofs.YtlhnejcjeoecaaaGreatDoor.P20
open Go.RowKit Go.Deep Go.Sort

theorem new_bad (tag : ByteArray) (n : Int) (h : n < 0 ∨ 65536 < n) (w : World) : Calls Tryz.prog 7 #[.string tag, .int .i64 n] w fun e w' => e = .returned (.tuple #[.pointer none, errV 1]) ∧ w = w' := by
  rcases Int.lt_or_le n 0 with h0 | h0
  · clear h
    go_enter Tryz.func7, Tryz.ntmps7
    go_wp2_with fail
    go_ret2
    exact ⟨rfl, rfl⟩
  · have h1 : (65536 : Int) < n := by omega
    clear h
    go_enter Tryz.func7, Tryz.ntmps7
    go_wp2_with fail
    go_ret2
    exact ⟨rfl, rfl⟩
theorem put_nil (i : Int) (v : Value) (w : World) : Calls Tryz.prog 8 #[.pointer none, .int .i64 i, v] w fun e w' => e = .returned (errV 3) ∧ w = w' := by
  go_enter Tryz.func8, Tryz.ntmps8
  go_wp2_with fail
  go_ret
  exact ⟨rfl, rfl⟩
theorem has_nil (i : Int) (w : World) : Calls Tryz.prog 27 #[.pointer none, .int .i64 i] w fun e w' => e = .returned (.bool false) ∧ w = w' := by
  go_enter Tryz.func27, Tryz.ntmps27
  go_wp2_with fail
  go_ret
  exact ⟨rfl, rfl⟩
theorem missing_nil (F T : Int) (w : World) : Calls Tryz.prog 14 #[.pointer none, rngV F T] w fun e w' => e = .returned (.slice none 0 0) ∧ Ext w w' := by
  go_enter Tryz.func14, Tryz.ntmps14
  go_wp2_with fail
  go_ret
  exact ⟨rfl, (Ext.refl w).alloc _⟩
theorem read_nil (F T : Int) (w : World) : Calls Tryz.prog 12 #[.pointer none, rngV F T] w fun e w' => e = .returned (.tuple #[.slice none 0 0, errV 3]) ∧ Ext w w' := by
  go_enter Tryz.func12, Tryz.ntmps12
  go_wp2_with fail
  go_returns
  exact ⟨rfl, (Ext.refl w).alloc _⟩
theorem join_nil (p : Option Addr) (w : World) : Calls Tryz.prog 9 #[.pointer none, .pointer p] w fun e w' => e = .returned (errV 3) ∧ w = w' := by
  go_enter Tryz.func9, Tryz.ntmps9
  go_wp2_with fail
  go_ret
  exact ⟨rfl, rfl⟩
theorem held_nil (w : World) : Calls Tryz.prog 16 #[.pointer none] w fun e w' => e = .returned (.slice none 0 0) ∧ w = w' := by
  go_enter Tryz.func16, Tryz.ntmps16
  go_wp2_with fail
  go_ret
  exact ⟨rfl, rfl⟩
set_option maxRecDepth 100000 in
theorem clone_nil (w : World) : Calls Tryz.prog 45 #[.slice none 0 0] w fun e w' => e = .returned (.slice none 0 0) ∧ w = w' := by
  have hq : ∀ W, (binOp .eql 23 (.slice none 0 0) (.slice none 0 0)).run Tryz.prog W = .ok (.bool true) W := fun _ => by kernel_rfl
  go_enter Tryz.func45, Tryz.ntmps45
  go_wp2_with fail
  go_ret
  exact ⟨rfl, rfl⟩
set_option maxRecDepth 100000 in
theorem len64_zero (w : World) : Calls Tryz.prog 88 #[.int .u64 0] w fun e w' => e = .returned (.int .i64 0) ∧ w = w' := by
  go_enter Tryz.func88, Tryz.ntmps88
  go_wp2_with fail
  go_ret
  exact ⟨ret_int (by kernel_rfl), rfl⟩
set_option maxRecDepth 100000 in
theorem len_zero (w : World) : Calls Tryz.prog 61 #[.int .u64 0] w fun e w' => e = .returned (.int .i64 0) ∧ w = w' := by
  go_enter Tryz.func61, Tryz.ntmps61
  go_wp2_with (go_at_call 88; refine (len64_zero _).mono ?_; rintro e w' ⟨rfl, rfl⟩)
  go_ret
  exact ⟨rfl, rfl⟩
set_option maxRecDepth 100000 in
theorem insert_nil (fn : Value) (w : World) : Calls Tryz.prog 79 #[.slice none 0 0, .int .i64 0, .int .i64 0, fn] w fun e w' => e = .returned (.tuple #[]) ∧ w = w' := by
  go_enter Tryz.func79, Tryz.ntmps79
  go_wp2_with fail
  refine wp_loop_rounds 1 ?_
  rw [rounds_succ]
  go_wp2_with fail
  go_returns
  exact ⟨rfl, rfl⟩
set_option maxRecDepth 100000 in
theorem pdq_nil (k : Int) (fn : Value) (w : World) : Calls Tryz.prog 60 #[.slice none 0 0, .int .i64 0, .int .i64 0, .int .i64 k, fn] w fun e w' => e = .returned (.tuple #[]) ∧ w = w' := by
  go_enter Tryz.func60, Tryz.ntmps60
  go_wp2_with fail
  refine wp_loop_rounds 1 ?_
  rw [rounds_succ]
  go_wp2_with (go_at_call 79; refine (insert_nil _ _).mono ?_; rintro e w' ⟨rfl, rfl⟩)
  go_returns
  exact ⟨rfl, rfl⟩
theorem sort_nil (fn : Value) (w : World) : Calls Tryz.prog 46 #[.slice none 0 0, fn] w fun e w' => e = .returned (.tuple #[]) ∧ w = w' := by
  go_enter Tryz.func46, Tryz.ntmps46
  go_wp2_with (first | (go_at_call 61; refine (len_zero _).mono ?_; rintro e w' ⟨rfl, rfl⟩) | (go_at_call 60; refine (pdq_nil _ _ _).mono ?_; rintro e w' ⟨rfl, rfl⟩))
  go_returns
  exact ⟨rfl, rfl⟩
set_option maxRecDepth 100000 in
theorem merge_nil (w : World) : Calls Tryz.prog 28 #[.slice none 0 0] w fun e w' => e = .returned (.slice none 0 0) ∧ Ext w w' := by
  go_enter Tryz.func28, Tryz.ntmps28
  go_wp2_with (first | (go_at_call 45; refine (clone_nil _).mono ?_; rintro e w' ⟨rfl, rfl⟩) | (go_at_call 46; refine (sort_nil _ _).mono ?_; rintro e w' ⟨rfl, rfl⟩))
  refine wp_loop_rounds 1 ?_
  rw [rounds_succ]
  go_wp2_with fail
  go_ret
  exact ⟨rfl, Ext.refl w⟩
set_option maxRecDepth 100000 in
theorem held_none {w : World} {B b l len : Nat} {A : Nat → Prop} {tag : ByteArray} (h : BodyAt w B A b l tag len fun _ => none) (hl : len ≤ 65536) : Calls Tryz.prog 16 #[.pointer (some ⟨b, 0, none⟩)] w fun e w' => e = .returned (.slice none 0 0) ∧ Ext w w' := by
  have hn : npc len ≤ 256 := by unfold npc; omega
  have c2 := h.c2
  obtain ⟨f, hf, hp⟩ := h.row
  go_enter Tryz.func16, Tryz.ntmps16
  go_wp2_with fail
  go_loopw [3, 13] (fun v i wr => ∃ k : Nat, k ≤ npc len ∧ i = .int .i64 k ∧ v = .slice none 0 0 ∧ wr = w) (fun _ i _ => npc len - (intOf i).toNat)
  case atStart => exact ⟨0, by omega, rfl, rfl, rfl⟩
  case round =>
    obtain ⟨k, hk, rfl, rfl, rfl⟩ := hrel
    by_cases hlt : k < npc len
    · have hki : (k : Int) < (npc len : Int) := by omega
      have hc := hf.cell hlt
      rw [show f k = .slice none 0 0 from hp k hlt] at hc
      clear hp
      go_wp2_with fail
      go_roundw
      case rel => exact ⟨k + 1, by omega, by go_num, rfl, by first | rfl | trivial⟩
      case measure => simp [intOf]; omega
    · obtain rfl : k = npc len := by omega
      clear hp
      go_wp2_with (go_at_call 28; refine (merge_nil _).mono ?_; rintro e w' ⟨rfl, hx⟩)
      go_ret
      exact ⟨rfl, hx⟩
end Go.Proofs.YtlhnejcjeoecaaaGreatDoor.P20
namespace Go.Proofs.YtlhnejcjeoecaaaGreatDoor.P20
open Go.RowKit Go.Deep Go.Sort

/-- a slice at the head of block g that reads as a list of ranges -/
def RngAt (w : World) (g : Nat) (xs : List (Nat × Nat)) : Prop := ∀ i, i < xs.length → w.cell? ⟨g, i * 2, none⟩ = some (.int .i64 (((xs[i]?).getD (0, 0)).1 : Nat)) ∧ w.cell? ⟨g, i * 2 + 1, none⟩ = some (.int .i64 (((xs[i]?).getD (0, 0)).2 : Nat))
theorem RngAt.ext {w w' : World} {g : Nat} {xs : List (Nat × Nat)} (h : RngAt w g xs) (hx : Ext w w') : RngAt w' g xs := fun i hi => ⟨hx.cell (h i hi).1, hx.cell (h i hi).2⟩
theorem isnan_int (a : Int) (w : World) : Calls Tryz.prog 62 #[.int .i64 a] w fun e w' => e = .returned (.bool false) ∧ w = w' := by
  have hq : (a != a) = false := by simp
  go_enter Tryz.func62, Tryz.ntmps62
  go_wp2_with fail
  go_ret
  exact ⟨rfl, rfl⟩
def cmpI (a b : Int) : Int := if a < b then -1 else if b < a then 1 else 0
theorem cmp_any (a b : Int) (w : World) : Calls Tryz.prog 48 #[.int .i64 a, .int .i64 b] w fun e w' => e = .returned (.int .i64 (cmpI a b)) ∧ w = w' := by
  unfold cmpI
  rcases Int.lt_or_le a b with h | h
  · rw [if_pos h]
    go_enter Tryz.func48, Tryz.ntmps48
    go_wp2_with (go_at_call 62; refine (isnan_int _ _).mono ?_; rintro e w' ⟨rfl, rfl⟩)
    go_ret
    exact ⟨rfl, rfl⟩
  · rw [if_neg (by omega)]
    rcases Int.lt_or_le b a with h2 | h2
    · rw [if_pos h2]
      go_enter Tryz.func48, Tryz.ntmps48
      go_wp2_with (go_at_call 62; refine (isnan_int _ _).mono ?_; rintro e w' ⟨rfl, rfl⟩)
      go_ret
      exact ⟨rfl, rfl⟩
    · rw [if_neg (by omega)]
      go_enter Tryz.func48, Tryz.ntmps48
      go_wp2_with (go_at_call 62; refine (isnan_int _ _).mono ?_; rintro e w' ⟨rfl, rfl⟩)
      go_ret
      exact ⟨rfl, rfl⟩
theorem clos_any (a b c d : Int) (w : World) : Calls Tryz.prog 47 #[rngV a b, rngV c d] w fun e w' => e = .returned (.int .i64 (cmpI a c)) ∧ Ext w w' := by
  go_enter Tryz.func47, Tryz.ntmps47
  go_wp2_with (go_at_call 48; refine (cmp_any a c _).mono ?_; rintro e w' ⟨rfl, rfl⟩)
  go_ret
  exact ⟨rfl, ((Ext.refl w).alloc _).alloc _⟩
set_option maxRecDepth 100000 in
theorem len64_small (n : Nat) (hn : n ≤ 12) (w : World) : Calls Tryz.prog 88 #[.int .u64 n] w fun e w' => (∃ k : Int, e = .returned (.int .i64 k)) ∧ w = w' := by
  have a1 : ¬ (4294967296 : Int) ≤ (n : Int) := by omega
  have a2 : ¬ (65536 : Int) ≤ (n : Int) := by omega
  have a3 : ¬ (256 : Int) ≤ (n : Int) := by omega
  go_enter Tryz.func88, Tryz.ntmps88
  go_wp2_with fail
  go_ret
  exact ⟨⟨_, rfl⟩, rfl⟩
set_option maxRecDepth 100000 in
theorem len_small (n : Nat) (hn : n ≤ 12) (w : World) : Calls Tryz.prog 61 #[.int .u64 n] w fun e w' => (∃ k : Int, e = .returned (.int .i64 k)) ∧ w = w' := by
  go_enter Tryz.func61, Tryz.ntmps61
  go_wp2_with (go_at_call 88; refine (len64_small n hn _).mono ?_; rintro e w' ⟨⟨k, rfl⟩, rfl⟩)
  go_ret
  exact ⟨⟨_, rfl⟩, rfl⟩
set_option maxRecDepth 100000 in
theorem insert_ok {w : World} {g cap : Nat} {xs : List (Nat × Nat)} (h : RngAt w g xs) (hn : xs.length ≤ 12) (hc : xs.length ≤ cap) (hs : ∀ i, i + 1 < xs.length → ((xs[i]?).getD (0, 0)).1 ≤ ((xs[i + 1]?).getD (0, 0)).1) :
    Calls Tryz.prog 79 #[.slice (some ⟨g, 0, none⟩) xs.length cap, .int .i64 0, .int .i64 xs.length, Value.func (.func 47) #[] #[]] w fun e w' => e = .returned (.tuple #[]) ∧ Ext w w' := by
  obtain ⟨n, hxn⟩ : ∃ n, xs.length = n := ⟨_, rfl⟩
  rw [hxn] at hn hc ⊢
  have HX := Lib.hid hxn
  clear hxn
  go_enter Tryz.func79, Tryz.ntmps79
  go_wp2_with fail
  go_loopw [8] (fun i wr => ∃ j : Nat, (j + 1 ≤ n ∨ j = 0) ∧ i = .int .i64 (j + 1 : Nat) ∧ Ext w wr) (fun i _ => n + 1 - (intOf i).toNat)
  case atStart => exact ⟨0, .inr rfl, rfl, Ext.refl w⟩
  case round =>
    obtain ⟨j, hj, rfl, hX⟩ := hrel
    by_cases hlt : j + 1 < n
    · have hji : (j : Int) + 1 < (n : Int) := by omega
      have hj6 : (j : Int) < 13 := by omega
      have h1 := h.ext hX (j + 1) (by rw [HX.out]; omega)
      have h0 := h.ext hX j (by rw [HX.out]; omega)
      have hsj := hs j (by rw [HX.out]; omega)
      obtain ⟨x, hx⟩ : ∃ x, ((xs[j + 1]?).getD (0, 0)) = x := ⟨_, rfl⟩
      obtain ⟨y, hy⟩ : ∃ y, ((xs[j]?).getD (0, 0)) = y := ⟨_, rfl⟩
      rw [hx] at h1 hsj
      rw [hy] at h0 hsj
      have c0 : ∀ m : Wd wr, m.val.cell? ⟨g, (j + 1) * 2, none⟩ = some (.int .i64 (x.1 : Nat)) := fun m => m.ext.cell h1.1
      have c1 : ∀ m : Wd wr, m.val.cell? ⟨g, (j + 1) * 2 + 1, none⟩ = some (.int .i64 (x.2 : Nat)) := fun m => m.ext.cell h1.2
      have d0 : ∀ m : Wd wr, m.val.cell? ⟨g, j * 2, none⟩ = some (.int .i64 (y.1 : Nat)) := fun m => m.ext.cell h0.1
      have d1 : ∀ m : Wd wr, m.val.cell? ⟨g, j * 2 + 1, none⟩ = some (.int .i64 (y.2 : Nat)) := fun m => m.ext.cell h0.2
      have qc : decide (cmpI (x.1 : Nat) (y.1 : Nat) < 0) = false := by
        rw [decide_eq_false_iff_not]; unfold cmpI; rw [if_neg (by omega)]; split <;> omega
      have q1 : decide ((0 : Int) < (j : Int) + 1) = true := by rw [decide_eq_true_iff]; omega
      have hjc : j + 1 < cap := by omega
      clear h1 h0 hsj hx hy
      go_wp2_with fail
      refine wp_loop_rounds 1 ?_
      rw [rounds_succ]
      go_upto_region 4 with fail
      refine wp_region_wd (by kernel_rfl) (by kernel_rfl) ?_
      repeat (go_big_quiet_step ((go_at_call 47; exact Calls.wd_of (clos_any _ _ _ _ _))))
      refine wpQuiet_nil ?_
      rintro _ ⟨nq, rfl⟩
      go_wp2_with fail
      go_roundw
      case rel => exact ⟨j + 1, by omega, by go_num, hX.trans nq.ext⟩
      case measure => simp [intOf]; omega
    · have hji : ¬ (j : Int) + 1 < (n : Int) := by omega
      have hj6 : (j : Int) < 13 := by omega
      go_wp2_with fail
      go_returns
      exact ⟨rfl, hX⟩
set_option maxRecDepth 100000 in
theorem pdq_ok {w : World} {g cap : Nat} {xs : List (Nat × Nat)} (h : RngAt w g xs) (hn : xs.length ≤ 12) (hc : xs.length ≤ cap) (hs : ∀ i, i + 1 < xs.length → ((xs[i]?).getD (0, 0)).1 ≤ ((xs[i + 1]?).getD (0, 0)).1) (k : Int) :
    Calls Tryz.prog 60 #[.slice (some ⟨g, 0, none⟩) xs.length cap, .int .i64 0, .int .i64 xs.length, .int .i64 k, Value.func (.func 47) #[] #[]] w fun e w' => e = .returned (.tuple #[]) ∧ Ext w w' := by
  have HI := Lib.hid (insert_ok h hn hc hs)
  obtain ⟨n, hxn⟩ : ∃ n, xs.length = n := ⟨_, rfl⟩
  rw [hxn] at hn hc HI ⊢
  have hn2 : (n : Int) ≤ 12 := by omega
  clear hs h hxn
  go_enter Tryz.func60, Tryz.ntmps60
  go_wp2_with fail
  refine wp_loop_rounds 1 ?_
  rw [rounds_succ]
  go_wp2_with (go_at_call 79; refine HI.out.mono ?_; rintro e w' ⟨rfl, hx⟩)
  go_returns
  exact ⟨rfl, hx⟩
set_option maxRecDepth 100000 in
theorem sort_ok {w : World} {g cap : Nat} {xs : List (Nat × Nat)} (h : RngAt w g xs) (hn : xs.length ≤ 12) (hc : xs.length ≤ cap) (hs : ∀ i, i + 1 < xs.length → ((xs[i]?).getD (0, 0)).1 ≤ ((xs[i + 1]?).getD (0, 0)).1) :
    Calls Tryz.prog 46 #[.slice (some ⟨g, 0, none⟩) xs.length cap, Value.func (.func 47) #[] #[]] w fun e w' => e = .returned (.tuple #[]) ∧ Ext w w' := by
  have HP := Lib.hid (pdq_ok h hn hc hs)
  obtain ⟨n, hxn⟩ : ∃ n, xs.length = n := ⟨_, rfl⟩
  rw [hxn] at hn hc HP ⊢
  have hn2 : (n : Int) ≤ 12 := by omega
  clear hs h hxn
  go_enter Tryz.func46, Tryz.ntmps46
  go_wp2_with (first | (go_at_call 61; refine (len_small n hn _).mono ?_; rintro e w' ⟨⟨k, rfl⟩, rfl⟩) | (go_at_call 60; refine (HP.out _).mono ?_; rintro e w' ⟨rfl, hx⟩))
  go_returns
  exact ⟨rfl, hx⟩
end Go.Proofs.YtlhnejcjeoecaaaGreatDoor.P20
namespace Go.Proofs.YtlhnejcjeoecaaaGreatDoor.P20
open Go.RowKit Go.Deep Go.Sort

def rcs (xs : List (Nat × Nat)) : List Value := xs.flatMap fun r => [.int .i64 (r.1 : Nat), .int .i64 (r.2 : Nat)]
theorem rcs_length (xs : List (Nat × Nat)) : (rcs xs).length = xs.length * 2 := by
  induction xs with
  | nil => rfl
  | cons x xs ih => simp only [rcs, List.flatMap_cons, List.length_append, List.length_cons] at *; simp at ih ⊢; omega
theorem rcs_append (xs ys : List (Nat × Nat)) : rcs (xs ++ ys) = rcs xs ++ rcs ys := by simp [rcs]
theorem rcs_get (xs : List (Nat × Nat)) (k : Nat) (h : k < xs.length) : (rcs xs)[k * 2]? = some (.int .i64 (((xs[k]?).getD (0, 0)).1 : Nat)) ∧ (rcs xs)[k * 2 + 1]? = some (.int .i64 (((xs[k]?).getD (0, 0)).2 : Nat)) := by
  induction xs generalizing k with
  | nil => simp at h
  | cons x xs ih =>
    cases k with
    | zero => simp [rcs]
    | succ k =>
      have := ih k (by simpa using h)
      have e : rcs (x :: xs) = .int .i64 (x.1 : Nat) :: .int .i64 (x.2 : Nat) :: rcs xs := rfl
      rw [e, show (k + 1) * 2 = k * 2 + 1 + 1 by omega]
      simpa using this
theorem rcs_one (xs : List (Nat × Nat)) : ∀ v ∈ rcs xs, v.oneCell' = true := by
  intro v hv
  obtain ⟨r, -, h⟩ := List.mem_flatMap.1 hv
  simp at h
  rcases h with rfl | rfl <;> rfl
def RngOwn (w : World) (B : Nat) (v : Value) (xs : List (Nat × Nat)) : Prop := w.ownsRow B 27 2 v xs.length (rcs xs)
theorem rng_info : (Tryz.prog.info? 27).map (fun i => (i.zero, i.size, i.bytes)) = some (some (.agg #[.int .i64 0, .int .i64 0]), 2, 16) := by kernel_rfl
theorem RngOwn.shape {w : World} {B : Nat} {v : Value} {xs : List (Nat × Nat)} (h : RngOwn w B v xs) : (v = .slice none 0 0 ∧ xs = []) ∨ ∃ g cap, v = .slice (some ⟨g, 0, none⟩) xs.length cap ∧ xs.length ≤ cap ∧ B ≤ g ∧ g < w.heap.size ∧ RngAt w g xs := by
  rcases h.2 with ⟨rfl, e⟩ | ⟨g, cap, cur, rfl, hb, hh, hl, hm, hc, ht⟩
  · exact .inl ⟨rfl, List.eq_nil_of_length_eq_zero e⟩
  · refine .inr ⟨g, cap, rfl, hl, hb, (Array.getElem?_eq_some_iff.1 hh).1, fun i hi => ?_⟩
    have h' : w.ownsRow B 27 2 (.slice (some ⟨g, 0, none⟩) xs.length cap) xs.length (rcs xs) := h
    obtain ⟨g0, g1⟩ := rcs_get xs i hi
    exact ⟨by rw [h'.cellAt _ (by omega), g0], by rw [h'.cellAt _ (by omega), g1]⟩
theorem RngOwn.ext {w w' : World} {B : Nat} {v : Value} {xs : List (Nat × Nat)} (h : RngOwn w B v xs) (hx : Ext w w') : RngOwn w' B v xs := by
  refine ⟨h.1, ?_⟩
  rcases h.2 with e | ⟨g, cap, cur, rfl, hb, hh, r⟩
  · exact .inl e
  · exact .inr ⟨g, cap, cur, rfl, hb, (Below.block hx g (Array.getElem?_eq_some_iff.1 hh).1).trans hh, r⟩
/-- 'append(out, r)' of one range -/
theorem wpList_append_rng (w : World) {ops : Array Oper} {rest : List Oper} {o : Oper} {a : Act} {Q : Exit → Act → World → Prop} (hg : o.guard = none) (s x : Operand)
    (ho : o.op = .call { callee := .builtin .append, args := #[s, x], argTypes := #[23, 23] }) (B : Nat) {v : Value} {xs : List (Nat × Nat)} (f t : Nat) (y z : Int) (hown : RngOwn w B v xs) (hy : y = (f : Int)) (hz : z = (t : Int)) (hs : a.eval s = v)
    {G : Nat} (hx : a.eval x = .slice (some ⟨G, 0, none⟩) 1 1) (hG : G = w.heap.size) (hlen : xs.length ≤ 1000000000) (hB : B ≤ w.heap.size)
    (h : ∀ v' w', RngOwn w' B v' (xs ++ [(f, t)]) → Below B w w' → wpList Tryz.prog ops Q rest (a.put o.dst v') w') : wpList Tryz.prog ops Q (o :: rest) a (w.alloc (.cells #[.int .i64 y, .int .i64 z] 27)) := by
  subst hy hz hG
  obtain ⟨i0, hi0, hz0, hz1, hz2⟩ := info_parts rng_info
  refine wpList_append_own _ hg s x 23 ho B 27 i0 _ 2 16 Tryz.underlying23 hi0 hz0 hz1 hz2 rfl (by decide) v xs.length _ hs (hown.alloc _) ⟨w.heap.size, 0, none⟩ 1 1 [.int .i64 (f : Int), .int .i64 (t : Int)] hx rfl ?_ ?_ ?_ ?_ ?_ ?_
  · intro j u hj
    match j, hj with
    | 0, hj => simp at hj; subst hj; simp [Addr.add]
    | 1, hj => simp at hj; subst hj; simp [Addr.add]
  · intro u hu; simp at hu; rcases hu with rfl | rfl <;> rfl
  · simp only [maxLen]; omega
  · omega
  · simp; omega
  · intro v' w1 hown' hgrow _
    refine h v' w1 ?_ ?_
    · unfold RngOwn
      rw [List.length_append, rcs_append]
      exact hown'
    · exact Below.grown (Below.alloc (Below.refl _ _) hB _) hgrow (by simp; omega) (own_base hown)
set_option maxRecDepth 100000 in
theorem clone_ok {w : World} {g cap : Nat} {xs : List (Nat × Nat)} (h : RngAt w g xs) (h0 : 0 < xs.length) (hn : xs.length ≤ 1000000) :
    Calls Tryz.prog 45 #[.slice (some ⟨g, 0, none⟩) xs.length cap] w fun e w' => ∃ v, e = .returned v ∧ Ext w w' ∧ RngOwn w' w.heap.size v xs := by
  obtain ⟨i0, hi0, hz0, hz1, hz2⟩ := info_parts rng_info
  have hq : ∀ W c n, (binOp .eql 23 (.slice (some ⟨g, 0, none⟩) n c) (.slice none 0 0)).run Tryz.prog W = .ok (.bool false) W := fun _ _ _ => by kernel_rfl
  have hgw : g < w.heap.size := World.block_lt_of_cell? w _ (h 0 h0).1
  have hrd : Reads w w.heap.size 2 (some ⟨g, 0, none⟩) xs.length (rcs xs) := by
    refine ⟨rcs_length xs, fun _ => ⟨_, rfl, hgw, fun j u hu => ?_⟩⟩
    have hj := (List.getElem?_eq_some_iff.1 hu).1
    rw [rcs_length] at hj
    obtain ⟨g0, g1⟩ := rcs_get xs (j / 2) (by omega)
    obtain ⟨s0, s1⟩ := h (j / 2) (by omega)
    rw [Addr.add_lit, Nat.zero_add]
    rcases Nat.mod_two_eq_zero_or_one j with e | e
    · rw [show j / 2 * 2 = j by omega] at g0 s0
      rw [s0, ← g0, hu]
    · rw [show j / 2 * 2 + 1 = j by omega] at g1 s1
      rw [s1, ← g1, hu]
  have HRD := Lib.hid hrd
  have HX := Lib.hid (rcs_one xs)
  obtain ⟨n, hxn⟩ : ∃ n, xs.length = n := ⟨_, rfl⟩
  have HN := Lib.hid hxn
  rw [hxn] at hn h0 HRD ⊢
  have hown : (w.alloc (.cells #[] 27)).ownsRow w.heap.size 27 2 (.slice (some ⟨w.heap.size, 0, none⟩) 0 0) 0 [] := by
    refine ⟨rfl, .inr ⟨w.heap.size, 0, #[], rfl, Nat.le_refl _, heap_alloc_new w _, Nat.le_refl _, by simp only [maxLen]; omega, rfl, rfl⟩⟩
  clear hrd hxn
  go_enter Tryz.func45, Tryz.ntmps45
  go_wp2_with (at_builtin; refine wpList_append_any _ rfl (.tmp 5) (.tmp 6) _ rfl w.heap.size 27 i0 _ 2 16 Tryz.underlying23 hi0 hz0 hz1 hz2 rfl (by omega) _ 0 [] rfl hown w.heap.size _ n _ _ rfl (HRD.out.alloc (Nat.le_refl _) _) HX.out (by simp only [maxLen]; omega) (by omega) (by simp) ?_)
  intro v' w' hown' hg' _
  have hX : Ext w w' := Below.grown ((Ext.refl w).alloc _) hg' (by simp) (own_base hown)
  clear hg' hown HRD
  go_wp2_with fail
  go_ret
  exact ⟨_, rfl, hX, by unfold RngOwn; rw [HN.out]; exact hown'⟩
end Go.Proofs.YtlhnejcjeoecaaaGreatDoor.P20
