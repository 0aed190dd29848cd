/- Chapter 09: numbers in decimal. Chapter 09: what a field of one element reads as. Chapter 09: proper ranges; ContentRange. Chapter 09: ContentRange. Chapter 09: ContentRange of what is proper. Chapter 09: what a Content-Range field reads as. Chapter 09: ReadContentRange. Chapter 09: the reference's ReadContentRange. Chapter 09: the law RangesContent. Chapter 09: what a multipart body reads as (plain). -/
import Derived.Test.YtlhnejcjeoecaaaGreatDoorGAF
import Derived.Lib.ItoaMem
import Derived.Lib.ItoaLen
import Derived.Lib.LaidTab
import Derived.Lib.AppendIntMem
import Derived.Deep.RegionWith
import Derived.Test.YtlhnejcjeoecaaaGreatDoorGAE
namespace Go.Proofs.YtlhnejcjeoecaaaGreatDoor
open Go.RowKit Go.Sort
abbrev itoS (n : Int) : ByteArray := ⟨(Lib.itoa n).toArray⟩
theorem itoa_small {u : Nat} (h : u < 10) : Lib.itoa (u : Int) = [UInt8.ofNat (48 + u)] := by rw [Lib.itoa_nonneg, Lib.decDigits_one h]
theorem itoa_step {u : Nat} (h : ¬ u < 10) : Lib.itoa (u : Int) = Lib.itoa ((u / 10 : Nat) : Int) ++ Lib.itoa ((u % 10 : Nat) : Int) := by
  rw [Lib.itoa_nonneg, Lib.itoa_nonneg, itoa_small (Nat.mod_lt _ (by omega)), Lib.decDigits, dif_neg h]
theorem itoS_app (a b : List UInt8) : ((⟨a.toArray⟩ : ByteArray) ++ ⟨b.toArray⟩) = ⟨(a ++ b).toArray⟩ := by
  apply bs_ext
  rw [bs_mk, ByteArray.toList_eq]
  simp
theorem itoS_size (n : Int) (h0 : -9223372036854775808 ≤ n) (h1 : n ≤ 9223372036854775807) : (itoS n).size ≤ 21 := by
  show (Lib.itoa n).toArray.size ≤ 21
  rw [List.size_toArray]
  exact Lib.itoa_length_le n h0 h1
theorem conv1 (W : World) (g : Nat) (a : Int) (h : W.cell? ⟨g, 0, none⟩ = some (.int .u8 a)) : (convert 22 9 (.slice (some ⟨g, 0, none⟩) 1 1)).run Tryz.prog W = .ok (.string (strOfNums [a])) W := by
  refine run_convert_bytes_arg W 22 5 Tryz.underlying22 Tryz.underlying5 g 0 1 1 [a] rfl (fun i hi => ?_) 9 Tryz.underlying9
  obtain rfl : i = 0 := by omega
  exact h
theorem str_one {u : Nat} (h : u < 10) : strOfNums [(48 : Int) + (u : Int)] = itoS (u : Int) := by
  rw [show itoS (u : Int) = ⟨[UInt8.ofNat (48 + u)].toArray⟩ from by unfold itoS; rw [itoa_small h]]
  apply bs_ext
  rw [ByteArray.toList_eq, strOfNums_data]
  have e : ((48 : Int) + (u : Int)).toNat = 48 + u := by omega
  simp [e]
/-! ### what such a numeral reads as -/
def valL (l : List UInt8) : Nat := l.foldl (fun n c => 10 * n + (c.toNat - 48)) 0
theorem valL_snoc (l : List UInt8) (c : UInt8) : valL (l ++ [c]) = 10 * valL l + (c.toNat - 48) := by unfold valL; rw [List.foldl_append]; rfl
theorem byt_mk (l : List UInt8) (k : Nat) (h : k < l.length) : byt ⟨l.toArray⟩ k = (l[k]'h).toNat := by
  have hs : k < (⟨l.toArray⟩ : ByteArray).size := by rw [size_list, bs_mk]; exact h
  rw [byt_is hs]
  have h1 := at_list ⟨l.toArray⟩ k hs
  rw [bs_mk, List.getElem?_eq_getElem h] at h1
  rw [Option.some.inj h1]
theorem valP_mk (l : List UInt8) : ∀ k, k ≤ l.length → valP ⟨l.toArray⟩ k = valL (l.take k)
  | 0, _ => by simp [valP, valL]
  | k + 1, h => by
    rw [List.take_add_one, List.getElem?_eq_getElem (by omega)]
    simp only [Option.toList_some]
    rw [valL_snoc, ← valP_mk l k (by omega), ← byt_mk l k (by omega)]
    rfl
theorem digs_mk {l : List UInt8} (h : ∀ c ∈ l, 48 ≤ c.toNat ∧ c.toNat ≤ 57) : digs ⟨l.toArray⟩ = true := by
  unfold digs
  refine decide_eq_true fun i hi => ?_
  rw [size_list, bs_mk] at hi
  rw [byt_mk l i hi]
  exact h _ (List.getElem_mem hi)
theorem itoa_digs (u : Nat) : ∀ c ∈ Lib.itoa (u : Int), 48 ≤ c.toNat ∧ c.toNat ≤ 57 := by
  induction u using Nat.strongRecOn with
  | _ u ih =>
    by_cases h : u < 10
    · intro c hc
      rw [itoa_small h, List.mem_singleton] at hc
      rw [hc]
      simp
      omega
    · intro c hc
      rw [itoa_step h, List.mem_append] at hc
      rcases hc with hc | hc
      · exact ih (u / 10) (by omega) c hc
      · exact ih (u % 10) (by omega) c hc
theorem itoa_val (u : Nat) : valL (Lib.itoa (u : Int)) = u := by
  induction u using Nat.strongRecOn with
  | _ u ih =>
    by_cases h : u < 10
    · rw [itoa_small h]
      simp [valL]
      omega
    · rw [itoa_step h, itoa_small (Nat.mod_lt _ (by omega)), valL_snoc, ih (u / 10) (by omega)]
      simp
      omega
theorem itoa_len (u : Nat) : ∀ n, 1 ≤ n → u < 10 ^ n → 1 ≤ (Lib.itoa (u : Int)).length ∧ (Lib.itoa (u : Int)).length ≤ n := by
  induction u using Nat.strongRecOn with
  | _ u ih =>
    intro n hn hu
    by_cases h : u < 10
    · rw [itoa_small h]
      simp
      omega
    · obtain ⟨m, rfl⟩ : ∃ m, n = m + 1 := ⟨n - 1, by omega⟩
      have hm : 1 ≤ m := by
        rcases Nat.eq_zero_or_pos m with h0 | h0
        · subst h0; simp at hu; omega
        · exact h0
      have h1 := ih (u / 10) (by omega) m hm (by rw [Nat.pow_succ] at hu; omega)
      rw [itoa_step h, itoa_small (Nat.mod_lt _ (by omega)), List.length_append, List.length_singleton]
      omega
theorem numF_itoS {u : Nat} (h : u < 1000000000000000) : numF (itoS (u : Int)) = some u := by
  have h1 := itoa_len u 15 (by omega) h
  have hs : (itoS (u : Int)).size = (Lib.itoa (u : Int)).length := by rw [size_list, bs_mk]
  unfold numF
  rw [if_pos ⟨digs_mk (itoa_digs u), by rw [hs]; exact h1.1, by rw [hs]; exact h1.2⟩, hs, valP_mk _ _ (Nat.le_refl _), List.take_length, itoa_val]
end Go.Proofs.YtlhnejcjeoecaaaGreatDoor
namespace Go.Proofs.YtlhnejcjeoecaaaGreatDoor
open Go.RowKit
abbrev bs (l : List UInt8) : ByteArray := ⟨l.toArray⟩
theorem bs_size (l : List UInt8) : (bs l).size = l.length := by rw [size_list, bs_mk]
theorem bs_byt {l : List UInt8} {k : Nat} (h : k < (bs l).size) : ∃ c ∈ l, byt (bs l) k = c.toNat := by
  rw [bs_size] at h
  exact ⟨_, List.getElem_mem h, byt_mk l k h⟩
def plain (l : List UInt8) : Prop := ∀ c ∈ l, 45 ≤ c.toNat ∧ c.toNat ≤ 57
theorem scn_plain {s : ByteArray} (h : ∀ k, k < s.size → byt s k ≠ 34 ∧ byt s k ≠ 44) : ∀ (n i fr : Nat), s.size ≤ i + n → scn s i fr false = some [trimF (s.extract fr s.size)]
  | 0, i, fr, hn => by rw [scn_end (by omega)]; rfl
  | n + 1, i, fr, hn => by
    by_cases hi : i < s.size
    · rw [scn_on hi (by simp) (h i hi).1 (fun hh => (h i hi).2 hh.2)]
      exact scn_plain h n (i + 1) fr (by omega)
    · rw [scn_end hi]; rfl
theorem trim_plain {l : List UInt8} (h : plain l) : trimF (bs l) = bs l := by
  have hb : ∀ j b, l[j]? = some b → blk b = false := fun j b hj => by
    have := h b (List.mem_of_getElem? hj)
    rw [blk_nat]
    simp
    omega
  refine bs_ext ?_
  unfold trimF
  rw [bs_mk, bs_mk]
  have := trim_char (l := l) (i := 0) (m := l.length) (by omega) (fun j b hj _ => by omega) (fun j b hj hj2 => by have := (List.getElem?_eq_some_iff.1 hj2).1; omega) (fun _ => ⟨fun b hb' => hb _ b hb', fun b hb' => hb _ b hb'⟩)
  rw [this, List.drop_zero, List.take_length]
theorem ext_whole (s : ByteArray) : s.extract 0 s.size = s := by
  refine bs_ext ?_
  rw [ext_list, List.drop_zero, List.take_of_length_le (by rw [← size_list]; omega)]
theorem list_plain {l : List UInt8} (h : plain l) (h0 : 0 < l.length) : listF (bs l) = some [bs l] := by
  have hc : cleanF (bs l) = true := decide_eq_true fun i hi => by
    obtain ⟨c, hc, e⟩ := bs_byt hi
    have := h c hc
    rw [e]
    unfold ctl
    simp
    omega
  unfold listF partsF
  rw [hc, if_pos rfl, scn_plain (fun k hk => by obtain ⟨c, hc, e⟩ := bs_byt hk; have := h c hc; omega) (bs l).size 0 0 (by omega), ext_whole, trim_plain h]
  have e : neS (bs l) = true := decide_eq_true (by rw [bs_size]; omega)
  simp [e]
theorem pfx_app (l : List UInt8) : pfx (bs (pfxL ++ l)) = true := by
  show pfxL.isPrefixOf (pfxL ++ l) = true
  rw [List.isPrefixOf_iff_prefix]
  exact List.prefix_append _ _
theorem rest_app (l : List UInt8) : (bs (pfxL ++ l)).extract 6 (bs (pfxL ++ l)).size = bs l := by
  refine bs_ext ?_
  rw [ext_list, bs_mk, bs_mk, bs_size, show (pfxL ++ l).drop 6 = l from rfl, List.take_of_length_le]
  simp [pfxL]
theorem parse_plain {l : List UInt8} (h : plain l) (h0 : 0 < l.length) (len : Int) : parseF (bs (pfxL ++ l)) len = match elF (bs l) (max 0 len) with
    | none => ([], 2)
    | some p => if p.1 < p.2 then ([p], 0) else ([], 1) := by
  unfold parseF
  rw [pfx_app, if_pos rfl, rest_app, list_plain h h0]
  simp only [elsF]
  cases elF (bs l) (max 0 len) with
  | none => rfl
  | some p => by_cases hp : p.1 < p.2 <;> simp [hp]
theorem cut_plain {a b : List UInt8} (ha : ∀ c ∈ a, c.toNat ≠ 45) : cutF (bs (a ++ 45 :: b)) 45 = (bs a, bs b, true) := by
  have hs : a.length < (bs (a ++ 45 :: b)).size := by rw [bs_size]; simp
  have hat : ∀ j, (h : j < (bs (a ++ 45 :: b)).size) → (a ++ 45 :: b)[j]? = some ((bs (a ++ 45 :: b))[j]'h) := fun j h => by
    have := at_list (bs (a ++ 45 :: b)) j h
    rwa [bs_mk] at this
  rw [cutF_at (i := a.length) hs (by have := hat _ hs; simpa using this.symm) (fun j h hj e => by
    have h1 := hat j h
    rw [List.getElem?_append_left hj] at h1
    have h2 := ha _ (List.mem_of_getElem? h1)
    rw [e] at h2
    exact h2 rfl)]
  refine Prod.ext ?_ (Prod.ext ?_ rfl)
  · refine bs_ext ?_
    rw [ext_list, bs_mk, bs_mk]
    simp
  · refine bs_ext ?_
    simp only
    rw [ext_list, bs_mk, bs_mk, bs_size]
    rw [show (a ++ 45 :: b).drop (a.length + 1) = b by rw [List.drop_append]; simp, List.take_of_length_le (by simp; omega)]
theorem itoa_no45 (u : Nat) : ∀ c ∈ Lib.itoa (u : Int), c.toNat ≠ 45 := fun c hc => by have := itoa_digs u c hc; omega
theorem itoa_pos (u : Nat) (h : u < 1000000000000000) : 1 ≤ (Lib.itoa (u : Int)).length := (itoa_len u 15 (by omega) h).1
theorem plain_dash {a b : List UInt8} (ha : ∀ c ∈ a, 48 ≤ c.toNat ∧ c.toNat ≤ 57) (hb : ∀ c ∈ b, 48 ≤ c.toNat ∧ c.toNat ≤ 57) : plain (a ++ 45 :: b) := by
  intro c hc
  rcases List.mem_append.1 hc with hc | hc
  · have := ha c hc; omega
  · rcases List.mem_cons.1 hc with rfl | hc
    · decide
    · have := hb c hc; omega
/-- 'x-y' -/
theorem el_two {u v : Nat} (hu : u < 1000000000000000) (hv : v < 1000000000000000) (huv : u ≤ v) (len : Int) : elF (bs (Lib.itoa (u : Int) ++ 45 :: Lib.itoa (v : Int))) len = some ((u : Int), min len ((v : Int) + 1)) := by
  unfold elF
  rw [cut_plain (itoa_no45 u)]
  have h1 := itoa_pos u hu
  have h2 := itoa_pos v hv
  rw [if_pos rfl, if_neg (by rw [bs_size]; omega)]
  simp only
  rw [show numF (bs (Lib.itoa (u : Int))) = some u from numF_itoS hu]
  simp only
  rw [if_neg (by rw [bs_size]; omega), show numF (bs (Lib.itoa (v : Int))) = some v from numF_itoS hv]
  simp only
  rw [if_neg (by omega)]
/-- 'x-' -/
theorem el_from {u : Nat} (hu : u < 1000000000000000) (len : Int) : elF (bs (Lib.itoa (u : Int) ++ 45 :: [])) len = some ((u : Int), len) := by
  unfold elF
  rw [cut_plain (itoa_no45 u)]
  have h1 := itoa_pos u hu
  rw [if_pos rfl, if_neg (by rw [bs_size]; omega)]
  simp only
  rw [show numF (bs (Lib.itoa (u : Int))) = some u from numF_itoS hu]
  simp only
  rw [if_pos (by rw [bs_size]; rfl)]
/-- '-x' -/
theorem el_last {u : Nat} (hu : u < 1000000000000000) (len : Int) : elF (bs ([] ++ 45 :: Lib.itoa (u : Int))) len = some (max 0 (len - (u : Int)), len) := by
  unfold elF
  rw [cut_plain (fun c hc => by cases hc)]
  rw [if_pos rfl, if_pos (by rw [bs_size]; rfl)]
  simp only
  rw [show numF (bs (Lib.itoa (u : Int))) = some u from numF_itoS hu]
  rfl
end Go.Proofs.YtlhnejcjeoecaaaGreatDoor
namespace Go.Proofs.YtlhnejcjeoecaaaGreatDoor
open Go.RowKit Go.Sort
abbrev PowT (w : World) : Prop := Lib.TabIs Tryz.prog w "internal/strconv.uint64pow10" .u64 Lib.pow10Tab
theorem PowT.ext {w w' : World} (h : PowT w) (hx : Ext w w') : PowT w' := by
  unfold PowT Lib.TabIs World.var? at *
  cases hg : Tryz.prog.globalNamed "internal/strconv.uint64pow10" with
  | none => simp [hg] at h
  | some g =>
    simp only [hg, Option.bind_some] at h ⊢
    have hlt : g < w.heap.size := by
      rcases Nat.lt_or_ge g w.heap.size with h' | h'
      · exact h'
      · rw [Array.getElem?_eq_none h'] at h; simp at h
    rw [Below.block hx g hlt]
    exact h
theorem itoa_any (n : Int) (h0 : -9223372036854775808 ≤ n) (h1 : n ≤ 9223372036854775807) (w : World) (htab : PowT w) :
    Calls Tryz.prog 37 #[.int .i64 n] w fun e w' => e = .returned (.string (itoS n)) ∧ Ext w w' :=
  (Any.strconv_Itoa Tryz.laysM171 n h0 h1 w htab).mono fun e w' ⟨he, k, os, hw⟩ => ⟨he, by rw [hw]; exact Lib.below_grow _ _ (Nat.le_refl _) _ _⟩
theorem itoa_is {n : Int} {s : ByteArray} (hs : itoS n = s) (hn : 0 ≤ n ∧ n ≤ 999999999999999) (w : World) (ht : PowT w) : Calls Tryz.prog 37 #[.int .i64 n] w fun e w' => e = .returned (.string s) ∧ Ext w w' := by
  rw [← hs]
  exact itoa_any n (by omega) (by omega) w ht
def okR (f t : Int) : Bool := decide (0 ≤ f ∧ f < t ∧ t ≤ 999999999999999)
set_option maxRecDepth 100000 in
theorem proper_any (f t : Int) (w : World) : Calls Tryz.prog 19 #[.agg #[.int .i64 f, .int .i64 t]] w fun e w' => e = .returned (.bool (okR f t)) ∧ Ext w w' := by
  have hcs : (¬ 0 ≤ f) ∨ (0 ≤ f ∧ ¬ f < t) ∨ (0 ≤ f ∧ f < t ∧ ¬ t ≤ 999999999999999) ∨ (0 ≤ f ∧ f < t ∧ t ≤ 999999999999999) := by omega
  have hx := (Ext.refl w).alloc (.cells #[.int .i64 f, .int .i64 t] 27)
  rcases hcs with h1 | ⟨h1, h2⟩ | ⟨h1, h2, h3⟩ | ⟨h1, h2, h3⟩
  · have HR : Hid (okR f t = false) := Lib.hid (decide_eq_false (fun h => h1 h.1))
    go_enter Tryz.func19, Tryz.ntmps19
    go_wp2_with fail
    go_ret
    exact ⟨by rw [HR.out]; rfl, hx⟩
  · have HR : Hid (okR f t = false) := Lib.hid (decide_eq_false (fun h => h2 h.2.1))
    go_enter Tryz.func19, Tryz.ntmps19
    go_wp2_with fail
    go_ret
    exact ⟨by rw [HR.out]; rfl, hx⟩
  · have HR : Hid (okR f t = false) := Lib.hid (decide_eq_false (fun h => h3 h.2.2))
    go_enter Tryz.func19, Tryz.ntmps19
    go_wp2_with fail
    go_ret
    exact ⟨by rw [HR.out]; rfl, hx⟩
  · have HR : Hid (okR f t = true) := Lib.hid (decide_eq_true ⟨h1, h2, h3⟩)
    go_enter Tryz.func19, Tryz.ntmps19
    go_wp2_with fail
    go_ret
    exact ⟨by rw [HR.out]; rfl, hx⟩
set_option maxRecDepth 100000 in
set_option maxHeartbeats 1000000 in
theorem rangetext_any {f t : Int} (hok : 0 ≤ f ∧ f < t ∧ t ≤ 999999999999999) (w : World) (hP : PowT w) : Calls Tryz.prog 20 #[.agg #[.int .i64 f, .int .i64 t]] w fun e w' => e = .returned (.string (itoS f ++ ⟨#[45]⟩ ++ itoS (t - 1))) ∧ Ext w w' := by
  obtain ⟨wa, hwa⟩ : ∃ wa, wa = w.alloc (.cells #[.int .i64 f, .int .i64 t] 27) := ⟨_, rfl⟩
  have XA : Ext w wa := by rw [hwa]; exact (Ext.refl w).alloc _
  have HT : Hid (RowB wa w.heap.size 27 [.int .i64 f, .int .i64 t]) := Lib.hid (by rw [hwa]; exact row_laid _ _ _)
  obtain ⟨x, hx⟩ : ∃ x, itoS f = x := ⟨_, rfl⟩
  obtain ⟨y, hy⟩ : ∃ y, itoS (t - 1) = y := ⟨_, rfl⟩
  have hxs : x.size ≤ 21 := by rw [← hx]; exact itoS_size _ (by omega) (by omega)
  have hys : y.size ≤ 21 := by rw [← hy]; exact itoS_size _ (by omega) (by omega)
  rw [hx, hy]
  have w1' : wrap64 (t - 1) = t - 1 := by unfold wrap64; omega
  have HI1 := Lib.hid (fun W (h : PowT W) => itoa_is hx (by omega) W h)
  have HI2 := Lib.hid (fun W (h : PowT W) => itoa_is hy (by omega) W h)
  have c0 : ∀ m : Wd wa, m.val.cell? ⟨w.heap.size, 0, none⟩ = some (.int .i64 f) := fun m => m.ext.cell (HT.out.cell (j := 0) rfl)
  have c1 : ∀ m : Wd wa, m.val.cell? ⟨w.heap.size, 1, none⟩ = some (.int .i64 t) := fun m => m.ext.cell (HT.out.cell (j := 1) rfl)
  have HPW : Hid (∀ m : Wd wa, PowT m.val) := Lib.hid (fun m => hP.ext (XA.trans m.ext))
  clear hx hy hP hok
  go_enter Tryz.func20, Tryz.ntmps20
  go_upto_region 1 with fail
  rw [← hwa]
  clear hwa HT
  obtain ⟨g, hg⟩ : ∃ g, w.heap.size = g := ⟨_, rfl⟩
  rw [hg] at c0 c1 ⊢
  clear hg
  refine wp_region_wd (by kernel_rfl) (by kernel_rfl) ?_
  repeat (go_big_quiet_step (first
    | (go_at_call_of 37 (Value.int .i64 f); exact Calls.wd_of (HI1.out _ (HPW.out _)))
    | (go_at_call 37; exact Calls.wd_of (HI2.out _ (HPW.out _)))))
  refine wpQuiet_nil ?_
  rintro _ ⟨nq, rfl⟩
  go_wp2_with fail
  go_ret
  exact ⟨rfl, XA.trans nq.ext⟩
end Go.Proofs.YtlhnejcjeoecaaaGreatDoor
namespace Go.Proofs.YtlhnejcjeoecaaaGreatDoor
open Go.RowKit Go.Sort
def okC (f t len : Int) : Bool := okR f t && (decide (t ≤ len) && decide (len ≤ 999999999999999))
def crS (f t len : Int) : ByteArray := ⟨#[98, 121, 116, 101, 115, 32]⟩ ++ (itoS f ++ ⟨#[45]⟩ ++ itoS (t - 1)) ++ ⟨#[47]⟩ ++ itoS len
theorem okC_cases (f t len : Int) : (okR f t = false ∧ okC f t len = false) ∨ (okR f t = true ∧ ¬ t ≤ len ∧ okC f t len = false) ∨ (okR f t = true ∧ t ≤ len ∧ ¬ len ≤ 999999999999999 ∧ okC f t len = false) ∨ (okR f t = true ∧ t ≤ len ∧ len ≤ 999999999999999 ∧ okC f t len = true) := by
  unfold okC
  cases okR f t with
  | false => exact .inl ⟨rfl, rfl⟩
  | true =>
    by_cases h1 : t ≤ len
    · by_cases h2 : len ≤ 999999999999999
      · exact .inr (.inr (.inr ⟨rfl, h1, h2, by simp [h1, h2]⟩))
      · exact .inr (.inr (.inl ⟨rfl, h1, h2, by simp [h2]⟩))
    · exact .inr (.inl ⟨rfl, h1, by simp [h1]⟩)
set_option maxRecDepth 100000 in
set_option maxHeartbeats 1000000 in
theorem content_no {f t len : Int} (hc : okC f t len = false) (w : World) : Calls Tryz.prog 32 #[.agg #[.int .i64 f, .int .i64 t], .int .i64 len] w fun e w' => e = .returned (.tuple #[.string ⟨#[]⟩, errV 2]) ∧ Ext w w' := by
  obtain ⟨wa, hwa⟩ : ∃ wa, wa = w.alloc (.cells #[.int .i64 f, .int .i64 t] 27) := ⟨_, rfl⟩
  have XA : Ext w wa := by rw [hwa]; exact (Ext.refl w).alloc _
  have HT : Hid (RowB wa w.heap.size 27 [.int .i64 f, .int .i64 t]) := Lib.hid (by rw [hwa]; exact row_laid _ _ _)
  have HPR := Lib.hid (fun W => proper_any f t W)
  have HX := Lib.hid XA
  rcases okC_cases f t len with ⟨h1, h2⟩ | ⟨h1, h2, h3⟩ | ⟨h1, h2, h3, h4⟩ | ⟨h1, h2, h3, h4⟩
  · rw [h1] at HPR
    clear h1 h2 hc XA
    go_enter Tryz.func32, Tryz.ntmps32
    go_upto_region 1 with fail
    rw [← hwa]
    clear hwa
    obtain ⟨g, hg⟩ : ∃ g, w.heap.size = g := ⟨_, rfl⟩
    rw [hg] at HT ⊢
    have c0 := HT.out.cell (j := 0) rfl
    have c1 := HT.out.cell (j := 1) rfl
    clear hg
    go_wp2_with fail
    refine (HPR.out _).mono ?_
    rintro e w1 ⟨rfl, hx1⟩
    have d0 := (HT.out.ext hx1).cell (j := 0) rfl
    have d1 := (HT.out.ext hx1).cell (j := 1) rfl
    clear c0 c1
    go_wp2_with fail
    go_ret2
    exact ⟨rfl, HX.out.trans hx1⟩
  · rw [h1] at HPR
    clear h1 h3 hc XA
    go_enter Tryz.func32, Tryz.ntmps32
    go_upto_region 1 with fail
    rw [← hwa]
    clear hwa
    obtain ⟨g, hg⟩ : ∃ g, w.heap.size = g := ⟨_, rfl⟩
    rw [hg] at HT ⊢
    have c0 := HT.out.cell (j := 0) rfl
    have c1 := HT.out.cell (j := 1) rfl
    clear hg
    go_wp2_with fail
    refine (HPR.out _).mono ?_
    rintro e w1 ⟨rfl, hx1⟩
    have d0 := (HT.out.ext hx1).cell (j := 0) rfl
    have d1 := (HT.out.ext hx1).cell (j := 1) rfl
    clear c0 c1
    go_wp2_with fail
    go_ret2
    exact ⟨rfl, HX.out.trans hx1⟩
  · rw [h1] at HPR
    clear h1 h4 hc XA
    go_enter Tryz.func32, Tryz.ntmps32
    go_upto_region 1 with fail
    rw [← hwa]
    clear hwa
    obtain ⟨g, hg⟩ : ∃ g, w.heap.size = g := ⟨_, rfl⟩
    rw [hg] at HT ⊢
    have c0 := HT.out.cell (j := 0) rfl
    have c1 := HT.out.cell (j := 1) rfl
    clear hg
    go_wp2_with fail
    refine (HPR.out _).mono ?_
    rintro e w1 ⟨rfl, hx1⟩
    have d0 := (HT.out.ext hx1).cell (j := 0) rfl
    have d1 := (HT.out.ext hx1).cell (j := 1) rfl
    clear c0 c1
    go_wp2_with fail
    go_ret2
    exact ⟨rfl, HX.out.trans hx1⟩
  · rw [h4] at hc
    cases hc
end Go.Proofs.YtlhnejcjeoecaaaGreatDoor
namespace Go.Proofs.YtlhnejcjeoecaaaGreatDoor
open Go.RowKit Go.Sort
theorem okC_parts {f t len : Int} (h : okC f t len = true) : (0 ≤ f ∧ f < t ∧ t ≤ 999999999999999) ∧ t ≤ len ∧ len ≤ 999999999999999 ∧ okR f t = true := by
  unfold okC at h
  simp only [Bool.and_eq_true, decide_eq_true_eq] at h
  exact ⟨of_decide_eq_true h.1, h.2.1, h.2.2, h.1⟩
set_option maxRecDepth 100000 in
set_option maxHeartbeats 1000000 in
theorem content_ok {f t len : Int} (hc : okC f t len = true) (w : World) (hP : PowT w) : Calls Tryz.prog 32 #[.agg #[.int .i64 f, .int .i64 t], .int .i64 len] w fun e w' => e = .returned (.tuple #[.string (crS f t len), .nilIface]) ∧ Ext w w' := by
  obtain ⟨wa, hwa⟩ : ∃ wa, wa = w.alloc (.cells #[.int .i64 f, .int .i64 t] 27) := ⟨_, rfl⟩
  have XA : Ext w wa := by rw [hwa]; exact (Ext.refl w).alloc _
  have HT : Hid (RowB wa w.heap.size 27 [.int .i64 f, .int .i64 t]) := Lib.hid (by rw [hwa]; exact row_laid _ _ _)
  have HPR := Lib.hid (fun W => proper_any f t W)
  have HX := Lib.hid XA
  obtain ⟨h1, h2, h3, h4⟩ := okC_parts hc
  rw [h4] at HPR
  unfold crS
  have HTX := Lib.hid (fun W (h : PowT W) => rangetext_any h1 W h)
  obtain ⟨x, hx⟩ : ∃ x, itoS f ++ (⟨#[45]⟩ : ByteArray) ++ itoS (t - 1) = x := ⟨_, rfl⟩
  have hxs : x.size ≤ 50 := by
    rw [← hx]
    have z1 := itoS_size f (by omega) (by omega)
    have z2 := itoS_size (t - 1) (by omega) (by omega)
    rw [ByteArray.size_append, ByteArray.size_append]
    show (itoS f).size + 1 + (itoS (t - 1)).size ≤ 50
    omega
  obtain ⟨z, hz⟩ : ∃ z, itoS len = z := ⟨_, rfl⟩
  have hzs : z.size ≤ 21 := by rw [← hz]; exact itoS_size _ (by omega) (by omega)
  have HIT := Lib.hid (fun W (h : PowT W) => itoa_is hz (by omega) W h)
  have HP := Lib.hid hP
  rw [hx] at HTX ⊢
  rw [hz]
  clear h1 h4 hc XA hx hz hP
  go_enter Tryz.func32, Tryz.ntmps32
  go_upto_region 1 with fail
  rw [← hwa]
  clear hwa
  obtain ⟨g, hg⟩ : ∃ g, w.heap.size = g := ⟨_, rfl⟩
  rw [hg] at HT ⊢
  have c0 := HT.out.cell (j := 0) rfl
  have c1 := HT.out.cell (j := 1) rfl
  clear hg
  go_wp2_with fail
  refine (HPR.out _).mono ?_
  rintro e w1 ⟨rfl, hx1⟩
  have d0 := (HT.out.ext hx1).cell (j := 0) rfl
  have d1 := (HT.out.ext hx1).cell (j := 1) rfl
  clear c0 c1
  go_wp2_with fail
  refine (HTX.out _ (HP.out.ext (HX.out.trans hx1))).mono ?_
  rintro e w2 ⟨rfl, hx2⟩
  go_wp2_with fail
  refine (HIT.out _ (HP.out.ext (HX.out.trans (hx1.trans hx2)))).mono ?_
  rintro e w3 ⟨rfl, hx3⟩
  go_wp2_with fail
  go_ret2
  exact ⟨rfl, HX.out.trans ((hx1.trans hx2).trans hx3)⟩
theorem crS_flat (x y z : ByteArray) : (⟨#[98, 121, 116, 101, 115, 32]⟩ : ByteArray) ++ x ++ ⟨#[45]⟩ ++ y ++ ⟨#[47]⟩ ++ z = ⟨#[98, 121, 116, 101, 115, 32]⟩ ++ (x ++ ⟨#[45]⟩ ++ y) ++ ⟨#[47]⟩ ++ z := by
  simp only [ByteArray.append_assoc]
end Go.Proofs.YtlhnejcjeoecaaaGreatDoor
namespace Go.Proofs.YtlhnejcjeoecaaaGreatDoor
open Go.RowKit Go.Sort
theorem cut_sep {a b : List UInt8} {c : UInt8} (ha : ∀ x ∈ a, x ≠ c) : cutF (bs (a ++ c :: b)) c = (bs a, bs b, true) := by
  have hs : a.length < (bs (a ++ c :: b)).size := by rw [bs_size]; simp
  have hat : ∀ j, (h : j < (bs (a ++ c :: b)).size) → (a ++ c :: b)[j]? = some ((bs (a ++ c :: b))[j]'h) := fun j h => by
    have := at_list (bs (a ++ c :: b)) j h
    rwa [bs_mk] at this
  rw [cutF_at (i := a.length) hs (by have := hat _ hs; simpa using this.symm) (fun j h hj e => by
    have h1 := hat j h
    rw [List.getElem?_append_left hj] at h1
    exact ha _ (List.mem_of_getElem? h1) e)]
  refine Prod.ext ?_ (Prod.ext ?_ rfl)
  · refine bs_ext ?_
    rw [ext_list, bs_mk, bs_mk]
    simp
  · refine bs_ext ?_
    simp only
    rw [ext_list, bs_mk, bs_mk, bs_size]
    rw [show (a ++ c :: b).drop (a.length + 1) = b by rw [List.drop_append]; simp, List.take_of_length_le (by simp; omega)]
def cpL : List UInt8 := [98, 121, 116, 101, 115, 32]
theorem crS_list {f t len : Int} : crS f t len = bs (cpL ++ (Lib.itoa f ++ 45 :: (Lib.itoa (t - 1) ++ 47 :: Lib.itoa len))) := by
  unfold crS
  show bs cpL ++ (bs (Lib.itoa f) ++ bs [45] ++ bs (Lib.itoa (t - 1))) ++ bs [47] ++ bs (Lib.itoa len) = _
  rw [itoS_app, itoS_app, itoS_app, itoS_app, itoS_app]
  simp [List.append_assoc]
theorem itoa_dig {n : Int} (h : 0 ≤ n) : ∀ c ∈ Lib.itoa n, 48 ≤ c.toNat ∧ c.toNat ≤ 57 := by
  obtain ⟨u, rfl⟩ := Int.eq_ofNat_of_zero_le h
  exact itoa_digs u
theorem numF_int {n : Int} (h : 0 ≤ n) (h2 : n ≤ 999999999999999) : numF (bs (Lib.itoa n)) = some n.toNat := by
  obtain ⟨u, rfl⟩ := Int.eq_ofNat_of_zero_le h
  exact numF_itoS (u := u) (by omega)
/-- the field's three numbers by the program's road: first '/', then '-' -/
theorem cr_prog {f t len : Int} (h : okC f t len = true) :
    cutF (bs (Lib.itoa f ++ 45 :: (Lib.itoa (t - 1) ++ 47 :: Lib.itoa len))) 47 = (bs (Lib.itoa f ++ 45 :: Lib.itoa (t - 1)), bs (Lib.itoa len), true) ∧
    cutF (bs (Lib.itoa f ++ 45 :: Lib.itoa (t - 1))) 45 = (bs (Lib.itoa f), bs (Lib.itoa (t - 1)), true) := by
  obtain ⟨h1, h2, h3, -⟩ := okC_parts h
  constructor
  · have e : Lib.itoa f ++ 45 :: (Lib.itoa (t - 1) ++ 47 :: Lib.itoa len) = (Lib.itoa f ++ 45 :: Lib.itoa (t - 1)) ++ 47 :: Lib.itoa len := by simp [List.append_assoc]
    rw [e]
    refine cut_sep (fun x hx e => ?_)
    subst e
    rcases List.mem_append.1 hx with hx | hx
    · have := itoa_dig h1.1 _ hx; revert this; decide
    · rcases List.mem_cons.1 hx with hx | hx
      · cases hx
      · have := itoa_dig (n := t - 1) (by omega) _ hx; revert this; decide
  · refine cut_sep (fun x hx e => ?_)
    subst e
    have := itoa_dig h1.1 _ hx; revert this; decide
/-- .. and by the reference's: first '-', then '/' -/
theorem cr_ref {f t len : Int} (h : okC f t len = true) :
    cutF (bs (Lib.itoa f ++ 45 :: (Lib.itoa (t - 1) ++ 47 :: Lib.itoa len))) 45 = (bs (Lib.itoa f), bs (Lib.itoa (t - 1) ++ 47 :: Lib.itoa len), true) ∧
    cutF (bs (Lib.itoa (t - 1) ++ 47 :: Lib.itoa len)) 47 = (bs (Lib.itoa (t - 1)), bs (Lib.itoa len), true) := by
  obtain ⟨h1, h2, h3, -⟩ := okC_parts h
  constructor
  · refine cut_sep (fun x hx e => ?_)
    subst e
    have := itoa_dig h1.1 _ hx; revert this; decide
  · refine cut_sep (fun x hx e => ?_)
    subst e
    have := itoa_dig (n := t - 1) (by omega) _ hx; revert this; decide
theorem cr_nums {f t len : Int} (h : okC f t len = true) : numF (bs (Lib.itoa f)) = some f.toNat ∧ numF (bs (Lib.itoa (t - 1))) = some (t - 1).toNat ∧ numF (bs (Lib.itoa len)) = some len.toNat := by
  obtain ⟨h1, h2, h3, -⟩ := okC_parts h
  exact ⟨numF_int h1.1 (by omega), numF_int (by omega) (by omega), numF_int (by omega) h3⟩
def cpfx (s : ByteArray) : Bool := Lib.hasPrefix s.data.toList cpL
theorem cpfx_app (l : List UInt8) : cpfx (bs (cpL ++ l)) = true := by
  show cpL.isPrefixOf (cpL ++ l) = true
  rw [List.isPrefixOf_iff_prefix]
  exact List.prefix_append _ _
theorem crest_app (l : List UInt8) : (bs (cpL ++ l)).extract 6 (bs (cpL ++ l)).size = bs l := by
  refine bs_ext ?_
  rw [ext_list, bs_mk, bs_mk, bs_size, show (cpL ++ l).drop 6 = l from rfl, List.take_of_length_le]
  simp [cpL]
end Go.Proofs.YtlhnejcjeoecaaaGreatDoor
namespace Go.Proofs.YtlhnejcjeoecaaaGreatDoor
open Go.RowKit Go.Sort
theorem scpfx_any (s : ByteArray) (w : World) : Calls Tryz.prog 23 #[.string s, .string ⟨#[98, 121, 116, 101, 115, 32]⟩] w fun e w' => (∃ x, e = .returned (.tuple #[.string x, .bool (cpfx s)]) ∧ x.size ≤ s.size ∧ (cpfx s = true → x = s.extract 6 s.size)) ∧ w = w' := by
  refine (Any.strings_CutPrefix Tryz.lays103 s ⟨#[98, 121, 116, 101, 115, 32]⟩ w).mono ?_
  rintro e w' ⟨rfl, rfl⟩
  refine ⟨⟨_, rfl, ?_, fun hp => ?_⟩, rfl⟩
  · unfold Lib.trimPrefix
    rw [Lib.size_eq, Lib.size_eq]
    split <;> simp
  · have hp2 : Lib.hasPrefix s.data.toList [98, 121, 116, 101, 115, 32] = true := hp
    refine bs_ext ?_
    rw [bs_mk, Lib.extract_toList]
    unfold Lib.trimPrefix
    rw [if_pos hp2, List.take_of_length_le (by rw [List.length_drop, ← Lib.size_eq]; omega)]
    rfl
/-- the field reads as a range and a length, or as nothing -/
def CrIs (s : ByteArray) (f t n : Int) (good : Prop) : Prop := (okC f t n = true ∧ crS f t n = s ∧ good) ∨ ((∀ f t n, okC f t n = true → crS f t n ≠ s) ∧ f = 0 ∧ t = 0 ∧ n = 0 ∧ ¬ good)
/-- what the program finds in a field that is one -/
theorem cr_found {s : ByteArray} {f t n : Int} (h : okC f t n = true) (e : crS f t n = s) :
    cpfx s = true ∧ (cutF (s.extract 6 s.size) 47).2.2 = true ∧ (cutF (cutF (s.extract 6 s.size) 47).1 45).2.2 = true ∧ numF (cutF (cutF (s.extract 6 s.size) 47).1 45).1 = some f.toNat ∧ numF (cutF (cutF (s.extract 6 s.size) 47).1 45).2.1 = some (t - 1).toNat ∧ numF (cutF (s.extract 6 s.size) 47).2.1 = some n.toNat := by
  rw [← e, crS_list, crest_app, (cr_prog h).1]
  simp only
  rw [(cr_prog h).2]
  exact ⟨cpfx_app _, by trivial, by trivial, (cr_nums h).1, (cr_nums h).2.1, (cr_nums h).2.2⟩
set_option maxRecDepth 100000 in
set_option maxHeartbeats 2000000 in
theorem readcr_any (s : ByteArray) (hs : s.size ≤ 100000) (w : World) (hM : MaxL w) (hP : PowT w) :
    Calls Tryz.prog 35 #[.string s] w fun e w' => (∃ f t n ev, e = .returned (.tuple #[.agg #[.int .i64 f, .int .i64 t], .int .i64 n, ev]) ∧ Hid ((okC f t n = true ∧ crS f t n = s ∧ ev = .nilIface) ∨ ((∀ f t n, okC f t n = true → crS f t n ≠ s) ∧ f = 0 ∧ t = 0 ∧ n = 0 ∧ ev = errV 2))) ∧ Ext w w' := by
  have HCP := Lib.hid (scpfx_any s w)
  have HM := Lib.hid hM
  have HP := Lib.hid hP
  obtain ⟨wa, hwa⟩ : ∃ wa, wa = w.alloc (.cells #[.int .i64 0, .int .i64 0] 27) := ⟨_, rfl⟩
  have XA : Ext w wa := by rw [hwa]; exact (Ext.refl w).alloc _
  have HT : Hid (RowB wa w.heap.size 27 [.int .i64 0, .int .i64 0]) := Lib.hid (by rw [hwa]; exact row_laid _ _ _)
  have HCPA := Lib.hid (scpfx_any s wa)
  obtain ⟨pf, hpf⟩ : ∃ b, cpfx s = b := ⟨_, rfl⟩
  have HPF := Lib.hid hpf
  rw [hpf] at HCPA
  clear hpf HCP hM hP
  go_enter Tryz.func35, Tryz.ntmps35
  go_upto_region 1 with fail
  rw [← hwa]
  clear hwa
  obtain ⟨g, hg⟩ : ∃ g, w.heap.size = g := ⟨_, rfl⟩
  have HG := Lib.hid hg
  rw [hg] at HT ⊢
  clear hg
  go_upto_region 2 with (go_at_call 23; refine HCPA.out.mono ?_; rintro e w1 ⟨⟨x, rfl, hxs, hxx⟩, rfl⟩)
  have HXX := Lib.hid hxx
  obtain ⟨z1, z2⟩ := cutF_size x 47
  have HC1 := Lib.hid (fun W (hW : Ext w W) => scut_any x 47 (by omega) W (HM.out.ext hW))
  obtain ⟨⟨a, b, o1⟩, hcu⟩ : ∃ p, cutF x 47 = p := ⟨_, rfl⟩
  have HCU := Lib.hid hcu
  rw [hcu] at HC1 z1 z2
  simp only at HC1 z1 z2
  have HX1 := Lib.hid XA
  clear hcu hxx XA
  go_upto_region 3 with (go_at_call 43; refine (HC1.out _ HX1.out).mono ?_; rintro e w2 ⟨rfl, hx2⟩)
  have HX2 := Lib.hid (HX1.out.trans hx2)
  have HT2 := Lib.hid (HT.out.ext hx2)
  clear HC1 hx2 HT
  obtain ⟨z3, z4⟩ := cutF_size a 45
  have HC2 := Lib.hid (fun W (hW : Ext w W) => scut_any a 45 (by omega) W (HM.out.ext hW))
  obtain ⟨⟨c, d, o2⟩, hcv⟩ : ∃ p, cutF a 45 = p := ⟨_, rfl⟩
  have HCV := Lib.hid hcv
  rw [hcv] at HC2 z3 z4
  simp only at HC2 z3 z4
  have HN1 := Lib.hid (fun W => numr_any c (by omega) W)
  have HN2 := Lib.hid (fun W => numr_any d (by omega) W)
  have HN3 := Lib.hid (fun W => numr_any b (by omega) W)
  have HF : Hid (∀ f t n, okC f t n = true → crS f t n = s → pf = true ∧ (pf = true → o1 = true ∧ o2 = true ∧ numF c = some f.toNat ∧ numF d = some (t - 1).toNat ∧ numF b = some n.toNat)) := Lib.hid (fun f t n hk he => by
    obtain ⟨k1, k2, k3, k4, k5, k6⟩ := cr_found hk he
    refine ⟨by rw [← HPF.out]; exact k1, fun hp => ?_⟩
    rw [← HXX.out hp, HCU.out] at k2 k3 k4 k5 k6
    simp only at k2 k3 k4 k5 k6
    rw [HCV.out] at k3 k4 k5
    exact ⟨k2, k3, k4, k5, k6⟩)
  obtain ⟨vc, hvc⟩ : ∃ v, numV c = v := ⟨_, rfl⟩
  obtain ⟨bc, hbc⟩ : ∃ v, (numF c).isSome = v := ⟨_, rfl⟩
  obtain ⟨vd, hvd⟩ : ∃ v, numV d = v := ⟨_, rfl⟩
  obtain ⟨bd, hbd⟩ : ∃ v, (numF d).isSome = v := ⟨_, rfl⟩
  obtain ⟨vb, hvb⟩ : ∃ v, numV b = v := ⟨_, rfl⟩
  obtain ⟨bb, hbb⟩ : ∃ v, (numF b).isSome = v := ⟨_, rfl⟩
  rw [hvc, hbc] at HN1
  rw [hvd, hbd] at HN2
  rw [hvb, hbb] at HN3
  have HV1 := Lib.hid (And.intro hvc hbc)
  have HV2 := Lib.hid (And.intro hvd hbd)
  have HV3 := Lib.hid (And.intro hvb hbb)
  clear hcv z1 z2 z3 z4 hxs hvc hbc hvd hbd hvb hbb
  go_upto_region 4 with (go_at_call 43; refine (HC2.out _ HX2.out).mono ?_; rintro e w3 ⟨rfl, hx3⟩)
  clear HC2
  go_upto_region 5 with (go_at_call 44; refine (HN1.out _).mono ?_; rintro e w4 ⟨rfl, hx4⟩)
  go_upto_region 6 with (go_at_call 44; refine (HN2.out _).mono ?_; rintro e w5 ⟨rfl, hx5⟩)
  go_upto_region 7 with (go_at_call 44; refine (HN3.out _).mono ?_; rintro e w6 ⟨rfl, hx6⟩)
  have HX7 := Lib.hid ((HX2.out.trans hx3).trans ((hx4.trans hx5).trans hx6))
  have HT7 := Lib.hid (HT2.out.ext (hx3.trans ((hx4.trans hx5).trans hx6)))
  clear hx3 hx4 hx5 hx6 HN1 HN2 HN3 HT2 HX2 HX1
  cases pf with
  | false =>
    have HBAD : Hid (∀ f t n, okC f t n = true → crS f t n ≠ s) := Lib.hid (fun f t n hk he => by
      exact absurd (HF.out f t n hk he).1 (by decide))
    obtain ⟨t0, t1, f0, f1⟩ := rng_cells HT7.out
    go_wp2_with fail
    have hr := (HT7.out.set 0 (.int .i64 0) (by simp)).set 1 (.int .i64 0) (by simp)
    obtain ⟨r0, r1, -, -⟩ := rng_cells hr
    exact bodyPost_ret (v := .tuple #[.agg #[.int .i64 0, .int .i64 0], .int .i64 0, errV 2]) (by simp [results, Tryz.results35, go_sem, r0, r1]) rfl ⟨⟨0, 0, 0, errV 2, rfl, Lib.hid (.inr ⟨HBAD.out, rfl, rfl, rfl, rfl⟩)⟩, ext_set2 HX7.out (by have := HG.out; omega) _ _⟩
  | true =>
  cases o1 with
  | false =>
    have HBAD : Hid (∀ f t n, okC f t n = true → crS f t n ≠ s) := Lib.hid (fun f t n hk he => by
      exact absurd ((HF.out f t n hk he).2 rfl).1 (by decide))
    obtain ⟨t0, t1, f0, f1⟩ := rng_cells HT7.out
    go_wp2_with fail
    have hr := (HT7.out.set 0 (.int .i64 0) (by simp)).set 1 (.int .i64 0) (by simp)
    obtain ⟨r0, r1, -, -⟩ := rng_cells hr
    exact bodyPost_ret (v := .tuple #[.agg #[.int .i64 0, .int .i64 0], .int .i64 0, errV 2]) (by simp [results, Tryz.results35, go_sem, r0, r1]) rfl ⟨⟨0, 0, 0, errV 2, rfl, Lib.hid (.inr ⟨HBAD.out, rfl, rfl, rfl, rfl⟩)⟩, ext_set2 HX7.out (by have := HG.out; omega) _ _⟩
  | true =>
  cases o2 with
  | false =>
    have HBAD : Hid (∀ f t n, okC f t n = true → crS f t n ≠ s) := Lib.hid (fun f t n hk he => by
      exact absurd ((HF.out f t n hk he).2 rfl).2.1 (by decide))
    obtain ⟨t0, t1, f0, f1⟩ := rng_cells HT7.out
    go_wp2_with fail
    have hr := (HT7.out.set 0 (.int .i64 0) (by simp)).set 1 (.int .i64 0) (by simp)
    obtain ⟨r0, r1, -, -⟩ := rng_cells hr
    exact bodyPost_ret (v := .tuple #[.agg #[.int .i64 0, .int .i64 0], .int .i64 0, errV 2]) (by simp [results, Tryz.results35, go_sem, r0, r1]) rfl ⟨⟨0, 0, 0, errV 2, rfl, Lib.hid (.inr ⟨HBAD.out, rfl, rfl, rfl, rfl⟩)⟩, ext_set2 HX7.out (by have := HG.out; omega) _ _⟩
  | true =>
  cases bc with
  | false =>
    have HBAD : Hid (∀ f t n, okC f t n = true → crS f t n ≠ s) := Lib.hid (fun f t n hk he => by
      have h1 := ((HF.out f t n hk he).2 rfl).2.2.1; have h2 := HV1.out.2; rw [h1] at h2; cases h2)
    obtain ⟨t0, t1, f0, f1⟩ := rng_cells HT7.out
    go_wp2_with fail
    have hr := (HT7.out.set 0 (.int .i64 0) (by simp)).set 1 (.int .i64 0) (by simp)
    obtain ⟨r0, r1, -, -⟩ := rng_cells hr
    exact bodyPost_ret (v := .tuple #[.agg #[.int .i64 0, .int .i64 0], .int .i64 0, errV 2]) (by simp [results, Tryz.results35, go_sem, r0, r1]) rfl ⟨⟨0, 0, 0, errV 2, rfl, Lib.hid (.inr ⟨HBAD.out, rfl, rfl, rfl, rfl⟩)⟩, ext_set2 HX7.out (by have := HG.out; omega) _ _⟩
  | true =>
  cases bd with
  | false =>
    have HBAD : Hid (∀ f t n, okC f t n = true → crS f t n ≠ s) := Lib.hid (fun f t n hk he => by
      have h1 := ((HF.out f t n hk he).2 rfl).2.2.2.1; have h2 := HV2.out.2; rw [h1] at h2; cases h2)
    obtain ⟨t0, t1, f0, f1⟩ := rng_cells HT7.out
    go_wp2_with fail
    have hr := (HT7.out.set 0 (.int .i64 0) (by simp)).set 1 (.int .i64 0) (by simp)
    obtain ⟨r0, r1, -, -⟩ := rng_cells hr
    exact bodyPost_ret (v := .tuple #[.agg #[.int .i64 0, .int .i64 0], .int .i64 0, errV 2]) (by simp [results, Tryz.results35, go_sem, r0, r1]) rfl ⟨⟨0, 0, 0, errV 2, rfl, Lib.hid (.inr ⟨HBAD.out, rfl, rfl, rfl, rfl⟩)⟩, ext_set2 HX7.out (by have := HG.out; omega) _ _⟩
  | true =>
  cases bb with
  | false =>
    have HBAD : Hid (∀ f t n, okC f t n = true → crS f t n ≠ s) := Lib.hid (fun f t n hk he => by
      have h1 := ((HF.out f t n hk he).2 rfl).2.2.2.2; have h2 := HV3.out.2; rw [h1] at h2; cases h2)
    obtain ⟨t0, t1, f0, f1⟩ := rng_cells HT7.out
    go_wp2_with fail
    have hr := (HT7.out.set 0 (.int .i64 0) (by simp)).set 1 (.int .i64 0) (by simp)
    obtain ⟨r0, r1, -, -⟩ := rng_cells hr
    exact bodyPost_ret (v := .tuple #[.agg #[.int .i64 0, .int .i64 0], .int .i64 0, errV 2]) (by simp [results, Tryz.results35, go_sem, r0, r1]) rfl ⟨⟨0, 0, 0, errV 2, rfl, Lib.hid (.inr ⟨HBAD.out, rfl, rfl, rfl, rfl⟩)⟩, ext_set2 HX7.out (by have := HG.out; omega) _ _⟩
  | true =>
    have HEQ : Hid (∀ f t n, okC f t n = true → crS f t n = s → f = vc ∧ t = vd + 1 ∧ n = vb) := Lib.hid (fun f t n hk he => by
      obtain ⟨⟨k1, k2, k3⟩, k4, k5, -⟩ := okC_parts hk
      obtain ⟨-, -, m1, m2, m3⟩ := (HF.out f t n hk he).2 rfl
      have e1 := HV1.out.1
      have e2 := HV2.out.1
      have e3 := HV3.out.1
      unfold numV at e1 e2 e3
      rw [m1] at e1
      rw [m2] at e2
      rw [m3] at e3
      simp only [Option.getD_some] at e1 e2 e3
      omega)
    have hvb : 0 ≤ vd ∧ vd < 1000000000000000 := by
      rw [← HV2.out.1]
      unfold numV
      cases hn : numF d with
      | none => simp
      | some n => have := numF_lt hn; simp only [Option.getD_some]; omega
    have hw : wrap64 (vd + 1) = vd + 1 := by unfold wrap64; omega
    clear hvb
    go_upto_region 10 with fail
    obtain ⟨wb, hwb⟩ : ∃ wb, wb = w6.alloc (.cells #[.int .i64 vc, .int .i64 (vd + 1)] 27) := ⟨_, rfl⟩
    have XB : Ext w6 wb := by rw [hwb]; exact (Ext.refl w6).alloc _
    have HTB : Hid (RowB wb w6.heap.size 27 [.int .i64 vc, .int .i64 (vd + 1)]) := Lib.hid (by rw [hwb]; exact row_laid _ _ _)
    rw [← hwb]
    clear hwb
    have HX8 := Lib.hid (HX7.out.trans XB)
    have HT8 := Lib.hid (HT7.out.ext XB)
    clear XB
    obtain ⟨q, hq⟩ : ∃ q, w6.heap.size = q := ⟨_, rfl⟩
    rw [hq] at HTB ⊢
    clear hq
    have b0 := HTB.out.cell (j := 0) rfl
    have b1 := HTB.out.cell (j := 1) rfl
    cases hk : okC vc (vd + 1) vb with
    | false =>
      have HBAD : Hid (∀ f t n, okC f t n = true → crS f t n ≠ s) := Lib.hid (fun f t n hk2 he => by
        obtain ⟨r1, r2, r3⟩ := HEQ.out f t n hk2 he
        rw [r1, r2, r3, hk] at hk2
        cases hk2)
      have HCT := Lib.hid (fun W => content_no hk W)
      clear hk
      go_upto_region 11 with (go_at_call 32; refine (HCT.out _).mono ?_; rintro e w7 ⟨rfl, hx7⟩)
      have HX9 := Lib.hid (HX8.out.trans hx7)
      have HT9 := Lib.hid (HT8.out.ext hx7)
      clear hx7 b0 b1
      obtain ⟨t0, t1, f0, f1⟩ := rng_cells HT9.out
      go_wp2_with fail
      have hr := (HT9.out.set 0 (.int .i64 0) (by simp)).set 1 (.int .i64 0) (by simp)
      obtain ⟨r0, r1, -, -⟩ := rng_cells hr
      exact bodyPost_ret (v := .tuple #[.agg #[.int .i64 0, .int .i64 0], .int .i64 0, errV 2]) (by simp [results, Tryz.results35, go_sem, r0, r1]) rfl ⟨⟨0, 0, 0, errV 2, rfl, Lib.hid (.inr ⟨HBAD.out, rfl, rfl, rfl, rfl⟩)⟩, ext_set2 HX9.out (by have := HG.out; omega) _ _⟩
    | true =>
      have HOK := Lib.hid hk
      have HCT := Lib.hid (fun W (h : PowT W) => content_ok hk W h)
      obtain ⟨y, hy⟩ : ∃ y, crS vc (vd + 1) vb = y := ⟨_, rfl⟩
      have HY := Lib.hid hy
      rw [hy] at HCT
      clear hk hy
      go_upto_region 11 with (go_at_call 32; refine (HCT.out _ (HP.out.ext HX8.out)).mono ?_; rintro e w7 ⟨rfl, hx7⟩)
      have HX9 := Lib.hid (HX8.out.trans hx7)
      have HT9 := Lib.hid (HT8.out.ext hx7)
      have HTC := Lib.hid (HTB.out.ext hx7)
      clear hx7 b0 b1
      by_cases hys : y = s
      · have hcmp : (y.toList == s.toList) = true := by rw [hys]; exact beq_self_eq_true _
        have HYS := Lib.hid hys
        clear hys
        obtain ⟨t0, t1, f0, f1⟩ := rng_cells HT9.out
        obtain ⟨b0, b1, b2, b3⟩ := rng_cells HTC.out
        go_wp2_with fail
        have hr := (HT9.out.set 0 (.int .i64 vc) (by simp)).set 1 (.int .i64 (vd + 1)) (by simp)
        obtain ⟨r0, r1, -, -⟩ := rng_cells hr
        exact bodyPost_ret (v := .tuple #[.agg #[.int .i64 vc, .int .i64 (vd + 1)], .int .i64 vb, .nilIface]) (by simp [results, Tryz.results35, go_sem, r0, r1]) rfl ⟨⟨vc, vd + 1, vb, .nilIface, rfl, Lib.hid (.inl ⟨HOK.out, HY.out.trans HYS.out, rfl⟩)⟩, ext_set2 HX9.out (by have := HG.out; omega) _ _⟩
      · have hcmp : (y.toList == s.toList) = false := by rw [beq_eq_false_iff_ne]; exact fun h => hys (bs_ext (by simpa [Lib.extract_toList] using h))
        have HBAD : Hid (∀ f t n, okC f t n = true → crS f t n ≠ s) := Lib.hid (fun f t n hk2 he => by
          obtain ⟨r1, r2, r3⟩ := HEQ.out f t n hk2 he
          rw [r1, r2, r3, HY.out] at he
          exact hys he)
        clear hys
        obtain ⟨t0, t1, f0, f1⟩ := rng_cells HT9.out
        go_wp2_with fail
        have hr := (HT9.out.set 0 (.int .i64 0) (by simp)).set 1 (.int .i64 0) (by simp)
        obtain ⟨r0, r1, -, -⟩ := rng_cells hr
        exact bodyPost_ret (v := .tuple #[.agg #[.int .i64 0, .int .i64 0], .int .i64 0, errV 2]) (by simp [results, Tryz.results35, go_sem, r0, r1]) rfl ⟨⟨0, 0, 0, errV 2, rfl, Lib.hid (.inr ⟨HBAD.out, rfl, rfl, rfl, rfl⟩)⟩, ext_set2 HX9.out (by have := HG.out; omega) _ _⟩
end Go.Proofs.YtlhnejcjeoecaaaGreatDoor
namespace Go.Proofs.YtlhnejcjeoecaaaGreatDoor
open Go.RowKit Go.Sort
theorem cpfx_short {s : ByteArray} (h : s.size < 6) : cpfx s = false := by
  cases hp : cpfx s with
  | false => rfl
  | true =>
    have h1 : cpL.isPrefixOf s.data.toList = true := hp
    have h2 := (List.isPrefixOf_iff_prefix.1 h1).length_le
    rw [Lib.size_eq] at h
    have : cpL.length = 6 := rfl
    omega
theorem cpfx_cut (s : ByteArray) : ((s.extract 0 6).toList == cpL) = cpfx s := by
  rw [Lib.extract_toList, List.drop_zero, Bool.eq_iff_iff, beq_iff_eq]
  show s.data.toList.take 6 = cpL ↔ cpL.isPrefixOf s.data.toList = true
  rw [List.isPrefixOf_iff_prefix]
  constructor
  · intro e
    rw [← e]
    exact List.take_prefix _ _
  · intro hp
    exact (List.prefix_iff_eq_take.1 hp).symm
/-- what the reference finds in a field that is one -/
theorem cr_foundr {s : ByteArray} {f t n : Int} (h : okC f t n = true) (e : crS f t n = s) :
    cpfx s = true ∧ (cutF (s.extract 6 s.size) 45).2.2 = true ∧ (cutF (cutF (s.extract 6 s.size) 45).2.1 47).2.2 = true ∧ numF (cutF (s.extract 6 s.size) 45).1 = some f.toNat ∧ numF (cutF (cutF (s.extract 6 s.size) 45).2.1 47).1 = some (t - 1).toNat ∧ numF (cutF (cutF (s.extract 6 s.size) 45).2.1 47).2.1 = some n.toNat := by
  rw [← e, crS_list, crest_app, (cr_ref h).1]
  simp only
  rw [(cr_ref h).2]
  exact ⟨cpfx_app _, by trivial, by trivial, (cr_nums h).1, (cr_nums h).2.1, (cr_nums h).2.2⟩
end Go.Proofs.YtlhnejcjeoecaaaGreatDoor
namespace Go.Proofs.YtlhnejcjeoecaaaGreatDoor
open Go.RowKit Go.Sort
theorem cr_inj {f t n f' t' n' : Int} (h : okC f t n = true) (h' : okC f' t' n' = true) (e : crS f' t' n' = crS f t n) : f' = f ∧ t' = t ∧ n' = n := by
  obtain ⟨-, -, -, a1, a2, a3⟩ := cr_foundr h rfl
  obtain ⟨-, -, -, b1, b2, b3⟩ := cr_foundr h' e
  rw [a1] at b1
  rw [a2] at b2
  rw [a3] at b3
  obtain ⟨⟨p1, p2, -⟩, p3, -, -⟩ := okC_parts h
  obtain ⟨⟨q1, q2, -⟩, q3, -, -⟩ := okC_parts h'
  simp only [Option.some.injEq] at b1 b2 b3
  omega
theorem crS_size {f t n : Int} (h : okC f t n = true) : (crS f t n).size ≤ 100000 := by
  obtain ⟨n1, n2, n3⟩ := cr_nums h
  have key : ∀ (l : List UInt8) (m : Nat), numF (bs l) = some m → l.length ≤ 15 := by
    intro l m h
    unfold numF at h
    split at h
    · rename_i hh
      have := hh.2.2
      rw [Lib.size_eq] at this
      exact this
    · cases h
  have k1 := key _ _ n1
  have k2 := key _ _ n2
  have k3 := key _ _ n3
  rw [crS_list, Lib.size_eq]
  show (cpL ++ _).length ≤ 100000
  simp only [List.length_append, List.length_cons]
  have : cpL.length = 6 := rfl
  omega
end Go.Proofs.YtlhnejcjeoecaaaGreatDoor
namespace Go.Proofs.YtlhnejcjeoecaaaGreatDoor
open Go.RowKit
theorem prefix_app : ∀ (p q l : List UInt8), (p ++ q).isPrefixOf l = (p.isPrefixOf l && q.isPrefixOf (l.drop p.length))
  | [], q, l => by simp
  | a :: p, q, [] => by simp
  | a :: p, q, b :: l => by
    have ih := prefix_app p q l
    simp only [List.cons_append, List.isPrefixOf, List.length_cons, List.drop_succ_cons]
    rw [ih, Bool.and_assoc]
/-- what stands behind a beginning -/
def aft (p s : ByteArray) : ByteArray := s.extract p.size s.size
theorem aft_list (p s : ByteArray) : (aft p s).data.toList = s.data.toList.drop p.data.toList.length := by
  unfold aft
  rw [← ByteArray.toList_eq, Lib.extract_toList, List.take_of_length_le (by rw [List.length_drop, ← Lib.size_eq]; exact Nat.le_refl _), Lib.size_eq]
theorem aft_size (p s : ByteArray) : (aft p s).size = s.size - p.size := by
  unfold aft
  rw [ByteArray.size_extract]
  omega
theorem app_list (p q : ByteArray) : (p ++ q).data.toList = p.data.toList ++ q.data.toList := by simp
theorem app_size (p q : ByteArray) : (p ++ q).size = p.size + q.size := by
  rw [Lib.size_eq, app_list, List.length_append, ← Lib.size_eq, ← Lib.size_eq]
theorem pfxB_app (p q s : ByteArray) : pfxB (p ++ q) s = (pfxB p s && pfxB q (aft p s)) := by
  show (p ++ q).data.toList.isPrefixOf s.data.toList = _
  rw [app_list, prefix_app]
  show _ = (p.data.toList.isPrefixOf s.data.toList && q.data.toList.isPrefixOf (aft p s).data.toList)
  rw [aft_list]
theorem aft_app (p q s : ByteArray) : aft (p ++ q) s = aft q (aft p s) := by
  refine bs_ext ?_
  rw [ByteArray.toList_eq, ByteArray.toList_eq, aft_list, aft_list, aft_list, app_list, List.length_append, List.drop_drop]
def crlB : ByteArray := ⟨#[13, 10]⟩
theorem cutB_head {t : ByteArray} (h : pfxB crlB t = true) : cutB t = (⟨#[]⟩, aft crlB t, true) := by
  have hs : 2 ≤ t.size := pfxB_size h
  have hp := List.isPrefixOf_iff_prefix.1 h
  have hb : ∀ j, j < 2 → t.data.toList[j]? = ([13, 10] : List UInt8)[j]? := by
    intro j hj
    obtain ⟨r, hr⟩ := hp
    rw [← hr, List.getElem?_append_left (by exact hj)]
    rfl
  have h0 := hb 0 (by omega)
  have h1 := hb 1 (by omega)
  rw [byt_list t 0 (by omega)] at h0
  rw [byt_list t 1 (by omega)] at h1
  rw [cutB_at (i := 0) (by omega) (by rw [byt_is (by omega : 0 < t.size), Option.some.inj h0]; rfl) (by rw [byt_is (by omega : 0 + 1 < t.size), Option.some.inj h1]; rfl) (fun j hj => by omega)]
  refine Prod.ext ?_ (Prod.ext ?_ rfl)
  · exact bs_ext (by rw [Lib.extract_toList, ByteArray.toList_eq]; rfl)
  · rfl
theorem cutB_empty {t : ByteArray} (h : (cutB t).2.2 = true) (h1 : (cutB t).1 = ⟨#[]⟩) : pfxB crlB t = true := by
  unfold cutB Lib.cut at h h1
  rcases Lib.index_spec t.data.toList [13, 10] with ⟨e, _⟩ | ⟨k, e, h2, h3, _⟩
  · rw [e, if_neg (by omega)] at h
    cases h
  · rw [e, if_pos (by omega)] at h1
    simp only at h1
    have h4 : t.data.toList.take k = [] := by
      have := congrArg (fun x : ByteArray => x.data.toList) h1
      simpa using this
    have h5 : k = 0 := by
      rcases List.take_eq_nil_iff.1 h4 with h | h
      · exact h
      · rw [h] at h2
        simpa using h2
    subst h5
    exact h3
theorem line_head {p s : ByteArray} : (lineF p s).2.2 = true ∧ (lineF p s).1 = ⟨#[]⟩ ↔ pfxB (p ++ crlB) s = true := by
  rw [pfxB_app, Bool.and_eq_true]
  unfold lineF
  show _ ↔ pfxB p s = true ∧ pfxB crlB (aft p s) = true
  constructor
  · rintro ⟨h1, h2⟩
    by_cases hp : pfxB p s = true
    · rw [if_pos hp] at h1 h2
      by_cases hc : (cutB (s.extract p.size s.size)).2.2 = true
      · rw [if_pos hc] at h1 h2
        exact ⟨hp, cutB_empty hc h2⟩
      · rw [if_neg hc] at h1
        cases h1
    · rw [if_neg hp] at h1
      cases h1
  · rintro ⟨h1, h2⟩
    have e := cutB_head h2
    have e' : cutB (s.extract p.size s.size) = (⟨#[]⟩, aft crlB (aft p s), true) := e
    rw [if_pos h1, e', if_pos rfl]
    exact ⟨rfl, rfl⟩
theorem line_rest {p s : ByteArray} (h : pfxB (p ++ crlB) s = true) : (lineF p s).2.1 = aft (p ++ crlB) s := by
  rw [pfxB_app, Bool.and_eq_true] at h
  have e' : cutB (s.extract p.size s.size) = (⟨#[]⟩, aft crlB (aft p s), true) := cutB_head h.2
  unfold lineF
  rw [if_pos h.1, e', if_pos rfl, aft_app]
theorem line_ok {p s : ByteArray} : (lineF p s).2.2 = true ↔ pfxB p s = true ∧ (cutB (aft p s)).2.2 = true := by
  unfold lineF
  constructor
  · intro h
    by_cases hp : pfxB p s = true
    · rw [if_pos hp] at h
      by_cases hc : (cutB (s.extract p.size s.size)).2.2 = true
      · exact ⟨hp, hc⟩
      · rw [if_neg hc] at h
        cases h
    · rw [if_neg hp] at h
      cases h
  · rintro ⟨h1, h2⟩
    have h2' : (cutB (s.extract p.size s.size)).2.2 = true := h2
    rw [if_pos h1, if_pos h2']
    exact h2'
theorem line_is {p s : ByteArray} (h : (lineF p s).2.2 = true) : lineF p s = cutB (aft p s) := by
  obtain ⟨h1, h2⟩ := line_ok.1 h
  have h2' : (cutB (s.extract p.size s.size)).2.2 = true := h2
  unfold lineF
  rw [if_pos h1, if_pos h2']
  rfl
def ctB : ByteArray := ⟨#[67, 111, 110, 116, 101, 110, 116, 45, 84, 121, 112, 101, 58, 32]⟩
def crB : ByteArray := ⟨#[67, 111, 110, 116, 101, 110, 116, 45, 82, 97, 110, 103, 101, 58, 32]⟩
def e1B (b : ByteArray) : ByteArray := ⟨#[45, 45]⟩ ++ b
def hdB (b : ByteArray) : ByteArray := ⟨#[45, 45]⟩ ++ b ++ ⟨#[13, 10, 67, 111, 110, 116, 101, 110, 116, 45, 84, 121, 112, 101, 58, 32]⟩
def finB (b : ByteArray) : ByteArray := ⟨#[45, 45]⟩ ++ b ++ ⟨#[45, 45, 13, 10]⟩
theorem hd_is (b : ByteArray) : hdB b = (e1B b ++ crlB) ++ ctB := by
  unfold hdB e1B
  rw [ByteArray.append_assoc (b := crlB)]
  rfl
/-- a part's head, as the program reads it: its kind, its range, what follows -/
def k1 (b s : ByteArray) : ByteArray × ByteArray × Bool := cutB (aft (hdB b) s)
def k2 (b s : ByteArray) : ByteArray × ByteArray × Bool := cutB (aft crB (k1 b s).2.1)
def okP (b s : ByteArray) : Prop := pfxB (hdB b) s = true ∧ (k1 b s).2.2 = true ∧ pfxB crB (k1 b s).2.1 = true ∧ (k2 b s).2.2 = true ∧ pfxB crlB (k2 b s).2.1 = true
/-- and as the reference does -/
def l1 (b s : ByteArray) : ByteArray × ByteArray × Bool := lineF (e1B b) s
def l2 (b s : ByteArray) : ByteArray × ByteArray × Bool := lineF ctB (l1 b s).2.1
def l3 (b s : ByteArray) : ByteArray × ByteArray × Bool := lineF crB (l2 b s).2.1
def l4 (b s : ByteArray) : ByteArray × ByteArray × Bool := lineF ⟨#[]⟩ (l3 b s).2.1
def okQ (b s : ByteArray) : Prop := (l1 b s).2.2 = true ∧ (l2 b s).2.2 = true ∧ (l3 b s).2.2 = true ∧ (l4 b s).2.2 = true ∧ (l1 b s).1 = ⟨#[]⟩ ∧ (l4 b s).1 = ⟨#[]⟩
theorem empty_app (p : ByteArray) : (⟨#[]⟩ : ByteArray) ++ p = p := bs_ext (by rw [ByteArray.toList_eq, ByteArray.toList_eq, app_list]; rfl)
section
attribute [local irreducible] cutB lineF aft pfxB crlB
theorem head_gen {E C R s H Z : ByteArray} {L1 L2 L3 L4 K1 K2 : ByteArray × ByteArray × Bool} (hH : H = (E ++ crlB) ++ C) (hZ : Z = ⟨#[]⟩) (g0 : L1 = lineF E s) (g1 : L2 = lineF C L1.2.1) (g2 : L3 = lineF R L2.2.1) (g3 : L4 = lineF Z L3.2.1) (f1 : K1 = cutB (aft H s)) (f2 : K2 = cutB (aft R K1.2.1)) :
    ((L1.2.2 = true ∧ L2.2.2 = true ∧ L3.2.2 = true ∧ L4.2.2 = true ∧ L1.1 = ⟨#[]⟩ ∧ L4.1 = ⟨#[]⟩) ↔ (pfxB H s = true ∧ K1.2.2 = true ∧ pfxB R K1.2.1 = true ∧ K2.2.2 = true ∧ pfxB crlB K2.2.1 = true)) ∧
    ((pfxB H s = true ∧ K1.2.2 = true ∧ pfxB R K1.2.1 = true ∧ K2.2.2 = true ∧ pfxB crlB K2.2.1 = true) → L2.1 = K1.1 ∧ L3.1 = K2.1 ∧ L4.2.1 = aft crlB K2.2.1) := by
  have hp1 : pfxB H s = (pfxB (E ++ crlB) s && pfxB C (aft (E ++ crlB) s)) := by rw [hH, pfxB_app]
  have ha : aft H s = aft C (aft (E ++ crlB) s) := by rw [hH, aft_app]
  have key : (pfxB H s = true ∧ K1.2.2 = true ∧ pfxB R K1.2.1 = true ∧ K2.2.2 = true ∧ pfxB crlB K2.2.1 = true) → (L1.2.2 = true ∧ L1.1 = ⟨#[]⟩) ∧ L2 = K1 ∧ L3 = K2 ∧ (L4.2.2 = true ∧ L4.1 = ⟨#[]⟩) ∧ L4.2.1 = aft crlB K2.2.1 := by
    rintro ⟨a1, a2, a3, a4, a5⟩
    rw [hp1, Bool.and_eq_true] at a1
    have e1 : L1.2.1 = aft (E ++ crlB) s := by rw [g0]; exact line_rest a1.1
    have b2 : (lineF C L1.2.1).2.2 = true := by
      rw [e1, line_ok]
      exact ⟨a1.2, by rw [← ha, ← f1]; exact a2⟩
    have e2 : L2 = K1 := by
      rw [g1, line_is b2, e1, ← ha, ← f1]
    have b3 : (lineF R L2.2.1).2.2 = true := by
      rw [e2, line_ok]
      exact ⟨a3, by rw [← f2]; exact a4⟩
    have e3 : L3 = K2 := by
      rw [g2, line_is b3, e2, ← f2]
    have a5' : pfxB (Z ++ crlB) L3.2.1 = true := by rw [hZ, empty_app, e3]; exact a5
    have b4 := line_head.2 a5'
    have e4 := line_rest a5'
    rw [← g3] at b4 e4
    rw [hZ, empty_app, e3] at e4
    have b1 := line_head.2 a1.1
    rw [← g0] at b1
    exact ⟨b1, e2, e3, b4, e4⟩
  constructor
  · constructor
    · rintro ⟨c1, c2, c3, c4, c5, c6⟩
      have a1 : pfxB (E ++ crlB) s = true := line_head.1 (by rw [← g0]; exact ⟨c1, c5⟩)
      have e1 : L1.2.1 = aft (E ++ crlB) s := by rw [g0]; exact line_rest a1
      have c2' : (lineF C L1.2.1).2.2 = true := by rw [← g1]; exact c2
      have d2 := line_ok.1 c2'
      have e2 : L2 = K1 := by rw [g1, line_is c2', e1, ← ha, ← f1]
      have c3' : (lineF R L2.2.1).2.2 = true := by rw [← g2]; exact c3
      have d3 := line_ok.1 c3'
      have e3 : L3 = K2 := by rw [g2, line_is c3', e2, ← f2]
      have a5 : pfxB (Z ++ crlB) L3.2.1 = true := line_head.1 (by rw [← g3]; exact ⟨c4, c6⟩)
      rw [hZ, empty_app, e3] at a5
      rw [e1] at d2
      rw [e2] at d3
      exact ⟨by rw [hp1, a1, d2.1]; rfl, by rw [f1, ha]; exact d2.2, d3.1, by rw [f2]; exact d3.2, a5⟩
    · intro h
      obtain ⟨⟨d1, d2⟩, e2, e3, ⟨d5, d6⟩, -⟩ := key h
      exact ⟨d1, by rw [e2]; exact h.2.1, by rw [e3]; exact h.2.2.2.1, d5, d2, d6⟩
  · intro h
    obtain ⟨-, e2, e3, -, e4⟩ := key h
    rw [e2, e3]
    exact ⟨rfl, rfl, e4⟩
end
theorem head_same (b s : ByteArray) : (okQ b s ↔ okP b s) ∧ (okP b s → (l2 b s).1 = (k1 b s).1 ∧ (l3 b s).1 = (k2 b s).1 ∧ (l4 b s).2.1 = aft crlB (k2 b s).2.1) :=
  head_gen (E := e1B b) (C := ctB) (R := crB) (s := s) (H := hdB b) (Z := ⟨#[]⟩) (L1 := l1 b s) (L2 := l2 b s) (L3 := l3 b s) (L4 := l4 b s) (K1 := k1 b s) (K2 := k2 b s) (hd_is b) rfl rfl rfl rfl rfl rfl rfl
end Go.Proofs.YtlhnejcjeoecaaaGreatDoor
