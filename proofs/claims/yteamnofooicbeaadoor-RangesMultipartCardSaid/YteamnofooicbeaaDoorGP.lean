/- Chapter 09: numbers in decimal. Chapter 09: what a field of one element reads as. Chapter 09: proper ranges; ContentRange. Chapter 09: ContentRange. Chapter 09: ContentRange of what is proper. Chapter 09: what a Content-Range field reads as. -/
import Derived.Test.YteamnofooicbeaaDoorRgO
import Derived.Lib.ItoaMem
import Derived.Lib.ItoaLen
import Derived.Lib.LaidTab
import Derived.Lib.AppendIntMem
import Derived.Deep.RegionWith
namespace Go.Proofs.YteamnofooicbeaaDoor
open Go.RowKit Go.Sort
abbrev itoS (n : Int) : ByteArray := ⟨(Lib.itoa n).toArray⟩
theorem itoa_small {u : Nat} (h : u < 10) : Lib.itoa (u : Int) = [UInt8.ofNat (48 + u)] := by rw [Lib.itoa_nonneg, Lib.decDigits_one h]
theorem itoa_step {u : Nat} (h : ¬ u < 10) : Lib.itoa (u : Int) = Lib.itoa ((u / 10 : Nat) : Int) ++ Lib.itoa ((u % 10 : Nat) : Int) := by
  rw [Lib.itoa_nonneg, Lib.itoa_nonneg, itoa_small (Nat.mod_lt _ (by omega)), Lib.decDigits, dif_neg h]
theorem itoS_app (a b : List UInt8) : ((⟨a.toArray⟩ : ByteArray) ++ ⟨b.toArray⟩) = ⟨(a ++ b).toArray⟩ := by
  apply bs_ext
  rw [bs_mk, ByteArray.toList_eq]
  simp
theorem itoS_size (n : Int) (h0 : -9223372036854775808 ≤ n) (h1 : n ≤ 9223372036854775807) : (itoS n).size ≤ 21 := by
  show (Lib.itoa n).toArray.size ≤ 21
  rw [List.size_toArray]
  exact Lib.itoa_length_le n h0 h1
theorem conv1 (W : World) (g : Nat) (a : Int) (h : W.cell? ⟨g, 0, none⟩ = some (.int .u8 a)) : (convert 60 9 (.slice (some ⟨g, 0, none⟩) 1 1)).run Tryd.prog W = .ok (.string (strOfNums [a])) W := by
  refine run_convert_bytes_arg W 60 5 Tryd.underlying60 Tryd.underlying5 g 0 1 1 [a] rfl (fun i hi => ?_) 9 Tryd.underlying9
  obtain rfl : i = 0 := by omega
  exact h
theorem str_one {u : Nat} (h : u < 10) : strOfNums [(48 : Int) + (u : Int)] = itoS (u : Int) := by
  rw [show itoS (u : Int) = ⟨[UInt8.ofNat (48 + u)].toArray⟩ from by unfold itoS; rw [itoa_small h]]
  apply bs_ext
  rw [ByteArray.toList_eq, strOfNums_data]
  have e : ((48 : Int) + (u : Int)).toNat = 48 + u := by omega
  simp [e]
set_option maxRecDepth 100000 in
set_option maxHeartbeats 400000 in
theorem text_nat (u : Nat) : ∀ (w : World), u ≤ 9223372036854775807 → Calls Tryd.prog 17 #[.int .i64 u] w fun e w' => e = .returned (.string (itoS u)) ∧ Ext w w' := by
  induction u using Nat.strongRecOn with
  | _ u ih =>
    intro w hu
    have hm : (u : Int) % 10 = ((u % 10 : Nat) : Int) := by omega
    have hml : u % 10 < 10 := Nat.mod_lt _ (by omega)
    have w1' : IntKind.u8.wrap (48 + ((u % 10 : Nat) : Int)) = 48 + ((u % 10 : Nat) : Int) := by rw [IntKind.wrap_u8]; omega
    have w2' : wrap64 (48 + ((u % 10 : Nat) : Int)) = 48 + ((u % 10 : Nat) : Int) := by unfold wrap64; omega
    have hc := conv1 (w.alloc (.cells #[.int .u8 (48 + ((u % 10 : Nat) : Int))] 5)) w.heap.size (48 + ((u % 10 : Nat) : Int)) (by simp)
    rw [str_one hml] at hc
    by_cases h : u < 10
    · have hi : ¬ (10 : Int) ≤ (u : Int) := by omega
      have HS : Hid (itoS ((u % 10 : Nat) : Int) = itoS u) := Lib.hid (by rw [Nat.mod_eq_of_lt h])
      obtain ⟨m, hmm⟩ : ∃ m, u % 10 = m := ⟨_, rfl⟩
      rw [hmm] at hm w1' w2' hc HS hml
      clear hmm ih h hu
      go_enter Tryd.func17, Tryd.ntmps17
      go_wp2_with fail
      go_ret
      exact ⟨ret_str HS.out, (Ext.refl w).alloc _⟩
    · have hi : (10 : Int) ≤ (u : Int) := by omega
      have hub : (u : Int) ≤ 9223372036854775807 := by omega
      have hd : (u : Int) / 10 = ((u / 10 : Nat) : Int) := by omega
      have i1 := ih (u / 10) (by omega)
      have H1 : Hid (∀ w, Calls Tryd.prog 17 #[.int .i64 ((u / 10 : Nat) : Int)] w fun e w' => e = .returned (.string (itoS ((u / 10 : Nat) : Int))) ∧ Ext w w') := Lib.hid (fun w => i1 w (by omega))
      have HS := Lib.hid (itoa_step h)
      have z1 := itoS_size ((u / 10 : Nat) : Int) (by omega) (by omega)
      have z2 := itoS_size ((u % 10 : Nat) : Int) (by omega) (by omega)
      obtain ⟨d, hdd⟩ : ∃ d, u / 10 = d := ⟨_, rfl⟩
      obtain ⟨m, hmm⟩ : ∃ m, u % 10 = m := ⟨_, rfl⟩
      rw [hdd] at hd H1 HS z1
      rw [hmm] at hm w1' w2' hc HS hml z2
      clear i1 ih h hdd hmm hu
      go_enter Tryd.func17, Tryd.ntmps17
      go_wp2_with fail
      refine (H1.out _).mono ?_
      rintro e w2 ⟨rfl, h2⟩
      go_wp2_with fail
      go_ret
      exact ⟨ret_str (by rw [itoS_app]; unfold itoS; rw [HS.out]), ((Ext.refl w).alloc _).trans h2⟩
/-! ### what such a numeral reads as -/
def valL (l : List UInt8) : Nat := l.foldl (fun n c => 10 * n + (c.toNat - 48)) 0
theorem valL_snoc (l : List UInt8) (c : UInt8) : valL (l ++ [c]) = 10 * valL l + (c.toNat - 48) := by unfold valL; rw [List.foldl_append]; rfl
theorem byt_mk (l : List UInt8) (k : Nat) (h : k < l.length) : byt ⟨l.toArray⟩ k = (l[k]'h).toNat := by
  have hs : k < (⟨l.toArray⟩ : ByteArray).size := by rw [size_list, bs_mk]; exact h
  rw [byt_is hs]
  have h1 := at_list ⟨l.toArray⟩ k hs
  rw [bs_mk, List.getElem?_eq_getElem h] at h1
  rw [Option.some.inj h1]
theorem valP_mk (l : List UInt8) : ∀ k, k ≤ l.length → valP ⟨l.toArray⟩ k = valL (l.take k)
  | 0, _ => by simp [valP, valL]
  | k + 1, h => by
    rw [List.take_add_one, List.getElem?_eq_getElem (by omega)]
    simp only [Option.toList_some]
    rw [valL_snoc, ← valP_mk l k (by omega), ← byt_mk l k (by omega)]
    rfl
theorem digs_mk {l : List UInt8} (h : ∀ c ∈ l, 48 ≤ c.toNat ∧ c.toNat ≤ 57) : digs ⟨l.toArray⟩ = true := by
  unfold digs
  refine decide_eq_true fun i hi => ?_
  rw [size_list, bs_mk] at hi
  rw [byt_mk l i hi]
  exact h _ (List.getElem_mem hi)
theorem itoa_digs (u : Nat) : ∀ c ∈ Lib.itoa (u : Int), 48 ≤ c.toNat ∧ c.toNat ≤ 57 := by
  induction u using Nat.strongRecOn with
  | _ u ih =>
    by_cases h : u < 10
    · intro c hc
      rw [itoa_small h, List.mem_singleton] at hc
      rw [hc]
      simp
      omega
    · intro c hc
      rw [itoa_step h, List.mem_append] at hc
      rcases hc with hc | hc
      · exact ih (u / 10) (by omega) c hc
      · exact ih (u % 10) (by omega) c hc
theorem itoa_val (u : Nat) : valL (Lib.itoa (u : Int)) = u := by
  induction u using Nat.strongRecOn with
  | _ u ih =>
    by_cases h : u < 10
    · rw [itoa_small h]
      simp [valL]
      omega
    · rw [itoa_step h, itoa_small (Nat.mod_lt _ (by omega)), valL_snoc, ih (u / 10) (by omega)]
      simp
      omega
theorem itoa_len (u : Nat) : ∀ n, 1 ≤ n → u < 10 ^ n → 1 ≤ (Lib.itoa (u : Int)).length ∧ (Lib.itoa (u : Int)).length ≤ n := by
  induction u using Nat.strongRecOn with
  | _ u ih =>
    intro n hn hu
    by_cases h : u < 10
    · rw [itoa_small h]
      simp
      omega
    · obtain ⟨m, rfl⟩ : ∃ m, n = m + 1 := ⟨n - 1, by omega⟩
      have hm : 1 ≤ m := by
        rcases Nat.eq_zero_or_pos m with h0 | h0
        · subst h0; simp at hu; omega
        · exact h0
      have h1 := ih (u / 10) (by omega) m hm (by rw [Nat.pow_succ] at hu; omega)
      rw [itoa_step h, itoa_small (Nat.mod_lt _ (by omega)), List.length_append, List.length_singleton]
      omega
theorem numF_itoS {u : Nat} (h : u < 1000000000000000) : numF (itoS (u : Int)) = some u := by
  have h1 := itoa_len u 15 (by omega) h
  have hs : (itoS (u : Int)).size = (Lib.itoa (u : Int)).length := by rw [size_list, bs_mk]
  unfold numF
  rw [if_pos ⟨digs_mk (itoa_digs u), by rw [hs]; exact h1.1, by rw [hs]; exact h1.2⟩, hs, valP_mk _ _ (Nat.le_refl _), List.take_length, itoa_val]
end Go.Proofs.YteamnofooicbeaaDoor
namespace Go.Proofs.YteamnofooicbeaaDoor
open Go.RowKit
abbrev bs (l : List UInt8) : ByteArray := ⟨l.toArray⟩
theorem bs_size (l : List UInt8) : (bs l).size = l.length := by rw [size_list, bs_mk]
theorem bs_byt {l : List UInt8} {k : Nat} (h : k < (bs l).size) : ∃ c ∈ l, byt (bs l) k = c.toNat := by
  rw [bs_size] at h
  exact ⟨_, List.getElem_mem h, byt_mk l k h⟩
def plain (l : List UInt8) : Prop := ∀ c ∈ l, 45 ≤ c.toNat ∧ c.toNat ≤ 57
theorem scn_plain {s : ByteArray} (h : ∀ k, k < s.size → byt s k ≠ 34 ∧ byt s k ≠ 44) : ∀ (n i fr : Nat), s.size ≤ i + n → scn s i fr false = some [trimF (s.extract fr s.size)]
  | 0, i, fr, hn => by rw [scn_end (by omega)]; rfl
  | n + 1, i, fr, hn => by
    by_cases hi : i < s.size
    · rw [scn_on hi (by simp) (h i hi).1 (fun hh => (h i hi).2 hh.2)]
      exact scn_plain h n (i + 1) fr (by omega)
    · rw [scn_end hi]; rfl
theorem trim_plain {l : List UInt8} (h : plain l) : trimF (bs l) = bs l := by
  have hb : ∀ j b, l[j]? = some b → blk b = false := fun j b hj => by
    have := h b (List.mem_of_getElem? hj)
    rw [blk_nat]
    simp
    omega
  refine bs_ext ?_
  unfold trimF
  rw [bs_mk, bs_mk]
  have := trim_char (l := l) (i := 0) (m := l.length) (by omega) (fun j b hj _ => by omega) (fun j b hj hj2 => by have := (List.getElem?_eq_some_iff.1 hj2).1; omega) (fun _ => ⟨fun b hb' => hb _ b hb', fun b hb' => hb _ b hb'⟩)
  rw [this, List.drop_zero, List.take_length]
theorem ext_whole (s : ByteArray) : s.extract 0 s.size = s := by
  refine bs_ext ?_
  rw [ext_list, List.drop_zero, List.take_of_length_le (by rw [← size_list]; omega)]
theorem list_plain {l : List UInt8} (h : plain l) (h0 : 0 < l.length) : listF (bs l) = some [bs l] := by
  have hc : cleanF (bs l) = true := decide_eq_true fun i hi => by
    obtain ⟨c, hc, e⟩ := bs_byt hi
    have := h c hc
    rw [e]
    unfold ctl
    simp
    omega
  unfold listF partsF
  rw [hc, if_pos rfl, scn_plain (fun k hk => by obtain ⟨c, hc, e⟩ := bs_byt hk; have := h c hc; omega) (bs l).size 0 0 (by omega), ext_whole, trim_plain h]
  have e : neS (bs l) = true := decide_eq_true (by rw [bs_size]; omega)
  simp [e]
theorem pfx_app (l : List UInt8) : pfx (bs (pfxL ++ l)) = true := by
  show pfxL.isPrefixOf (pfxL ++ l) = true
  rw [List.isPrefixOf_iff_prefix]
  exact List.prefix_append _ _
theorem rest_app (l : List UInt8) : (bs (pfxL ++ l)).extract 6 (bs (pfxL ++ l)).size = bs l := by
  refine bs_ext ?_
  rw [ext_list, bs_mk, bs_mk, bs_size, show (pfxL ++ l).drop 6 = l from rfl, List.take_of_length_le]
  simp [pfxL]
theorem parse_plain {l : List UInt8} (h : plain l) (h0 : 0 < l.length) (len : Int) : parseF (bs (pfxL ++ l)) len = match elF (bs l) (max 0 len) with
    | none => ([], 2)
    | some p => if p.1 < p.2 then ([p], 0) else ([], 1) := by
  unfold parseF
  rw [pfx_app, if_pos rfl, rest_app, list_plain h h0]
  simp only [elsF]
  cases elF (bs l) (max 0 len) with
  | none => rfl
  | some p => by_cases hp : p.1 < p.2 <;> simp [hp]
theorem cut_plain {a b : List UInt8} (ha : ∀ c ∈ a, c.toNat ≠ 45) : cutF (bs (a ++ 45 :: b)) 45 = (bs a, bs b, true) := by
  have hs : a.length < (bs (a ++ 45 :: b)).size := by rw [bs_size]; simp
  have hat : ∀ j, (h : j < (bs (a ++ 45 :: b)).size) → (a ++ 45 :: b)[j]? = some ((bs (a ++ 45 :: b))[j]'h) := fun j h => by
    have := at_list (bs (a ++ 45 :: b)) j h
    rwa [bs_mk] at this
  rw [cutF_at (i := a.length) hs (by have := hat _ hs; simpa using this.symm) (fun j h hj e => by
    have h1 := hat j h
    rw [List.getElem?_append_left hj] at h1
    have h2 := ha _ (List.mem_of_getElem? h1)
    rw [e] at h2
    exact h2 rfl)]
  refine Prod.ext ?_ (Prod.ext ?_ rfl)
  · refine bs_ext ?_
    rw [ext_list, bs_mk, bs_mk]
    simp
  · refine bs_ext ?_
    simp only
    rw [ext_list, bs_mk, bs_mk, bs_size]
    rw [show (a ++ 45 :: b).drop (a.length + 1) = b by rw [List.drop_append]; simp, List.take_of_length_le (by simp; omega)]
theorem itoa_no45 (u : Nat) : ∀ c ∈ Lib.itoa (u : Int), c.toNat ≠ 45 := fun c hc => by have := itoa_digs u c hc; omega
theorem itoa_pos (u : Nat) (h : u < 1000000000000000) : 1 ≤ (Lib.itoa (u : Int)).length := (itoa_len u 15 (by omega) h).1
theorem plain_dash {a b : List UInt8} (ha : ∀ c ∈ a, 48 ≤ c.toNat ∧ c.toNat ≤ 57) (hb : ∀ c ∈ b, 48 ≤ c.toNat ∧ c.toNat ≤ 57) : plain (a ++ 45 :: b) := by
  intro c hc
  rcases List.mem_append.1 hc with hc | hc
  · have := ha c hc; omega
  · rcases List.mem_cons.1 hc with rfl | hc
    · decide
    · have := hb c hc; omega
/-- 'x-y' -/
theorem el_two {u v : Nat} (hu : u < 1000000000000000) (hv : v < 1000000000000000) (huv : u ≤ v) (len : Int) : elF (bs (Lib.itoa (u : Int) ++ 45 :: Lib.itoa (v : Int))) len = some ((u : Int), min len ((v : Int) + 1)) := by
  unfold elF
  rw [cut_plain (itoa_no45 u)]
  have h1 := itoa_pos u hu
  have h2 := itoa_pos v hv
  rw [if_pos rfl, if_neg (by rw [bs_size]; omega)]
  simp only
  rw [show numF (bs (Lib.itoa (u : Int))) = some u from numF_itoS hu]
  simp only
  rw [if_neg (by rw [bs_size]; omega), show numF (bs (Lib.itoa (v : Int))) = some v from numF_itoS hv]
  simp only
  rw [if_neg (by omega)]
/-- 'x-' -/
theorem el_from {u : Nat} (hu : u < 1000000000000000) (len : Int) : elF (bs (Lib.itoa (u : Int) ++ 45 :: [])) len = some ((u : Int), len) := by
  unfold elF
  rw [cut_plain (itoa_no45 u)]
  have h1 := itoa_pos u hu
  rw [if_pos rfl, if_neg (by rw [bs_size]; omega)]
  simp only
  rw [show numF (bs (Lib.itoa (u : Int))) = some u from numF_itoS hu]
  simp only
  rw [if_pos (by rw [bs_size]; rfl)]
/-- '-x' -/
theorem el_last {u : Nat} (hu : u < 1000000000000000) (len : Int) : elF (bs ([] ++ 45 :: Lib.itoa (u : Int))) len = some (max 0 (len - (u : Int)), len) := by
  unfold elF
  rw [cut_plain (fun c hc => by cases hc)]
  rw [if_pos rfl, if_pos (by rw [bs_size]; rfl)]
  simp only
  rw [show numF (bs (Lib.itoa (u : Int))) = some u from numF_itoS hu]
  rfl
end Go.Proofs.YteamnofooicbeaaDoor
namespace Go.Proofs.YteamnofooicbeaaDoor
open Go.RowKit Go.Sort
abbrev PowT (w : World) : Prop := Lib.TabIs Tryd.prog w "internal/strconv.uint64pow10" .u64 Lib.pow10Tab
theorem PowT.ext {w w' : World} (h : PowT w) (hx : Ext w w') : PowT w' := by
  unfold PowT Lib.TabIs World.var? at *
  cases hg : Tryd.prog.globalNamed "internal/strconv.uint64pow10" with
  | none => simp [hg] at h
  | some g =>
    simp only [hg, Option.bind_some] at h ⊢
    have hlt : g < w.heap.size := by
      rcases Nat.lt_or_ge g w.heap.size with h' | h'
      · exact h'
      · rw [Array.getElem?_eq_none h'] at h; simp at h
    rw [Below.block hx g hlt]
    exact h
theorem itoa_any (n : Int) (h0 : -9223372036854775808 ≤ n) (h1 : n ≤ 9223372036854775807) (w : World) (htab : PowT w) :
    Calls Tryd.prog 48 #[.int .i64 n] w fun e w' => e = .returned (.string (itoS n)) ∧ Ext w w' :=
  (Any.strconv_Itoa Tryd.laysM171 n h0 h1 w htab).mono fun e w' ⟨he, k, os, hw⟩ => ⟨he, by rw [hw]; exact Lib.below_grow _ _ (Nat.le_refl _) _ _⟩
theorem itoa_is {n : Int} {s : ByteArray} (hs : itoS n = s) (hn : 0 ≤ n ∧ n ≤ 999999999999999) (w : World) (ht : PowT w) : Calls Tryd.prog 48 #[.int .i64 n] w fun e w' => e = .returned (.string s) ∧ Ext w w' := by
  rw [← hs]
  exact itoa_any n (by omega) (by omega) w ht
theorem rtext_is {n : Int} {s : ByteArray} (hs : itoS n = s) (hn : 0 ≤ n ∧ n ≤ 999999999999999) (w : World) : Calls Tryd.prog 17 #[.int .i64 n] w fun e w' => e = .returned (.string s) ∧ Ext w w' := by
  rw [← hs]
  obtain ⟨u, rfl⟩ := Int.eq_ofNat_of_zero_le hn.1
  exact text_nat u w (by omega)
def okR (f t : Int) : Bool := decide (0 ≤ f ∧ f < t ∧ t ≤ 999999999999999)
set_option maxRecDepth 100000 in
theorem proper_any (f t : Int) (w : World) : Calls Tryd.prog 46 #[.agg #[.int .i64 f, .int .i64 t]] w fun e w' => e = .returned (.bool (okR f t)) ∧ Ext w w' := by
  have hcs : (¬ 0 ≤ f) ∨ (0 ≤ f ∧ ¬ f < t) ∨ (0 ≤ f ∧ f < t ∧ ¬ t ≤ 999999999999999) ∨ (0 ≤ f ∧ f < t ∧ t ≤ 999999999999999) := by omega
  have hx := (Ext.refl w).alloc (.cells #[.int .i64 f, .int .i64 t] 37)
  rcases hcs with h1 | ⟨h1, h2⟩ | ⟨h1, h2, h3⟩ | ⟨h1, h2, h3⟩
  · have HR : Hid (okR f t = false) := Lib.hid (decide_eq_false (fun h => h1 h.1))
    go_enter Tryd.func46, Tryd.ntmps46
    go_wp2_with fail
    go_ret
    exact ⟨by rw [HR.out]; rfl, hx⟩
  · have HR : Hid (okR f t = false) := Lib.hid (decide_eq_false (fun h => h2 h.2.1))
    go_enter Tryd.func46, Tryd.ntmps46
    go_wp2_with fail
    go_ret
    exact ⟨by rw [HR.out]; rfl, hx⟩
  · have HR : Hid (okR f t = false) := Lib.hid (decide_eq_false (fun h => h3 h.2.2))
    go_enter Tryd.func46, Tryd.ntmps46
    go_wp2_with fail
    go_ret
    exact ⟨by rw [HR.out]; rfl, hx⟩
  · have HR : Hid (okR f t = true) := Lib.hid (decide_eq_true ⟨h1, h2, h3⟩)
    go_enter Tryd.func46, Tryd.ntmps46
    go_wp2_with fail
    go_ret
    exact ⟨by rw [HR.out]; rfl, hx⟩
set_option maxRecDepth 100000 in
theorem rproper_any (f t : Int) (w : World) : Calls Tryd.prog 49 #[.agg #[.int .i64 f, .int .i64 t]] w fun e w' => e = .returned (.bool (okR f t)) ∧ Ext w w' := by
  have hcs : (¬ 0 ≤ f) ∨ (0 ≤ f ∧ ¬ f < t) ∨ (0 ≤ f ∧ f < t ∧ ¬ t ≤ 999999999999999) ∨ (0 ≤ f ∧ f < t ∧ t ≤ 999999999999999) := by omega
  have hx := (Ext.refl w).alloc (.cells #[.int .i64 f, .int .i64 t] 43)
  rcases hcs with h1 | ⟨h1, h2⟩ | ⟨h1, h2, h3⟩ | ⟨h1, h2, h3⟩
  · have HR : Hid (okR f t = false) := Lib.hid (decide_eq_false (fun h => h1 h.1))
    go_enter Tryd.func49, Tryd.ntmps49
    go_wp2_with fail
    go_ret
    exact ⟨by rw [HR.out]; rfl, hx⟩
  · have HR : Hid (okR f t = false) := Lib.hid (decide_eq_false (fun h => h2 h.2.1))
    go_enter Tryd.func49, Tryd.ntmps49
    go_wp2_with fail
    go_ret
    exact ⟨by rw [HR.out]; rfl, hx⟩
  · have HR : Hid (okR f t = false) := Lib.hid (decide_eq_false (fun h => h3 h.2.2))
    go_enter Tryd.func49, Tryd.ntmps49
    go_wp2_with fail
    go_ret
    exact ⟨by rw [HR.out]; rfl, hx⟩
  · have HR : Hid (okR f t = true) := Lib.hid (decide_eq_true ⟨h1, h2, h3⟩)
    go_enter Tryd.func49, Tryd.ntmps49
    go_wp2_with fail
    go_ret
    exact ⟨by rw [HR.out]; rfl, hx⟩
set_option maxRecDepth 100000 in
set_option maxHeartbeats 1000000 in
theorem rangetext_any {f t : Int} (hok : 0 ≤ f ∧ f < t ∧ t ≤ 999999999999999) (w : World) (hP : PowT w) : Calls Tryd.prog 47 #[.agg #[.int .i64 f, .int .i64 t]] w fun e w' => e = .returned (.string (itoS f ++ ⟨#[45]⟩ ++ itoS (t - 1))) ∧ Ext w w' := by
  obtain ⟨wa, hwa⟩ : ∃ wa, wa = w.alloc (.cells #[.int .i64 f, .int .i64 t] 37) := ⟨_, rfl⟩
  have XA : Ext w wa := by rw [hwa]; exact (Ext.refl w).alloc _
  have HT : Hid (RowB wa w.heap.size 37 [.int .i64 f, .int .i64 t]) := Lib.hid (by rw [hwa]; exact row_laid _ _ _)
  obtain ⟨x, hx⟩ : ∃ x, itoS f = x := ⟨_, rfl⟩
  obtain ⟨y, hy⟩ : ∃ y, itoS (t - 1) = y := ⟨_, rfl⟩
  have hxs : x.size ≤ 21 := by rw [← hx]; exact itoS_size _ (by omega) (by omega)
  have hys : y.size ≤ 21 := by rw [← hy]; exact itoS_size _ (by omega) (by omega)
  rw [hx, hy]
  have w1' : wrap64 (t - 1) = t - 1 := by unfold wrap64; omega
  have HI1 := Lib.hid (fun W (h : PowT W) => itoa_is hx (by omega) W h)
  have HI2 := Lib.hid (fun W (h : PowT W) => itoa_is hy (by omega) W h)
  have c0 : ∀ m : Wd wa, m.val.cell? ⟨w.heap.size, 0, none⟩ = some (.int .i64 f) := fun m => m.ext.cell (HT.out.cell (j := 0) rfl)
  have c1 : ∀ m : Wd wa, m.val.cell? ⟨w.heap.size, 1, none⟩ = some (.int .i64 t) := fun m => m.ext.cell (HT.out.cell (j := 1) rfl)
  have HPW : Hid (∀ m : Wd wa, PowT m.val) := Lib.hid (fun m => hP.ext (XA.trans m.ext))
  clear hx hy hP hok
  go_enter Tryd.func47, Tryd.ntmps47
  go_upto_region 1 with fail
  rw [← hwa]
  clear hwa HT
  obtain ⟨g, hg⟩ : ∃ g, w.heap.size = g := ⟨_, rfl⟩
  rw [hg] at c0 c1 ⊢
  clear hg
  refine wp_region_wd (by kernel_rfl) (by kernel_rfl) ?_
  repeat (go_big_quiet_step (first
    | (go_at_call_of 48 (Value.int .i64 f); exact Calls.wd_of (HI1.out _ (HPW.out _)))
    | (go_at_call 48; exact Calls.wd_of (HI2.out _ (HPW.out _)))))
  refine wpQuiet_nil ?_
  rintro _ ⟨nq, rfl⟩
  go_wp2_with fail
  go_ret
  exact ⟨rfl, XA.trans nq.ext⟩
end Go.Proofs.YteamnofooicbeaaDoor
namespace Go.Proofs.YteamnofooicbeaaDoor
open Go.RowKit Go.Sort
def okC (f t len : Int) : Bool := okR f t && (decide (t ≤ len) && decide (len ≤ 999999999999999))
def crS (f t len : Int) : ByteArray := ⟨#[98, 121, 116, 101, 115, 32]⟩ ++ (itoS f ++ ⟨#[45]⟩ ++ itoS (t - 1)) ++ ⟨#[47]⟩ ++ itoS len
theorem okC_cases (f t len : Int) : (okR f t = false ∧ okC f t len = false) ∨ (okR f t = true ∧ ¬ t ≤ len ∧ okC f t len = false) ∨ (okR f t = true ∧ t ≤ len ∧ ¬ len ≤ 999999999999999 ∧ okC f t len = false) ∨ (okR f t = true ∧ t ≤ len ∧ len ≤ 999999999999999 ∧ okC f t len = true) := by
  unfold okC
  cases okR f t with
  | false => exact .inl ⟨rfl, rfl⟩
  | true =>
    by_cases h1 : t ≤ len
    · by_cases h2 : len ≤ 999999999999999
      · exact .inr (.inr (.inr ⟨rfl, h1, h2, by simp [h1, h2]⟩))
      · exact .inr (.inr (.inl ⟨rfl, h1, h2, by simp [h2]⟩))
    · exact .inr (.inl ⟨rfl, h1, by simp [h1]⟩)
set_option maxRecDepth 100000 in
set_option maxHeartbeats 1000000 in
theorem content_no {f t len : Int} (hc : okC f t len = false) (w : World) : Calls Tryd.prog 19 #[.agg #[.int .i64 f, .int .i64 t], .int .i64 len] w fun e w' => e = .returned (.tuple #[.string ⟨#[]⟩, errV 2]) ∧ Ext w w' := by
  obtain ⟨wa, hwa⟩ : ∃ wa, wa = w.alloc (.cells #[.int .i64 f, .int .i64 t] 37) := ⟨_, rfl⟩
  have XA : Ext w wa := by rw [hwa]; exact (Ext.refl w).alloc _
  have HT : Hid (RowB wa w.heap.size 37 [.int .i64 f, .int .i64 t]) := Lib.hid (by rw [hwa]; exact row_laid _ _ _)
  have HPR := Lib.hid (fun W => proper_any f t W)
  have HX := Lib.hid XA
  rcases okC_cases f t len with ⟨h1, h2⟩ | ⟨h1, h2, h3⟩ | ⟨h1, h2, h3, h4⟩ | ⟨h1, h2, h3, h4⟩
  · rw [h1] at HPR
    clear h1 h2 hc XA
    go_enter Tryd.func19, Tryd.ntmps19
    go_upto_region 1 with fail
    rw [← hwa]
    clear hwa
    obtain ⟨g, hg⟩ : ∃ g, w.heap.size = g := ⟨_, rfl⟩
    rw [hg] at HT ⊢
    have c0 := HT.out.cell (j := 0) rfl
    have c1 := HT.out.cell (j := 1) rfl
    clear hg
    go_wp2_with fail
    refine (HPR.out _).mono ?_
    rintro e w1 ⟨rfl, hx1⟩
    have d0 := (HT.out.ext hx1).cell (j := 0) rfl
    have d1 := (HT.out.ext hx1).cell (j := 1) rfl
    clear c0 c1
    go_wp2_with fail
    go_ret2
    exact ⟨rfl, HX.out.trans hx1⟩
  · rw [h1] at HPR
    clear h1 h3 hc XA
    go_enter Tryd.func19, Tryd.ntmps19
    go_upto_region 1 with fail
    rw [← hwa]
    clear hwa
    obtain ⟨g, hg⟩ : ∃ g, w.heap.size = g := ⟨_, rfl⟩
    rw [hg] at HT ⊢
    have c0 := HT.out.cell (j := 0) rfl
    have c1 := HT.out.cell (j := 1) rfl
    clear hg
    go_wp2_with fail
    refine (HPR.out _).mono ?_
    rintro e w1 ⟨rfl, hx1⟩
    have d0 := (HT.out.ext hx1).cell (j := 0) rfl
    have d1 := (HT.out.ext hx1).cell (j := 1) rfl
    clear c0 c1
    go_wp2_with fail
    go_ret2
    exact ⟨rfl, HX.out.trans hx1⟩
  · rw [h1] at HPR
    clear h1 h4 hc XA
    go_enter Tryd.func19, Tryd.ntmps19
    go_upto_region 1 with fail
    rw [← hwa]
    clear hwa
    obtain ⟨g, hg⟩ : ∃ g, w.heap.size = g := ⟨_, rfl⟩
    rw [hg] at HT ⊢
    have c0 := HT.out.cell (j := 0) rfl
    have c1 := HT.out.cell (j := 1) rfl
    clear hg
    go_wp2_with fail
    refine (HPR.out _).mono ?_
    rintro e w1 ⟨rfl, hx1⟩
    have d0 := (HT.out.ext hx1).cell (j := 0) rfl
    have d1 := (HT.out.ext hx1).cell (j := 1) rfl
    clear c0 c1
    go_wp2_with fail
    go_ret2
    exact ⟨rfl, HX.out.trans hx1⟩
  · rw [h4] at hc
    cases hc
set_option maxRecDepth 100000 in
set_option maxHeartbeats 1000000 in
theorem rcontent_no {f t len : Int} (hc : okC f t len = false) (w : World) : Calls Tryd.prog 20 #[.agg #[.int .i64 f, .int .i64 t], .int .i64 len] w fun e w' => e = .returned (.tuple #[.string ⟨#[]⟩, .bool false]) ∧ Ext w w' := by
  obtain ⟨wa, hwa⟩ : ∃ wa, wa = w.alloc (.cells #[.int .i64 f, .int .i64 t] 43) := ⟨_, rfl⟩
  have XA : Ext w wa := by rw [hwa]; exact (Ext.refl w).alloc _
  have HT : Hid (RowB wa w.heap.size 43 [.int .i64 f, .int .i64 t]) := Lib.hid (by rw [hwa]; exact row_laid _ _ _)
  have HPR := Lib.hid (fun W => rproper_any f t W)
  have HX := Lib.hid XA
  rcases okC_cases f t len with ⟨h1, h2⟩ | ⟨h1, h2, h3⟩ | ⟨h1, h2, h3, h4⟩ | ⟨h1, h2, h3, h4⟩
  · rw [h1] at HPR
    clear h1 h2 hc XA
    go_enter Tryd.func20, Tryd.ntmps20
    go_upto_region 1 with fail
    rw [← hwa]
    clear hwa
    obtain ⟨g, hg⟩ : ∃ g, w.heap.size = g := ⟨_, rfl⟩
    rw [hg] at HT ⊢
    have c0 := HT.out.cell (j := 0) rfl
    have c1 := HT.out.cell (j := 1) rfl
    clear hg
    go_wp2_with fail
    refine (HPR.out _).mono ?_
    rintro e w1 ⟨rfl, hx1⟩
    have d0 := (HT.out.ext hx1).cell (j := 0) rfl
    have d1 := (HT.out.ext hx1).cell (j := 1) rfl
    clear c0 c1
    go_wp2_with fail
    go_ret2
    exact ⟨rfl, HX.out.trans hx1⟩
  · rw [h1] at HPR
    clear h1 h3 hc XA
    go_enter Tryd.func20, Tryd.ntmps20
    go_upto_region 1 with fail
    rw [← hwa]
    clear hwa
    obtain ⟨g, hg⟩ : ∃ g, w.heap.size = g := ⟨_, rfl⟩
    rw [hg] at HT ⊢
    have c0 := HT.out.cell (j := 0) rfl
    have c1 := HT.out.cell (j := 1) rfl
    clear hg
    go_wp2_with fail
    refine (HPR.out _).mono ?_
    rintro e w1 ⟨rfl, hx1⟩
    have d0 := (HT.out.ext hx1).cell (j := 0) rfl
    have d1 := (HT.out.ext hx1).cell (j := 1) rfl
    clear c0 c1
    go_wp2_with fail
    go_ret2
    exact ⟨rfl, HX.out.trans hx1⟩
  · rw [h1] at HPR
    clear h1 h4 hc XA
    go_enter Tryd.func20, Tryd.ntmps20
    go_upto_region 1 with fail
    rw [← hwa]
    clear hwa
    obtain ⟨g, hg⟩ : ∃ g, w.heap.size = g := ⟨_, rfl⟩
    rw [hg] at HT ⊢
    have c0 := HT.out.cell (j := 0) rfl
    have c1 := HT.out.cell (j := 1) rfl
    clear hg
    go_wp2_with fail
    refine (HPR.out _).mono ?_
    rintro e w1 ⟨rfl, hx1⟩
    have d0 := (HT.out.ext hx1).cell (j := 0) rfl
    have d1 := (HT.out.ext hx1).cell (j := 1) rfl
    clear c0 c1
    go_wp2_with fail
    go_ret2
    exact ⟨rfl, HX.out.trans hx1⟩
  · rw [h4] at hc
    cases hc
end Go.Proofs.YteamnofooicbeaaDoor
namespace Go.Proofs.YteamnofooicbeaaDoor
open Go.RowKit Go.Sort
theorem okC_parts {f t len : Int} (h : okC f t len = true) : (0 ≤ f ∧ f < t ∧ t ≤ 999999999999999) ∧ t ≤ len ∧ len ≤ 999999999999999 ∧ okR f t = true := by
  unfold okC at h
  simp only [Bool.and_eq_true, decide_eq_true_eq] at h
  exact ⟨of_decide_eq_true h.1, h.2.1, h.2.2, h.1⟩
set_option maxRecDepth 100000 in
set_option maxHeartbeats 1000000 in
theorem content_ok {f t len : Int} (hc : okC f t len = true) (w : World) (hP : PowT w) : Calls Tryd.prog 19 #[.agg #[.int .i64 f, .int .i64 t], .int .i64 len] w fun e w' => e = .returned (.tuple #[.string (crS f t len), .nilIface]) ∧ Ext w w' := by
  obtain ⟨wa, hwa⟩ : ∃ wa, wa = w.alloc (.cells #[.int .i64 f, .int .i64 t] 37) := ⟨_, rfl⟩
  have XA : Ext w wa := by rw [hwa]; exact (Ext.refl w).alloc _
  have HT : Hid (RowB wa w.heap.size 37 [.int .i64 f, .int .i64 t]) := Lib.hid (by rw [hwa]; exact row_laid _ _ _)
  have HPR := Lib.hid (fun W => proper_any f t W)
  have HX := Lib.hid XA
  obtain ⟨h1, h2, h3, h4⟩ := okC_parts hc
  rw [h4] at HPR
  unfold crS
  have HTX := Lib.hid (fun W (h : PowT W) => rangetext_any h1 W h)
  obtain ⟨x, hx⟩ : ∃ x, itoS f ++ (⟨#[45]⟩ : ByteArray) ++ itoS (t - 1) = x := ⟨_, rfl⟩
  have hxs : x.size ≤ 50 := by
    rw [← hx]
    have z1 := itoS_size f (by omega) (by omega)
    have z2 := itoS_size (t - 1) (by omega) (by omega)
    rw [ByteArray.size_append, ByteArray.size_append]
    show (itoS f).size + 1 + (itoS (t - 1)).size ≤ 50
    omega
  obtain ⟨z, hz⟩ : ∃ z, itoS len = z := ⟨_, rfl⟩
  have hzs : z.size ≤ 21 := by rw [← hz]; exact itoS_size _ (by omega) (by omega)
  have HIT := Lib.hid (fun W (h : PowT W) => itoa_is hz (by omega) W h)
  have HP := Lib.hid hP
  rw [hx] at HTX ⊢
  rw [hz]
  clear h1 h4 hc XA hx hz hP
  go_enter Tryd.func19, Tryd.ntmps19
  go_upto_region 1 with fail
  rw [← hwa]
  clear hwa
  obtain ⟨g, hg⟩ : ∃ g, w.heap.size = g := ⟨_, rfl⟩
  rw [hg] at HT ⊢
  have c0 := HT.out.cell (j := 0) rfl
  have c1 := HT.out.cell (j := 1) rfl
  clear hg
  go_wp2_with fail
  refine (HPR.out _).mono ?_
  rintro e w1 ⟨rfl, hx1⟩
  have d0 := (HT.out.ext hx1).cell (j := 0) rfl
  have d1 := (HT.out.ext hx1).cell (j := 1) rfl
  clear c0 c1
  go_wp2_with fail
  refine (HTX.out _ (HP.out.ext (HX.out.trans hx1))).mono ?_
  rintro e w2 ⟨rfl, hx2⟩
  go_wp2_with fail
  refine (HIT.out _ (HP.out.ext (HX.out.trans (hx1.trans hx2)))).mono ?_
  rintro e w3 ⟨rfl, hx3⟩
  go_wp2_with fail
  go_ret2
  exact ⟨rfl, HX.out.trans ((hx1.trans hx2).trans hx3)⟩
theorem crS_flat (x y z : ByteArray) : (⟨#[98, 121, 116, 101, 115, 32]⟩ : ByteArray) ++ x ++ ⟨#[45]⟩ ++ y ++ ⟨#[47]⟩ ++ z = ⟨#[98, 121, 116, 101, 115, 32]⟩ ++ (x ++ ⟨#[45]⟩ ++ y) ++ ⟨#[47]⟩ ++ z := by
  simp only [ByteArray.append_assoc]
set_option maxRecDepth 100000 in
set_option maxHeartbeats 1000000 in
theorem rcontent_ok {f t len : Int} (hc : okC f t len = true) (w : World) : Calls Tryd.prog 20 #[.agg #[.int .i64 f, .int .i64 t], .int .i64 len] w fun e w' => e = .returned (.tuple #[.string (crS f t len), .bool true]) ∧ Ext w w' := by
  obtain ⟨wa, hwa⟩ : ∃ wa, wa = w.alloc (.cells #[.int .i64 f, .int .i64 t] 43) := ⟨_, rfl⟩
  have XA : Ext w wa := by rw [hwa]; exact (Ext.refl w).alloc _
  have HT : Hid (RowB wa w.heap.size 43 [.int .i64 f, .int .i64 t]) := Lib.hid (by rw [hwa]; exact row_laid _ _ _)
  have HPR := Lib.hid (fun W => rproper_any f t W)
  have HX := Lib.hid XA
  obtain ⟨h1, h2, h3, h4⟩ := okC_parts hc
  rw [h4] at HPR
  unfold crS
  rw [← crS_flat]
  have w1' : wrap64 (t - 1) = t - 1 := by unfold wrap64; omega
  obtain ⟨x, hx⟩ : ∃ x, itoS f = x := ⟨_, rfl⟩
  obtain ⟨y, hy⟩ : ∃ y, itoS (t - 1) = y := ⟨_, rfl⟩
  obtain ⟨z, hz⟩ : ∃ z, itoS len = z := ⟨_, rfl⟩
  have hxs : x.size ≤ 21 := by rw [← hx]; exact itoS_size _ (by omega) (by omega)
  have hys : y.size ≤ 21 := by rw [← hy]; exact itoS_size _ (by omega) (by omega)
  have hzs : z.size ≤ 21 := by rw [← hz]; exact itoS_size _ (by omega) (by omega)
  have HI1 := Lib.hid (fun W => rtext_is hx (by omega) W)
  have HI2 := Lib.hid (fun W => rtext_is hy (by omega) W)
  have HI3 := Lib.hid (fun W => rtext_is hz (by omega) W)
  rw [hx, hy, hz]
  clear h1 h4 hc XA hx hy hz
  go_enter Tryd.func20, Tryd.ntmps20
  go_upto_region 1 with fail
  rw [← hwa]
  clear hwa
  obtain ⟨g, hg⟩ : ∃ g, w.heap.size = g := ⟨_, rfl⟩
  rw [hg] at HT ⊢
  have c0 := HT.out.cell (j := 0) rfl
  have c1 := HT.out.cell (j := 1) rfl
  clear hg
  go_wp2_with fail
  refine (HPR.out _).mono ?_
  rintro e w1 ⟨rfl, hx1⟩
  have d0 := (HT.out.ext hx1).cell (j := 0) rfl
  have d1 := (HT.out.ext hx1).cell (j := 1) rfl
  clear c0 c1
  have e0 : ∀ m : Wd w1, m.val.cell? ⟨g, 0, none⟩ = some (.int .i64 f) := fun m => m.ext.cell d0
  have e1 : ∀ m : Wd w1, m.val.cell? ⟨g, 1, none⟩ = some (.int .i64 t) := fun m => m.ext.cell d1
  go_upto_region 3 with fail
  clear d0 d1
  refine wp_region_wd (by kernel_rfl) (by kernel_rfl) ?_
  repeat (go_big_quiet_step (first
    | (go_at_call_of 17 (Value.int .i64 f); exact Calls.wd_of (HI1.out _))
    | (go_at_call_of 17 (Value.int .i64 len); exact Calls.wd_of (HI3.out _))
    | (go_at_call 17; exact Calls.wd_of (HI2.out _))))
  refine wpQuiet_nil ?_
  rintro _ ⟨nq, rfl⟩
  go_wp2_with fail
  go_ret2
  exact ⟨rfl, HX.out.trans (hx1.trans nq.ext)⟩
end Go.Proofs.YteamnofooicbeaaDoor
namespace Go.Proofs.YteamnofooicbeaaDoor
open Go.RowKit Go.Sort
theorem cut_sep {a b : List UInt8} {c : UInt8} (ha : ∀ x ∈ a, x ≠ c) : cutF (bs (a ++ c :: b)) c = (bs a, bs b, true) := by
  have hs : a.length < (bs (a ++ c :: b)).size := by rw [bs_size]; simp
  have hat : ∀ j, (h : j < (bs (a ++ c :: b)).size) → (a ++ c :: b)[j]? = some ((bs (a ++ c :: b))[j]'h) := fun j h => by
    have := at_list (bs (a ++ c :: b)) j h
    rwa [bs_mk] at this
  rw [cutF_at (i := a.length) hs (by have := hat _ hs; simpa using this.symm) (fun j h hj e => by
    have h1 := hat j h
    rw [List.getElem?_append_left hj] at h1
    exact ha _ (List.mem_of_getElem? h1) e)]
  refine Prod.ext ?_ (Prod.ext ?_ rfl)
  · refine bs_ext ?_
    rw [ext_list, bs_mk, bs_mk]
    simp
  · refine bs_ext ?_
    simp only
    rw [ext_list, bs_mk, bs_mk, bs_size]
    rw [show (a ++ c :: b).drop (a.length + 1) = b by rw [List.drop_append]; simp, List.take_of_length_le (by simp; omega)]
def cpL : List UInt8 := [98, 121, 116, 101, 115, 32]
theorem crS_list {f t len : Int} : crS f t len = bs (cpL ++ (Lib.itoa f ++ 45 :: (Lib.itoa (t - 1) ++ 47 :: Lib.itoa len))) := by
  unfold crS
  show bs cpL ++ (bs (Lib.itoa f) ++ bs [45] ++ bs (Lib.itoa (t - 1))) ++ bs [47] ++ bs (Lib.itoa len) = _
  rw [itoS_app, itoS_app, itoS_app, itoS_app, itoS_app]
  simp [List.append_assoc]
theorem itoa_dig {n : Int} (h : 0 ≤ n) : ∀ c ∈ Lib.itoa n, 48 ≤ c.toNat ∧ c.toNat ≤ 57 := by
  obtain ⟨u, rfl⟩ := Int.eq_ofNat_of_zero_le h
  exact itoa_digs u
theorem numF_int {n : Int} (h : 0 ≤ n) (h2 : n ≤ 999999999999999) : numF (bs (Lib.itoa n)) = some n.toNat := by
  obtain ⟨u, rfl⟩ := Int.eq_ofNat_of_zero_le h
  exact numF_itoS (u := u) (by omega)
/-- the field's three numbers by the program's road: first '/', then '-' -/
theorem cr_prog {f t len : Int} (h : okC f t len = true) :
    cutF (bs (Lib.itoa f ++ 45 :: (Lib.itoa (t - 1) ++ 47 :: Lib.itoa len))) 47 = (bs (Lib.itoa f ++ 45 :: Lib.itoa (t - 1)), bs (Lib.itoa len), true) ∧
    cutF (bs (Lib.itoa f ++ 45 :: Lib.itoa (t - 1))) 45 = (bs (Lib.itoa f), bs (Lib.itoa (t - 1)), true) := by
  obtain ⟨h1, h2, h3, -⟩ := okC_parts h
  constructor
  · have e : Lib.itoa f ++ 45 :: (Lib.itoa (t - 1) ++ 47 :: Lib.itoa len) = (Lib.itoa f ++ 45 :: Lib.itoa (t - 1)) ++ 47 :: Lib.itoa len := by simp [List.append_assoc]
    rw [e]
    refine cut_sep (fun x hx e => ?_)
    subst e
    rcases List.mem_append.1 hx with hx | hx
    · have := itoa_dig h1.1 _ hx; revert this; decide
    · rcases List.mem_cons.1 hx with hx | hx
      · cases hx
      · have := itoa_dig (n := t - 1) (by omega) _ hx; revert this; decide
  · refine cut_sep (fun x hx e => ?_)
    subst e
    have := itoa_dig h1.1 _ hx; revert this; decide
/-- .. and by the reference's: first '-', then '/' -/
theorem cr_ref {f t len : Int} (h : okC f t len = true) :
    cutF (bs (Lib.itoa f ++ 45 :: (Lib.itoa (t - 1) ++ 47 :: Lib.itoa len))) 45 = (bs (Lib.itoa f), bs (Lib.itoa (t - 1) ++ 47 :: Lib.itoa len), true) ∧
    cutF (bs (Lib.itoa (t - 1) ++ 47 :: Lib.itoa len)) 47 = (bs (Lib.itoa (t - 1)), bs (Lib.itoa len), true) := by
  obtain ⟨h1, h2, h3, -⟩ := okC_parts h
  constructor
  · refine cut_sep (fun x hx e => ?_)
    subst e
    have := itoa_dig h1.1 _ hx; revert this; decide
  · refine cut_sep (fun x hx e => ?_)
    subst e
    have := itoa_dig (n := t - 1) (by omega) _ hx; revert this; decide
theorem cr_nums {f t len : Int} (h : okC f t len = true) : numF (bs (Lib.itoa f)) = some f.toNat ∧ numF (bs (Lib.itoa (t - 1))) = some (t - 1).toNat ∧ numF (bs (Lib.itoa len)) = some len.toNat := by
  obtain ⟨h1, h2, h3, -⟩ := okC_parts h
  exact ⟨numF_int h1.1 (by omega), numF_int (by omega) (by omega), numF_int (by omega) h3⟩
def cpfx (s : ByteArray) : Bool := Lib.hasPrefix s.data.toList cpL
theorem cpfx_app (l : List UInt8) : cpfx (bs (cpL ++ l)) = true := by
  show cpL.isPrefixOf (cpL ++ l) = true
  rw [List.isPrefixOf_iff_prefix]
  exact List.prefix_append _ _
theorem crest_app (l : List UInt8) : (bs (cpL ++ l)).extract 6 (bs (cpL ++ l)).size = bs l := by
  refine bs_ext ?_
  rw [ext_list, bs_mk, bs_mk, bs_size, show (cpL ++ l).drop 6 = l from rfl, List.take_of_length_le]
  simp [cpL]
end Go.Proofs.YteamnofooicbeaaDoor
