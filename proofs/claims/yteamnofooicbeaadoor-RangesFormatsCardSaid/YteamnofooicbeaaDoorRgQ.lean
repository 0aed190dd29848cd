/- Chapter 09: what a field of one element reads as. -/
import Derived.Test.YteamnofooicbeaaDoorRgP
namespace Go.Proofs.YteamnofooicbeaaDoor
open Go.RowKit
abbrev bs (l : List UInt8) : ByteArray := ⟨l.toArray⟩
theorem bs_size (l : List UInt8) : (bs l).size = l.length := by rw [size_list, bs_mk]
theorem bs_byt {l : List UInt8} {k : Nat} (h : k < (bs l).size) : ∃ c ∈ l, byt (bs l) k = c.toNat := by
  rw [bs_size] at h
  exact ⟨_, List.getElem_mem h, byt_mk l k h⟩
def plain (l : List UInt8) : Prop := ∀ c ∈ l, 45 ≤ c.toNat ∧ c.toNat ≤ 57
theorem scn_plain {s : ByteArray} (h : ∀ k, k < s.size → byt s k ≠ 34 ∧ byt s k ≠ 44) : ∀ (n i fr : Nat), s.size ≤ i + n → scn s i fr false = some [trimF (s.extract fr s.size)]
  | 0, i, fr, hn => by rw [scn_end (by omega)]; rfl
  | n + 1, i, fr, hn => by
    by_cases hi : i < s.size
    · rw [scn_on hi (by simp) (h i hi).1 (fun hh => (h i hi).2 hh.2)]
      exact scn_plain h n (i + 1) fr (by omega)
    · rw [scn_end hi]; rfl
theorem trim_plain {l : List UInt8} (h : plain l) : trimF (bs l) = bs l := by
  have hb : ∀ j b, l[j]? = some b → blk b = false := fun j b hj => by
    have := h b (List.mem_of_getElem? hj)
    rw [blk_nat]
    simp
    omega
  refine bs_ext ?_
  unfold trimF
  rw [bs_mk, bs_mk]
  have := trim_char (l := l) (i := 0) (m := l.length) (by omega) (fun j b hj _ => by omega) (fun j b hj hj2 => by have := (List.getElem?_eq_some_iff.1 hj2).1; omega) (fun _ => ⟨fun b hb' => hb _ b hb', fun b hb' => hb _ b hb'⟩)
  rw [this, List.drop_zero, List.take_length]
theorem ext_whole (s : ByteArray) : s.extract 0 s.size = s := by
  refine bs_ext ?_
  rw [ext_list, List.drop_zero, List.take_of_length_le (by rw [← size_list]; omega)]
theorem list_plain {l : List UInt8} (h : plain l) (h0 : 0 < l.length) : listF (bs l) = some [bs l] := by
  have hc : cleanF (bs l) = true := decide_eq_true fun i hi => by
    obtain ⟨c, hc, e⟩ := bs_byt hi
    have := h c hc
    rw [e]
    unfold ctl
    simp
    omega
  unfold listF partsF
  rw [hc, if_pos rfl, scn_plain (fun k hk => by obtain ⟨c, hc, e⟩ := bs_byt hk; have := h c hc; omega) (bs l).size 0 0 (by omega), ext_whole, trim_plain h]
  have e : neS (bs l) = true := decide_eq_true (by rw [bs_size]; omega)
  simp [e]
theorem pfx_app (l : List UInt8) : pfx (bs (pfxL ++ l)) = true := by
  show pfxL.isPrefixOf (pfxL ++ l) = true
  rw [List.isPrefixOf_iff_prefix]
  exact List.prefix_append _ _
theorem rest_app (l : List UInt8) : (bs (pfxL ++ l)).extract 6 (bs (pfxL ++ l)).size = bs l := by
  refine bs_ext ?_
  rw [ext_list, bs_mk, bs_mk, bs_size, show (pfxL ++ l).drop 6 = l from rfl, List.take_of_length_le]
  simp [pfxL]
theorem parse_plain {l : List UInt8} (h : plain l) (h0 : 0 < l.length) (len : Int) : parseF (bs (pfxL ++ l)) len = match elF (bs l) (max 0 len) with
    | none => ([], 2)
    | some p => if p.1 < p.2 then ([p], 0) else ([], 1) := by
  unfold parseF
  rw [pfx_app, if_pos rfl, rest_app, list_plain h h0]
  simp only [elsF]
  cases elF (bs l) (max 0 len) with
  | none => rfl
  | some p => by_cases hp : p.1 < p.2 <;> simp [hp]
theorem cut_plain {a b : List UInt8} (ha : ∀ c ∈ a, c.toNat ≠ 45) : cutF (bs (a ++ 45 :: b)) 45 = (bs a, bs b, true) := by
  have hs : a.length < (bs (a ++ 45 :: b)).size := by rw [bs_size]; simp
  have hat : ∀ j, (h : j < (bs (a ++ 45 :: b)).size) → (a ++ 45 :: b)[j]? = some ((bs (a ++ 45 :: b))[j]'h) := fun j h => by
    have := at_list (bs (a ++ 45 :: b)) j h
    rwa [bs_mk] at this
  rw [cutF_at (i := a.length) hs (by have := hat _ hs; simpa using this.symm) (fun j h hj e => by
    have h1 := hat j h
    rw [List.getElem?_append_left hj] at h1
    have h2 := ha _ (List.mem_of_getElem? h1)
    rw [e] at h2
    exact h2 rfl)]
  refine Prod.ext ?_ (Prod.ext ?_ rfl)
  · refine bs_ext ?_
    rw [ext_list, bs_mk, bs_mk]
    simp
  · refine bs_ext ?_
    simp only
    rw [ext_list, bs_mk, bs_mk, bs_size]
    rw [show (a ++ 45 :: b).drop (a.length + 1) = b by rw [List.drop_append]; simp, List.take_of_length_le (by simp; omega)]
theorem itoa_no45 (u : Nat) : ∀ c ∈ Lib.itoa (u : Int), c.toNat ≠ 45 := fun c hc => by have := itoa_digs u c hc; omega
theorem itoa_pos (u : Nat) (h : u < 1000000000000000) : 1 ≤ (Lib.itoa (u : Int)).length := (itoa_len u 15 (by omega) h).1
theorem plain_dash {a b : List UInt8} (ha : ∀ c ∈ a, 48 ≤ c.toNat ∧ c.toNat ≤ 57) (hb : ∀ c ∈ b, 48 ≤ c.toNat ∧ c.toNat ≤ 57) : plain (a ++ 45 :: b) := by
  intro c hc
  rcases List.mem_append.1 hc with hc | hc
  · have := ha c hc; omega
  · rcases List.mem_cons.1 hc with rfl | hc
    · decide
    · have := hb c hc; omega
/-- 'x-y' -/
theorem el_two {u v : Nat} (hu : u < 1000000000000000) (hv : v < 1000000000000000) (huv : u ≤ v) (len : Int) : elF (bs (Lib.itoa (u : Int) ++ 45 :: Lib.itoa (v : Int))) len = some ((u : Int), min len ((v : Int) + 1)) := by
  unfold elF
  rw [cut_plain (itoa_no45 u)]
  have h1 := itoa_pos u hu
  have h2 := itoa_pos v hv
  rw [if_pos rfl, if_neg (by rw [bs_size]; omega)]
  simp only
  rw [show numF (bs (Lib.itoa (u : Int))) = some u from numF_itoS hu]
  simp only
  rw [if_neg (by rw [bs_size]; omega), show numF (bs (Lib.itoa (v : Int))) = some v from numF_itoS hv]
  simp only
  rw [if_neg (by omega)]
/-- 'x-' -/
theorem el_from {u : Nat} (hu : u < 1000000000000000) (len : Int) : elF (bs (Lib.itoa (u : Int) ++ 45 :: [])) len = some ((u : Int), len) := by
  unfold elF
  rw [cut_plain (itoa_no45 u)]
  have h1 := itoa_pos u hu
  rw [if_pos rfl, if_neg (by rw [bs_size]; omega)]
  simp only
  rw [show numF (bs (Lib.itoa (u : Int))) = some u from numF_itoS hu]
  simp only
  rw [if_pos (by rw [bs_size]; rfl)]
/-- '-x' -/
theorem el_last {u : Nat} (hu : u < 1000000000000000) (len : Int) : elF (bs ([] ++ 45 :: Lib.itoa (u : Int))) len = some (max 0 (len - (u : Int)), len) := by
  unfold elF
  rw [cut_plain (fun c hc => by cases hc)]
  rw [if_pos rfl, if_pos (by rw [bs_size]; rfl)]
  simp only
  rw [show numF (bs (Lib.itoa (u : Int))) = some u from numF_itoS hu]
  rfl
end Go.Proofs.YteamnofooicbeaaDoor
