/- Chapter 09: what a Content-Range field reads as. -/
import Derived.Test.YteamnofooicbeaaDoorRgU
namespace Go.Proofs.YteamnofooicbeaaDoor
open Go.RowKit Go.Sort
theorem cut_sep {a b : List UInt8} {c : UInt8} (ha : ∀ x ∈ a, x ≠ c) : cutF (bs (a ++ c :: b)) c = (bs a, bs b, true) := by
  have hs : a.length < (bs (a ++ c :: b)).size := by rw [bs_size]; simp
  have hat : ∀ j, (h : j < (bs (a ++ c :: b)).size) → (a ++ c :: b)[j]? = some ((bs (a ++ c :: b))[j]'h) := fun j h => by
    have := at_list (bs (a ++ c :: b)) j h
    rwa [bs_mk] at this
  rw [cutF_at (i := a.length) hs (by have := hat _ hs; simpa using this.symm) (fun j h hj e => by
    have h1 := hat j h
    rw [List.getElem?_append_left hj] at h1
    exact ha _ (List.mem_of_getElem? h1) e)]
  refine Prod.ext ?_ (Prod.ext ?_ rfl)
  · refine bs_ext ?_
    rw [ext_list, bs_mk, bs_mk]
    simp
  · refine bs_ext ?_
    simp only
    rw [ext_list, bs_mk, bs_mk, bs_size]
    rw [show (a ++ c :: b).drop (a.length + 1) = b by rw [List.drop_append]; simp, List.take_of_length_le (by simp; omega)]
def cpL : List UInt8 := [98, 121, 116, 101, 115, 32]
theorem crS_list {f t len : Int} : crS f t len = bs (cpL ++ (Lib.itoa f ++ 45 :: (Lib.itoa (t - 1) ++ 47 :: Lib.itoa len))) := by
  unfold crS
  show bs cpL ++ (bs (Lib.itoa f) ++ bs [45] ++ bs (Lib.itoa (t - 1))) ++ bs [47] ++ bs (Lib.itoa len) = _
  rw [itoS_app, itoS_app, itoS_app, itoS_app, itoS_app]
  simp [List.append_assoc]
theorem itoa_dig {n : Int} (h : 0 ≤ n) : ∀ c ∈ Lib.itoa n, 48 ≤ c.toNat ∧ c.toNat ≤ 57 := by
  obtain ⟨u, rfl⟩ := Int.eq_ofNat_of_zero_le h
  exact itoa_digs u
theorem numF_int {n : Int} (h : 0 ≤ n) (h2 : n ≤ 999999999999999) : numF (bs (Lib.itoa n)) = some n.toNat := by
  obtain ⟨u, rfl⟩ := Int.eq_ofNat_of_zero_le h
  exact numF_itoS (u := u) (by omega)
/-- the field's three numbers by the program's road: first '/', then '-' -/
theorem cr_prog {f t len : Int} (h : okC f t len = true) :
    cutF (bs (Lib.itoa f ++ 45 :: (Lib.itoa (t - 1) ++ 47 :: Lib.itoa len))) 47 = (bs (Lib.itoa f ++ 45 :: Lib.itoa (t - 1)), bs (Lib.itoa len), true) ∧
    cutF (bs (Lib.itoa f ++ 45 :: Lib.itoa (t - 1))) 45 = (bs (Lib.itoa f), bs (Lib.itoa (t - 1)), true) := by
  obtain ⟨h1, h2, h3, -⟩ := okC_parts h
  constructor
  · have e : Lib.itoa f ++ 45 :: (Lib.itoa (t - 1) ++ 47 :: Lib.itoa len) = (Lib.itoa f ++ 45 :: Lib.itoa (t - 1)) ++ 47 :: Lib.itoa len := by simp [List.append_assoc]
    rw [e]
    refine cut_sep (fun x hx e => ?_)
    subst e
    rcases List.mem_append.1 hx with hx | hx
    · have := itoa_dig h1.1 _ hx; revert this; decide
    · rcases List.mem_cons.1 hx with hx | hx
      · cases hx
      · have := itoa_dig (n := t - 1) (by omega) _ hx; revert this; decide
  · refine cut_sep (fun x hx e => ?_)
    subst e
    have := itoa_dig h1.1 _ hx; revert this; decide
/-- .. and by the reference's: first '-', then '/' -/
theorem cr_ref {f t len : Int} (h : okC f t len = true) :
    cutF (bs (Lib.itoa f ++ 45 :: (Lib.itoa (t - 1) ++ 47 :: Lib.itoa len))) 45 = (bs (Lib.itoa f), bs (Lib.itoa (t - 1) ++ 47 :: Lib.itoa len), true) ∧
    cutF (bs (Lib.itoa (t - 1) ++ 47 :: Lib.itoa len)) 47 = (bs (Lib.itoa (t - 1)), bs (Lib.itoa len), true) := by
  obtain ⟨h1, h2, h3, -⟩ := okC_parts h
  constructor
  · refine cut_sep (fun x hx e => ?_)
    subst e
    have := itoa_dig h1.1 _ hx; revert this; decide
  · refine cut_sep (fun x hx e => ?_)
    subst e
    have := itoa_dig (n := t - 1) (by omega) _ hx; revert this; decide
theorem cr_nums {f t len : Int} (h : okC f t len = true) : numF (bs (Lib.itoa f)) = some f.toNat ∧ numF (bs (Lib.itoa (t - 1))) = some (t - 1).toNat ∧ numF (bs (Lib.itoa len)) = some len.toNat := by
  obtain ⟨h1, h2, h3, -⟩ := okC_parts h
  exact ⟨numF_int h1.1 (by omega), numF_int (by omega) (by omega), numF_int (by omega) h3⟩
def cpfx (s : ByteArray) : Bool := Lib.hasPrefix s.data.toList cpL
theorem cpfx_app (l : List UInt8) : cpfx (bs (cpL ++ l)) = true := by
  show cpL.isPrefixOf (cpL ++ l) = true
  rw [List.isPrefixOf_iff_prefix]
  exact List.prefix_append _ _
theorem crest_app (l : List UInt8) : (bs (cpL ++ l)).extract 6 (bs (cpL ++ l)).size = bs l := by
  refine bs_ext ?_
  rw [ext_list, bs_mk, bs_mk, bs_size, show (cpL ++ l).drop 6 = l from rfl, List.take_of_length_le]
  simp [cpL]
end Go.Proofs.YteamnofooicbeaaDoor
