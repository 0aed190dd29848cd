/- Walks of the reference of chapter 04: texts. -/
import Derived.Test.YtdbheaapeemlmaaDoorRef04A
import Derived.Test.YtdbheaapeemlmaaDoorHttpC
namespace Go.Proofs.YtdbheaapeemlmaaDoor
open Go.RowKit

theorem strOfNums_app (xs ys : List Int) : strOfNums xs ++ strOfNums ys = strOfNums (xs ++ ys) := by
  unfold strOfNums
  rw [ByteArray.mk_append_mk, List.map_append]
theorem strOfNums_nil : strOfNums [] = ⟨#[]⟩ := rfl

/-- 'string([]byte{x})' -/
theorem run_lit_byte (k : Nat) (x : Int) (w : World) (hk : w.heap.size = k) : (convert 45 9 (.slice (some ⟨k, 0, none⟩) 1 1)).run Tryd.prog (w.alloc (.cells #[.int .u8 x] 5)) = .ok (.string (strOfNums [x])) (w.alloc (.cells #[.int .u8 x] 5)) := by
  subst hk
  exact run_lit_bytes 45 5 9 Tryd.underlying45 Tryd.underlying5 Tryd.underlying9 [x] w

set_option maxHeartbeats 1000000 in
theorem rdigits2 (n : Int) (w : World) (h0 : 0 ≤ n) (h1 : n ≤ 99) :
    Calls Tryd.prog 27 #[.int .i64 n, .int .i64 2] w fun e w' => e = .returned (.string (twoS n)) ∧ Ext w w' := by
  have c0 := run_lit_byte w.heap.size (48 + n % 10) w rfl
  have c1 := run_lit_byte (w.heap.size + 1) (48 + n / 10 % 10) (w.alloc (.cells #[.int .u8 (48 + n % 10)] 5)) (by simp)
  go_enter Tryd.func27, Tryd.ntmps27
  go_wp2_with fail
  refine wp_loop_rounds 3 ?_
  repeat any_goals (rw [rounds_succ]; go_wp2_with fail)
  go_ret
  refine ⟨ret_str ?_, ((Ext.refl w).alloc _).alloc _⟩
  rw [← strOfNums_nil, strOfNums_app, strOfNums_app]
  unfold twoS
  rw [show n / 10 % 10 = n / 10 from by omega]
  rfl

set_option maxHeartbeats 1000000 in
theorem rdigits4 (n : Int) (w : World) (h0 : 0 ≤ n) (h1 : n ≤ 9999) :
    Calls Tryd.prog 27 #[.int .i64 n, .int .i64 4] w fun e w' => e = .returned (.string (twoS (n / 100) ++ twoS (n % 100))) ∧ Ext w w' := by
  have c0 := fun x => run_lit_byte w.heap.size x w rfl
  have c1 := fun x C => run_lit_byte (w.heap.size + 1) x (w.alloc (.cells C 5)) (by simp)
  have c2 := fun x C D => run_lit_byte (w.heap.size + 1 + 1) x ((w.alloc (.cells C 5)).alloc (.cells D 5)) (by simp)
  have c3 := fun x C D E => run_lit_byte (w.heap.size + 1 + 1 + 1) x (((w.alloc (.cells C 5)).alloc (.cells D 5)).alloc (.cells E 5)) (by simp)
  go_enter Tryd.func27, Tryd.ntmps27
  go_wp2_with fail
  refine wp_loop_rounds 5 ?_
  repeat any_goals (rw [rounds_succ]; go_wp2_with fail)
  go_ret
  refine ⟨ret_str ?_, ((((Ext.refl w).alloc _).alloc _).alloc _).alloc _⟩
  rw [← strOfNums_nil, strOfNums_app, strOfNums_app, strOfNums_app, strOfNums_app]
  unfold twoS
  rw [strOfNums_app]
  simp only [List.cons_append, List.nil_append]
  congr 1
  simp only [List.cons.injEq, and_true]
  omega

/-- the number of two or four digits, by the reference -/
def num4 (t : ByteArray) : Int := if h : t.size = 4 then (if (0 : Int) ≤ num2 (t[0]'(by omega)) (t[1]'(by omega)) ∧ (0 : Int) ≤ num2 (t[2]'(by omega)) (t[3]'(by omega)) then (100 : Int) * num2 (t[0]'(by omega)) (t[1]'(by omega)) + num2 (t[2]'(by omega)) (t[3]'(by omega)) else -1) else 0

set_option maxHeartbeats 2000000 in
theorem rnumber2 (t : ByteArray) (w : World) (hs : t.size = 2) :
    Calls Tryd.prog 33 #[.string t] w fun e w' => e = .returned (.int .i64 (numS t)) ∧ Ext w w' := by
  have hn : numS t = num2 (t[0]'(by omega)) (t[1]'(by omega)) := by unfold numS; rw [dif_pos hs]
  have HN := Lib.hid hn
  clear hn
  go_enter Tryd.func33, Tryd.ntmps33
  go_wp2_with fail
  refine wp_loop_rounds 3 ?_
  repeat any_goals (rw [rounds_succ]; go_wp2_with fail)
  all_goals go_ret
  all_goals refine ⟨ret_int ?_, Ext.refl w⟩
  all_goals rw [HN.out]; unfold num2
  all_goals first | (rw [if_pos (by omega)]) | (rw [if_neg (by omega)])

theorem num4_good {t : ByteArray} (h : t.size = 4) (a : (48 : Int) ≤ ((t[0]'(by omega)).toNat : Int) ∧ ((t[0]'(by omega)).toNat : Int) ≤ 57) (b : (48 : Int) ≤ ((t[1]'(by omega)).toNat : Int) ∧ ((t[1]'(by omega)).toNat : Int) ≤ 57)
    (c : (48 : Int) ≤ ((t[2]'(by omega)).toNat : Int) ∧ ((t[2]'(by omega)).toNat : Int) ≤ 57) (d : (48 : Int) ≤ ((t[3]'(by omega)).toNat : Int) ∧ ((t[3]'(by omega)).toNat : Int) ≤ 57) :
    num4 t = (10 : Int) * (10 * (10 * (((t[0]'(by omega)).toNat : Int) - 48) + (((t[1]'(by omega)).toNat : Int) - 48)) + (((t[2]'(by omega)).toNat : Int) - 48)) + (((t[3]'(by omega)).toNat : Int) - 48) := by
  unfold num4 num2
  rw [dif_pos h, if_pos (show _ ∧ _ ∧ _ ∧ _ from ⟨a.1, a.2, b.1, b.2⟩), if_pos (show _ ∧ _ ∧ _ ∧ _ from ⟨c.1, c.2, d.1, d.2⟩), if_pos (by omega)]
  omega
theorem num4_bad {t : ByteArray} (h : t.size = 4) (a : ((t[0]'(by omega)).toNat : Int) < (48 : Int) ∨ 57 < ((t[0]'(by omega)).toNat : Int) ∨ ((t[1]'(by omega)).toNat : Int) < (48 : Int) ∨ 57 < ((t[1]'(by omega)).toNat : Int)
    ∨ ((t[2]'(by omega)).toNat : Int) < (48 : Int) ∨ 57 < ((t[2]'(by omega)).toNat : Int) ∨ ((t[3]'(by omega)).toNat : Int) < (48 : Int) ∨ 57 < ((t[3]'(by omega)).toNat : Int)) : num4 t = -1 := by
  unfold num4
  rw [dif_pos h]
  refine if_neg ?_
  rintro ⟨g1, g2⟩
  unfold num2 at g1 g2
  split at g1
  · split at g2
    · omega
    · omega
  · omega

set_option maxHeartbeats 2000000 in
theorem rnumber4 (t : ByteArray) (w : World) (hs : t.size = 4) :
    Calls Tryd.prog 33 #[.string t] w fun e w' => e = .returned (.int .i64 (num4 t)) ∧ Ext w w' := by
  have HG := Lib.hid (num4_good hs)
  have HB := Lib.hid (num4_bad hs)
  go_enter Tryd.func33, Tryd.ntmps33
  go_wp2_with fail
  refine wp_loop_rounds 5 ?_
  repeat any_goals (rw [rounds_succ]; go_wp2_with fail)
  all_goals go_ret
  all_goals refine ⟨ret_int ?_, Ext.refl w⟩
  all_goals first | exact (HB.out (by omega)).symm | exact (HG.out ⟨by omega, by omega⟩ ⟨by omega, by omega⟩ ⟨by omega, by omega⟩ ⟨by omega, by omega⟩).symm

theorem num4_eq (s : ByteArray) (i : Nat) (h : i + 4 ≤ s.size) : num4 (s.extract i (i + 4)) = if (0 : Int) ≤ numS (s.extract i (i + 2)) ∧ (0 : Int) ≤ numS (s.extract (i + 2) (i + 4)) then (100 : Int) * numS (s.extract i (i + 2)) + numS (s.extract (i + 2) (i + 4)) else -1 := by
  have e4 : (s.extract i (i + 4)).size = 4 := by rw [ByteArray.size_extract]; omega
  have e2 : (s.extract i (i + 2)).size = 2 := by rw [ByteArray.size_extract]; omega
  have e3 : (s.extract (i + 2) (i + 4)).size = 2 := by rw [ByteArray.size_extract]; omega
  unfold num4 numS
  rw [dif_pos e4, dif_pos e2, dif_pos e3]
  simp only [ByteArray.getElem_extract, Nat.add_zero, Nat.add_assoc, Nat.reduceAdd]

end Go.Proofs.YtdbheaapeemlmaaDoor
