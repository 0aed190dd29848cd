/- Chapter 09: the reference's Trim. -/
import Derived.Test.YteamnofooicbeaaDoorRgE
namespace Go.Proofs.YteamnofooicbeaaDoor
open Go.RowKit
def strSz (v : Value) : Nat := match v with | .string x => x.size | _ => 0
def blk (b : UInt8) : Bool := ([32, 9] : List UInt8).contains b
theorem blk_nat (b : UInt8) : blk b = (decide (b.toNat = 32) || decide (b.toNat = 9)) := by
  unfold blk
  rw [Bool.eq_iff_iff]
  simp only [List.contains_cons, List.contains_nil, Bool.or_false, Bool.or_eq_true, beq_iff_eq, decide_eq_true_eq]
  rw [← UInt8.toNat_inj, ← UInt8.toNat_inj]
  rfl
theorem trim_char {l : List UInt8} {i m : Nat} (him : i + m ≤ l.length) (h1 : ∀ j b, j < i → l[j]? = some b → blk b = true) (h2 : ∀ j b, i + m ≤ j → l[j]? = some b → blk b = true)
    (h3 : 0 < m → (∀ b, l[i]? = some b → blk b = false) ∧ ∀ b, l[i + m - 1]? = some b → blk b = false) : Lib.trimS l [32, 9] = (l.drop i).take m := by
  unfold Lib.trimS
  rcases Nat.eq_zero_or_pos m with h0 | h0
  · subst h0
    rw [Lib.trimRightS_take l [32, 9] 0 (Nat.zero_le _) (fun j b _ hb => ?_) (fun b h => absurd h (by omega))]
    · simp [Lib.trimLeftS]
    · rcases Nat.lt_or_ge j i with h | h
      · exact h1 j b h hb
      · exact h2 j b (by omega) hb
  · obtain ⟨h4, h5⟩ := h3 h0
    rw [Lib.trimRightS_take l [32, 9] (i + m) him (fun j b hj hb => h2 j b hj hb) (fun b _ hb => h5 b hb)]
    rw [Lib.trimLeftS_drop (l.take (i + m)) [32, 9] i (by rw [List.length_take]; omega) (fun j b hj hb => ?_) (fun b hb => ?_)]
    · rw [List.drop_take]
      congr 1
      omega
    · rw [List.getElem?_take_of_lt (by omega)] at hb
      exact h1 j b hj hb
    · rw [List.getElem?_take_of_lt (by omega)] at hb
      exact h4 b hb
theorem size_list (x : ByteArray) : x.size = x.toList.length := by rw [Lib.size_eq, ByteArray.toList_eq]
theorem at_list (x : ByteArray) (k : Nat) (h : k < x.size) : x.toList[k]? = some (x[k]'h) := by rw [ByteArray.toList_eq]; exact byt_list x k h
theorem ext_list (x : ByteArray) (a b : Nat) : (x.extract a b).toList = (x.toList.drop a).take (b - a) := by rw [Lib.extract_toList, ByteArray.toList_eq]
set_option maxRecDepth 100000 in
set_option maxHeartbeats 1000000 in
theorem rtrim_any (s : ByteArray) (hs : (s.size : Int) ≤ 9223372036854775807) (w : World) : Calls Tryd.prog 90 #[.string s] w fun e w' => e = .returned (.string (trimF s)) ∧ w = w' := by
  go_enter Tryd.func90, Tryd.ntmps90
  go_upto_block 0 with fail
  go_cut [0] (fun v wx => ∃ x : ByteArray, v = .string x ∧ w = wx ∧ x.size ≤ s.size ∧ Hid (∃ i, i ≤ s.toList.length ∧ x.toList = s.toList.drop i ∧ (∀ j b, j < i → s.toList[j]? = some b → blk b = true) ∧ ∀ b, s.toList[i]? = some b → blk b = false))
  case first =>
   go_wp2_with fail
   go_loopw [0] (fun v wr => ∃ x : ByteArray, v = .string x ∧ w = wr ∧ x.size ≤ s.size ∧ Hid (∃ i, i ≤ s.toList.length ∧ x.toList = s.toList.drop i ∧ ∀ j b, j < i → s.toList[j]? = some b → blk b = true)) (fun v _ => strSz v)
   case atStart => exact ⟨s, rfl, rfl, by omega, Lib.hid ⟨0, by omega, rfl, fun j b h => by omega⟩⟩
   case round =>
     obtain ⟨x, rfl, rfl, hxs, HX⟩ := hrel
     have hcase : (x.size = 0 ∨ (∃ h : 0 < x.size, blk (x[0]'h) = false)) ∨ ∃ h : 0 < x.size, blk (x[0]'h) = true := by
       rcases Nat.eq_zero_or_pos x.size with h | h
       · exact .inl (.inl h)
       · cases hb : blk (x[0]'h) with
         | true => exact .inr ⟨h, hb⟩
         | false => exact .inl (.inr ⟨h, hb⟩)
     rcases hcase with hend | ⟨h0, hb⟩
     · have HEND : Hid (∃ i, i ≤ s.toList.length ∧ x.toList = s.toList.drop i ∧ (∀ j b, j < i → s.toList[j]? = some b → blk b = true) ∧ ∀ b, s.toList[i]? = some b → blk b = false) := Lib.hid (by
         obtain ⟨i, hi, hx, hj⟩ := HX.out
         refine ⟨i, hi, hx, hj, fun b hb' => ?_⟩
         have h3 : x.toList[0]? = some b := by rw [hx, List.getElem?_drop]; exact hb'
         have h4 := (List.getElem?_eq_some_iff.1 h3).1
         rw [← size_list] at h4
         rcases hend with h | ⟨h, hb⟩
         · omega
         · rw [at_list x 0 h] at h3
           cases h3
           exact hb)
       clear HX
       rcases hend with h0 | ⟨h0, hb⟩
       · have h0' : ¬ (0 : Int) < (x.size : Int) := by omega
         clear h0
         go_wp2_with fail
         go_meet
         exact ⟨x, rfl, rfl, hxs, HEND⟩
       · obtain ⟨c, hc⟩ : ∃ c, (x[0]'h0).toNat = c := ⟨_, rfl⟩
         rw [blk_nat, hc] at hb
         have h0' : (0 : Int) < (x.size : Int) := by omega
         have h1' : ((c : Int) == 32) = false := by simp at hb ⊢; omega
         have h2' : ((c : Int) == 9) = false := by simp at hb ⊢; omega
         clear hb
         go_wp2_with fail
         go_meet
         exact ⟨x, rfl, rfl, hxs, HEND⟩
     · obtain ⟨c, hc⟩ : ∃ c, (x[0]'h0).toNat = c := ⟨_, rfl⟩
       have hb2 := hb
       rw [blk_nat, hc] at hb2
       have HNX : Hid (∃ i, i ≤ s.toList.length ∧ (x.extract 1 x.size).toList = s.toList.drop i ∧ ∀ j b, j < i → s.toList[j]? = some b → blk b = true) := Lib.hid (by
         obtain ⟨i, hi, hx, hj⟩ := HX.out
         have hlen := congrArg List.length hx
         rw [← size_list, List.length_drop] at hlen
         refine ⟨i + 1, by omega, ?_, fun j b hji hb' => ?_⟩
         · rw [ext_list, hx, List.drop_drop, List.take_of_length_le (by rw [List.length_drop]; omega)]
         · rcases Nat.lt_or_ge j i with h | h
           · exact hj j b h hb'
           · obtain rfl : j = i := by omega
             have h1 := at_list x 0 h0
             rw [hx, List.getElem?_drop, Nat.add_zero, hb'] at h1
             cases h1
             exact hb)
       have hsz : (x.extract 1 x.size).size = x.size - 1 := by rw [ByteArray.size_extract]; omega
       obtain ⟨y, hy⟩ : ∃ y, x.extract 1 x.size = y := ⟨_, rfl⟩
       rw [hy] at HNX hsz
       have h0' : (0 : Int) < (x.size : Int) := by omega
       have HB2 := Lib.hid hb2
       clear hb hb2 HX
       rcases (show c = 32 ∨ (c ≠ 32 ∧ c = 9) by have := HB2.out; simp at this; omega) with h32 | ⟨h32, h9⟩
       · have h1' : ((c : Int) == 32) = true := by simp; omega
         clear h32
         go_wp2_with fail
         exact ⟨⟨y, rfl, by first | rfl | trivial, by omega, HNX⟩, by show y.size < x.size; omega⟩
       · have h1' : ((c : Int) == 32) = false := by simp; omega
         have h2' : ((c : Int) == 9) = true := by simp; omega
         clear h32 h9
         go_wp2_with fail
         exact ⟨⟨y, rfl, by first | rfl | trivial, by omega, HNX⟩, by show y.size < x.size; omega⟩
  obtain ⟨x, rfl, rfl, hxs, HX⟩ := hcut
  obtain ⟨i, hi, hx, hj, hf⟩ := HX.out
  have HI := Lib.hid (And.intro hi (And.intro hj hf))
  have HX0 := Lib.hid hx
  clear hi hj hf hx HX
  go_wp2_with fail
  go_loopw [0] (fun v wr => ∃ y : ByteArray, v = .string y ∧ w = wr ∧ y.size ≤ s.size ∧ Hid (∃ m, i + m ≤ s.toList.length ∧ y.toList = (s.toList.drop i).take m ∧ ∀ j b, i + m ≤ j → s.toList[j]? = some b → blk b = true)) (fun v _ => strSz v)
  case atStart =>
    refine ⟨x, rfl, rfl, hxs, Lib.hid ⟨s.toList.length - i, by have := HI.out.1; omega, ?_, fun j b h h2 => ?_⟩⟩
    · rw [HX0.out, List.take_of_length_le (by rw [List.length_drop]; omega)]
    · have := (List.getElem?_eq_some_iff.1 h2).1
      have := HI.out.1
      omega
  case round =>
    obtain ⟨y, rfl, rfl, hys, HY⟩ := hrel
    rcases Nat.eq_zero_or_pos y.size with h0 | h0
    · have HF : Hid (trimF s = y) := Lib.hid (by
        obtain ⟨m, hm, hy, hb⟩ := HY.out
        have hl := congrArg List.length hy
        rw [← size_list, List.length_take, List.length_drop] at hl
        refine bs_ext ?_
        unfold trimF
        rw [bs_mk, ← ByteArray.toList_eq, hy]
        exact trim_char hm HI.out.2.1 hb (fun h => by omega))
      have h0' : ¬ (0 : Int) < (y.size : Int) := by omega
      clear h0
      go_wp2_with fail
      go_ret
      exact ⟨by rw [HF.out]; rfl, rfl⟩
    · have hlt : y.size - 1 < y.size := by omega
      obtain ⟨c, hc⟩ : ∃ c, (y[y.size - 1]'hlt).toNat = c := ⟨_, rfl⟩
      have HBK : Hid (blk (y[y.size - 1]'hlt) = (decide (c = 32) || decide (c = 9))) := Lib.hid (by rw [blk_nat, hc])
      have HLA : Hid (∃ m, 0 < m ∧ i + m ≤ s.toList.length ∧ y.toList = (s.toList.drop i).take m ∧ y.size = m ∧ s.toList[i + m - 1]? = some (y[y.size - 1]'hlt) ∧ ∀ j b, i + m ≤ j → s.toList[j]? = some b → blk b = true) := Lib.hid (by
        obtain ⟨m, hm, hy, hb⟩ := HY.out
        have hl := congrArg List.length hy
        rw [← size_list, List.length_take, List.length_drop] at hl
        have hms : y.size = m := by omega
        refine ⟨m, by omega, hm, hy, hms, ?_, hb⟩
        have h1 := at_list y (y.size - 1) hlt
        rw [hy, List.getElem?_take_of_lt (by omega), List.getElem?_drop] at h1
        rw [← h1]
        congr 1
        omega)
      have h0' : (0 : Int) < (y.size : Int) := by omega
      have hw : wrap64 ((y.size : Int) - 1) = (y.size : Int) - 1 := by unfold wrap64; omega
      have hcs : (c = 32 ∨ (c ≠ 32 ∧ c = 9)) ∨ (c ≠ 32 ∧ c ≠ 9) := by omega
      rcases hcs with hcs | ⟨h32, h9⟩
      · have HNX : Hid (∃ m, i + m ≤ s.toList.length ∧ (y.extract 0 (y.size - 1)).toList = (s.toList.drop i).take m ∧ ∀ j b, i + m ≤ j → s.toList[j]? = some b → blk b = true) := Lib.hid (by
          obtain ⟨m, hm0, hm, hy, hms, hla, hb⟩ := HLA.out
          refine ⟨m - 1, by omega, ?_, fun j b hj hb' => ?_⟩
          · rw [ext_list, hy, hms, List.drop_zero, List.take_take]
            congr 1
            omega
          · rcases Nat.lt_or_ge j (i + m) with h | h
            · obtain rfl : j = i + m - 1 := by omega
              rw [hla] at hb'
              cases hb'
              rw [HBK.out]
              simp
              omega
            · exact hb j b h hb')
        have hsz : (y.extract 0 (y.size - 1)).size = y.size - 1 := by rw [ByteArray.size_extract]; omega
        obtain ⟨z, hz⟩ : ∃ z, y.extract 0 (y.size - 1) = z := ⟨_, rfl⟩
        rw [hz] at HNX hsz
        clear HY HLA HBK
        rcases hcs with h32 | ⟨h32, h9⟩
        · have h1' : ((c : Int) == 32) = true := by simp; omega
          clear h32
          go_wp2_with fail
          exact ⟨⟨z, rfl, by first | rfl | trivial, by omega, HNX⟩, by show z.size < y.size; omega⟩
        · have h1' : ((c : Int) == 32) = false := by simp; omega
          have h2' : ((c : Int) == 9) = true := by simp; omega
          clear h32 h9
          go_wp2_with fail
          exact ⟨⟨z, rfl, by first | rfl | trivial, by omega, HNX⟩, by show z.size < y.size; omega⟩
      · have HF : Hid (trimF s = y) := Lib.hid (by
          obtain ⟨m, hm0, hm, hy, hms, hla, hb⟩ := HLA.out
          refine bs_ext ?_
          unfold trimF
          rw [bs_mk, ← ByteArray.toList_eq, hy]
          refine trim_char hm HI.out.2.1 hb (fun _ => ⟨HI.out.2.2, fun b hb' => ?_⟩)
          rw [hla] at hb'
          cases hb'
          rw [HBK.out]
          simp
          omega)
        have h1' : ((c : Int) == 32) = false := by simp; omega
        have h2' : ((c : Int) == 9) = false := by simp; omega
        clear h32 h9 HY HLA HBK
        go_wp2_with fail
        go_ret
        exact ⟨by rw [HF.out]; rfl, rfl⟩
end Go.Proofs.YteamnofooicbeaaDoor
