/- Chapter 09: Format of the program; 'are' against a list that came in. -/
import Derived.Test.YteamnofooicbeaaDoorRfA
import Derived.Test.YteamnofooicbeaaDoorRmE
import Derived.Handy
namespace Go.Proofs.YteamnofooicbeaaDoor
open Go.RowKit
def okL (xs : List (Int × Int)) : Bool := !xs.isEmpty && xs.all fun p => okR p.1 p.2
theorem okL_true {xs : List (Int × Int)} (h : okL xs = true) : xs ≠ [] ∧ ∀ p ∈ xs, okR p.1 p.2 = true := by
  unfold okL at h
  rw [Bool.and_eq_true, List.all_eq_true] at h
  refine ⟨fun e => ?_, h.2⟩
  rw [e] at h
  exact absurd h.1 (by simp)
theorem okL_yes {xs : List (Int × Int)} (h0 : xs ≠ []) (h : ∀ p ∈ xs, okR p.1 p.2 = true) : okL xs = true := by
  unfold okL
  rw [Bool.and_eq_true, List.all_eq_true]
  refine ⟨?_, h⟩
  cases xs with
  | nil => exact absurd rfl h0
  | cons _ _ => rfl
theorem okL_no {xs : List (Int × Int)} {k : Nat} {p : Int × Int} (hk : xs[k]? = some p) (h : okR p.1 p.2 = false) : okL xs = false := by
  rw [← Bool.not_eq_true]
  intro h2
  have := (okL_true h2).2 p (List.mem_of_getElem? hk)
  rw [h] at this
  cases this
theorem mem_take_ok {xs : List (Int × Int)} {n : Nat} (hn : xs.length = n) (h : ∀ j, j < n → ∀ p, xs[j]? = some p → okR p.1 p.2 = true) : ∀ p ∈ xs, okR p.1 p.2 = true := by
  intro p hp
  obtain ⟨j, hj⟩ := List.getElem?_of_mem hp
  exact h j (by rw [← hn]; exact (List.getElem?_eq_some_iff.1 hj).1) p hj
theorem StrOwn.ext {w w' : World} {B : Nat} {v : Value} {xs : List ByteArray} (h : StrOwn w B v xs) (hx : Ext w w') : StrOwn w' B v xs := own_kept h hx
theorem join_own {w : World} {B : Nat} {v : Value} {ls : List (List UInt8)} (h : StrOwn w B v (ls.map bs)) (h0 : 0 < ls.length) (hn : ls.length ≤ 1000) (hl : (Lib.join ls [44]).length ≤ 100000) :
    Calls Tryd.prog 55 #[v, .string ⟨#[44]⟩] w fun e w' => e = .returned (.string (bs (Lib.join ls [44]))) ∧ Ext w w' := by
  have hat := h.at
  rcases h.2 with ⟨_, e⟩ | ⟨g, cap, cur, rfl, hb, hh, hcap, _⟩
  · rw [List.length_map] at e; omega
  · have hlt : g < w.heap.size := (Array.getElem?_eq_some_iff.1 hh).1
    have hc : ∀ (j : Nat) x, (ls.map bs)[j]? = some x → w.cell? ⟨g, 0 + j, none⟩ = some (.string x) := by
      intro j x hx
      rcases hat with ⟨h1, _⟩ | ⟨g', cap', h1, h2⟩
      · cases h1
      · cases h1
        have := h2 j x hx 0 _ rfl
        rw [show j * 1 + 0 = 0 + j by omega] at this
        exact this
    have e : (ls.map bs).map (·.data.toList) = ls := by
      rw [List.map_map]
      exact List.map_id'' (fun x => rfl) ls
    have hcall := Any.strings_Join Tryd.lays156 Tryd.Builder_Extra_156 g 0 cap (ls.map bs) ⟨#[44]⟩ w hc hlt (by rw [List.length_map]; omega) hcap (by rw [e]; exact Nat.le_trans hl (by omega))
    rw [e] at hcall
    exact hcall
theorem elS {f t : Int} : itoS f ++ ⟨#[45]⟩ ++ itoS (t - 1) = bs (elL (f, t)) := by
  show bs (Lib.itoa f) ++ bs [45] ++ bs (Lib.itoa (t - 1)) = _
  rw [itoS_app, itoS_app]
  simp [elL]
def sL (xs : List (Int × Int)) (k : Nat) : List ByteArray := ((xs.take k).map elL).map bs
theorem sL_length (xs : List (Int × Int)) (k : Nat) : (sL xs k).length = (xs.take k).length := by simp [sL]
theorem sL_step {xs : List (Int × Int)} {k : Nat} {p : Int × Int} (h : xs[k]? = some p) : sL xs (k + 1) = sL xs k ++ [bs (elL p)] := by
  unfold sL
  rw [List.take_add_one, h]
  simp
set_option maxRecDepth 100000 in
set_option maxHeartbeats 2000000 in
theorem format_any {w : World} {v : Value} {xs : List (Int × Int)} (h : RIn w v xs) (hn : xs.length ≤ 300) (hP : PowT w) :
    Calls Tryd.prog 23 #[v] w fun e w' => e = .returned (.tuple #[.string (if okL xs = true then bs (pfxL ++ fmtL xs) else ⟨#[]⟩), if okL xs = true then .nilIface else errV 2]) ∧ Ext w w' := by
  obtain ⟨A, cap, rfl, hcap, hr⟩ := h
  obtain ⟨n, hxn⟩ : ∃ n, xs.length = n := ⟨_, rfl⟩
  have HN := Lib.hid hxn
  rw [hxn] at hn hcap hr ⊢
  have HR := Lib.hid hr
  have HP := Lib.hid hP
  clear hr hxn hP
  rcases Nat.eq_zero_or_pos n with h0 | h0
  · obtain ⟨b, hb⟩ : ∃ b, okL xs = b := ⟨_, rfl⟩
    have hbf : b = false := by
      rw [← hb, List.length_eq_zero_iff.1 (HN.out.trans h0)]
      rfl
    subst hbf
    rw [hb]
    subst h0
    clear hb
    go_enter Tryd.func23, Tryd.ntmps23
    go_wp2_with fail
    go_returns
    exact ⟨rfl, Ext.refl _⟩
  · have h0i : ((n : Int) == 0) = false := by simp; omega
    have h0n : ¬ n = 0 := by omega
    obtain ⟨OK, hOK⟩ : ∃ b, okL xs = b := ⟨_, rfl⟩
    have HOK := Lib.hid hOK
    rw [hOK]
    clear hOK
    go_enter Tryd.func23, Tryd.ntmps23
    go_wp2_with fail
    go_loopw [4, 13] (fun ov i wr => ∃ k : Nat, k ≤ n ∧ i = .int .i64 k ∧ StrOwn wr w.heap.size ov (sL xs k) ∧ Ext w wr ∧ Hid (∀ j, j < k → ∀ p, xs[j]? = some p → okR p.1 p.2 = true)) (fun _ i _ => n - (intOf i).toNat)
    case atStart => exact ⟨0, by omega, rfl, StrOwn.nil _ _, Ext.refl _, Lib.hid (fun j hj => by omega)⟩
    case round =>
      obtain ⟨k, hk, rfl, hown, hX, HALL⟩ := hrel
      by_cases hlt : k < n
      · obtain ⟨a, rfl, hg⟩ := HR.out h0
        have hki : (k : Int) < (n : Int) := by omega
        have hk6 : (k : Int) < 301 := by omega
        have hkc : k < cap := by omega
        obtain ⟨⟨f, t⟩, hr⟩ : ∃ r, xs[k]? = some r := ⟨_, List.getElem?_eq_getElem (by rw [HN.out]; exact hlt)⟩
        have c0 := hX.cell (hg k _ hr).1
        have c1 := hX.cell (hg k _ hr).2
        simp only at c0 c1
        have HXK := Lib.hid hr
        have HO := Lib.hid hown
        have HX := Lib.hid hX
        have HLN := Lib.hid (show (sL xs k).length ≤ 300 by rw [sL_length, List.length_take]; omega)
        have HTT := Lib.hid (sL_step hr)
        have HPR := Lib.hid (fun W => proper_any f t W)
        clear hr hg hown
        go_upto_region 7 with fail
        obtain ⟨wa, hwa⟩ : ∃ wa, wa = wr.alloc (.cells #[.int .i64 f, .int .i64 t] 37) := ⟨_, rfl⟩
        have XA : Ext wr wa := by rw [hwa]; exact (Ext.refl wr).alloc _
        have HB : Hid (RowB wa wr.heap.size 37 [.int .i64 f, .int .i64 t]) := Lib.hid (by rw [hwa]; exact row_laid _ _ _)
        rw [← hwa]
        clear hwa c0 c1
        obtain ⟨rb, hrb⟩ : ∃ q, wr.heap.size = q := ⟨_, rfl⟩
        rw [hrb] at HB ⊢
        clear hrb
        have HXA := Lib.hid XA
        clear XA
        have b0 := HB.out.cell (j := 0) rfl
        have b1 := HB.out.cell (j := 1) rfl
        cases hok : okR f t with
        | false =>
          rw [hok] at HPR
          obtain rfl : OK = false := HOK.out.symm.trans (okL_no HXK.out hok)
          clear hok hX
          go_wp2_with (go_at_call 46; refine (HPR.out _).mono ?_; rintro e w3 ⟨rfl, hx3⟩)
          go_returns
          exact ⟨rfl, (HX.out.trans HXA.out).trans hx3⟩
        | true =>
          rw [hok] at HPR
          have HALL2 : Hid (∀ j, j < k + 1 → ∀ p, xs[j]? = some p → okR p.1 p.2 = true) := Lib.hid (fun j hj p hp => by
            by_cases e : j = k
            · subst e
              rw [HXK.out] at hp
              obtain rfl := Option.some.inj hp
              exact hok
            · exact HALL.out j (by omega) p hp)
          have HTX := Lib.hid (fun W (hW : Ext w W) => rangetext_any (okR_parts hok) W (HP.out.ext hW))
          obtain ⟨z, hz⟩ : ∃ z, itoS f ++ ⟨#[45]⟩ ++ itoS (t - 1) = z := ⟨_, rfl⟩
          have HZ := Lib.hid (elS.symm.trans hz)
          rw [hz] at HTX
          rw [show bs (elL (f, t)) = z from HZ.out] at HTT
          clear hok hX hz
          go_upto_region 9 with (go_at_call 46; refine (HPR.out _).mono ?_; rintro e w3 ⟨rfl, hx3⟩)
          have HB3 := Lib.hid (HB.out.ext hx3)
          have HX3 := Lib.hid ((HX.out.trans HXA.out).trans hx3)
          have HO3 := Lib.hid (HO.out.ext (HXA.out.trans hx3))
          clear hx3 b0 b1
          have b0 := HB3.out.cell (j := 0) rfl
          have b1 := HB3.out.cell (j := 1) rfl
          go_wp2_with fail
          refine (HTX.out _ HX3.out).mono ?_
          rintro e w4 ⟨rfl, hx4⟩
          have hsz := (HX3.out.trans hx4).size
          have HX4 := Lib.hid (HX3.out.trans hx4)
          have HO4 := Lib.hid (HO3.out.ext hx4)
          clear hx4 b0 b1
          go_wp2_with (at_builtin; refine wpList_append_str w4 rfl (.tmp 21) (.tmp 24) rfl w.heap.size z HO4.out rfl rfl rfl (by have := HLN.out; omega) hsz ?_)
          intro v' w5 hown' hb _
          rw [← HTT.out] at hown'
          go_wp2_with fail
          go_roundw
          case rel => exact ⟨k + 1, by omega, by go_num, hown', Below.trans HX4.out hb, HALL2⟩
          case measure => simp [intOf]; omega
      · obtain rfl : k = n := by omega
        unfold sL at hown
        rw [← HN.out, List.take_length] at hown
        have hall : ∀ p ∈ xs, okR p.1 p.2 = true := mem_take_ok HN.out HALL.out
        obtain rfl : OK = true := HOK.out.symm.trans (okL_yes (fun e => by rw [e] at HN; exact h0n HN.out.symm) hall)
        have HJ := Lib.hid (join_own hown (by rw [List.length_map, HN.out]; exact h0) (by rw [List.length_map, HN.out]; omega) (by rw [fmt_join]; exact Nat.le_trans (fmt_length xs hall) (by rw [HN.out]; omega)))
        obtain ⟨jj, hjj⟩ : ∃ j, bs (Lib.join (xs.map elL) [44]) = j := ⟨_, rfl⟩
        have HJJ := Lib.hid hjj
        have hjs : jj.size ≤ 20000 := by
          rw [← hjj, bs_size, fmt_join]
          exact Nat.le_trans (fmt_length xs hall) (by rw [HN.out]; omega)
        rw [hjj] at HJ
        have HX := Lib.hid hX
        clear hown hall hjj hX
        go_wp2_with (go_at_call 55; refine HJ.out.mono ?_; rintro e w3 ⟨rfl, hx3⟩)
        go_returns
        refine ⟨?_, HX.out.trans hx3⟩
        rw [← HJJ.out, fmt_join]
        show Ending.returned (.tuple #[.string (bs pfxL ++ bs (fmtL xs)), .nilIface]) = _
        rw [itoS_app]
end Go.Proofs.YteamnofooicbeaaDoor
