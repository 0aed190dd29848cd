/- Chapter 09: the reference's Format; 'are' against a list that came in. -/
import Derived.Test.YteamnofooicbeaaDoorRfB
import Derived.Test.YteamnofooicbeaaDoorQuiet
namespace Go.Proofs.YteamnofooicbeaaDoor
open Go.RowKit
/-- the text so far -/
def fS (xs : List (Int × Int)) (k : Nat) : ByteArray := bs (pfxL ++ fmtL (xs.take k))
theorem fS_step {xs : List (Int × Int)} {k : Nat} {p : Int × Int} (h : xs[k]? = some p) : fS xs (k + 1) = (if k = 0 then fS xs k else fS xs k ++ ⟨#[44]⟩) ++ (itoS p.1 ++ ⟨#[45]⟩ ++ itoS (p.2 - 1)) := by
  have e1 : xs.take (k + 1) = xs.take k ++ [p] := by rw [List.take_add_one, h]; rfl
  have e2 : itoS p.1 ++ ⟨#[45]⟩ ++ itoS (p.2 - 1) = bs (elL p) := elS
  rw [e2]
  unfold fS
  rw [e1, fmt_snoc]
  have hk : xs.take k = [] ↔ k = 0 := by
    rw [List.take_eq_nil_iff]
    constructor
    · rintro (h1 | h1)
      · exact h1
      · rw [h1] at h; simp at h
    · exact .inl
  by_cases h0 : k = 0
  · rw [if_pos (hk.2 h0), if_pos h0, itoS_app, hk.2 h0]
    simp [fmtL]
  · rw [if_neg (fun e => h0 (hk.1 e)), if_neg h0]
    show _ = bs _ ++ bs [44] ++ bs _
    rw [itoS_app, itoS_app]
    simp
theorem fS_size {xs : List (Int × Int)} {k : Nat} (hn : xs.length ≤ 300) (h : ∀ j, j < k → ∀ p, xs[j]? = some p → okR p.1 p.2 = true) : (fS xs k).size ≤ 20000 := by
  unfold fS
  rw [bs_size, List.length_append]
  have h1 := fmt_length (xs.take k) (fun p hp => by
    obtain ⟨j, hj⟩ := List.getElem?_of_mem hp
    have hlt := (List.getElem?_eq_some_iff.1 hj).1
    rw [List.length_take] at hlt
    rw [List.getElem?_take_of_lt (by omega)] at hj
    exact h j (by omega) p hj)
  have h2 : (xs.take k).length ≤ 300 := by rw [List.length_take]; omega
  have h3 : pfxL.length = 6 := rfl
  omega
set_option maxRecDepth 100000 in
set_option maxHeartbeats 2000000 in
theorem rformat_any {w : World} {v : Value} {xs : List (Int × Int)} (h : RIn w v xs) (hn : xs.length ≤ 300) :
    Calls Tryd.prog 25 #[v] w fun e w' => ∃ s, e = .returned (.tuple #[.string s, .bool (okL xs)]) ∧ Hid (okL xs = true → s = bs (pfxL ++ fmtL xs)) ∧ Ext w w' := by
  obtain ⟨A, cap, rfl, hcap, hr⟩ := h
  obtain ⟨n, hxn⟩ : ∃ n, xs.length = n := ⟨_, rfl⟩
  have HN := Lib.hid hxn
  rw [hxn] at hn hcap hr ⊢
  have HR := Lib.hid hr
  clear hr hxn
  obtain ⟨OK, hOK⟩ : ∃ b, okL xs = b := ⟨_, rfl⟩
  have HOK := Lib.hid hOK
  rw [hOK]
  clear hOK
  have hfs0 : fS xs 0 = ⟨#[98, 121, 116, 101, 115, 61]⟩ := by
    unfold fS
    rw [List.take_zero]
    rfl
  have HF0 := Lib.hid hfs0
  clear hfs0
  go_enter Tryd.func25, Tryd.ntmps25
  go_wp2_with fail
  go_loopw [4, 8] (fun sv i wr => ∃ k : Nat, k ≤ n ∧ i = .int .i64 k ∧ sv = .string (fS xs k) ∧ Ext w wr ∧ Hid (∀ j, j < k → ∀ p, xs[j]? = some p → okR p.1 p.2 = true)) (fun _ i _ => n - (intOf i).toNat)
  case atStart => exact ⟨0, by omega, rfl, by rw [HF0.out], Ext.refl _, Lib.hid (fun j hj => by omega)⟩
  case round =>
    obtain ⟨k, hk, rfl, rfl, hX, HALL⟩ := hrel
    have hsz := fS_size (k := k) (by rw [HN.out]; exact hn) HALL.out
    obtain ⟨y, hy⟩ : ∃ y, fS xs k = y := ⟨_, rfl⟩
    have HY := Lib.hid hy
    rw [hy] at hsz ⊢
    clear hy
    by_cases hlt : k < n
    · obtain ⟨a, rfl, hg⟩ := HR.out (by omega)
      have hki : (k : Int) < (n : Int) := by omega
      have hk6 : (k : Int) < 301 := by omega
      have hkc : k < cap := by omega
      obtain ⟨⟨f, t⟩, hr⟩ : ∃ r, xs[k]? = some r := ⟨_, List.getElem?_eq_getElem (by rw [HN.out]; exact hlt)⟩
      have c0 := hX.cell (hg k _ hr).1
      have c1 := hX.cell (hg k _ hr).2
      simp only at c0 c1
      have HXK := Lib.hid hr
      have HX := Lib.hid hX
      have HC0 := Lib.hid c0
      have HC1 := Lib.hid c1
      have HPR := Lib.hid (fun W => rproper_any f t W)
      clear hr hg hX
      cases hok : okR f t with
      | false =>
        rw [hok] at HPR
        obtain rfl : OK = false := HOK.out.symm.trans (okL_no HXK.out hok)
        clear hok
        go_wp2_with (go_at_call 49; refine (HPR.out _).mono ?_; rintro e w3 ⟨rfl, hx3⟩)
        go_returns
        exact ⟨⟨#[]⟩, rfl, Lib.hid (fun h => by cases h), HX.out.trans hx3⟩
      | true =>
        rw [hok] at HPR
        have HALL2 : Hid (∀ j, j < k + 1 → ∀ p, xs[j]? = some p → okR p.1 p.2 = true) := Lib.hid (fun j hj p hp => by
          by_cases e : j = k
          · subst e
            rw [HXK.out] at hp
            obtain rfl := Option.some.inj hp
            exact hok
          · exact HALL.out j (by omega) p hp)
        obtain ⟨ok1, ok2, ok3⟩ := okR_parts hok
        have hT0 := fun W => rtext_is (n := f) rfl (by omega) W
        have hT1 := fun W => rtext_is (n := t - 1) rfl (by omega) W
        have hw1 : wrap64 (t - 1) = t - 1 := by unfold wrap64; omega
        have HST := Lib.hid (fS_step HXK.out)
        rw [HY.out] at HST
        simp only at HST
        obtain ⟨s1, hs1⟩ : ∃ s, itoS f = s := ⟨_, rfl⟩
        obtain ⟨s2, hs2⟩ : ∃ s, itoS (t - 1) = s := ⟨_, rfl⟩
        have hz1 : s1.size ≤ 40 := by
          have h1 := (el_facts (p := (f, t)) hok).2.2.1
          rw [← hs1]
          show (bs (Lib.itoa f)).size ≤ 40
          rw [bs_size]
          simp only [elL, List.length_append, List.length_cons] at h1
          omega
        have hz2 : s2.size ≤ 40 := by
          have h1 := (el_facts (p := (f, t)) hok).2.2.1
          rw [← hs2]
          show (bs (Lib.itoa (t - 1))).size ≤ 40
          rw [bs_size]
          simp only [elL, List.length_append, List.length_cons] at h1
          omega
        rw [hs1] at hT0 HST
        rw [hs2] at hT1 HST
        have HT0 := Lib.hid hT0
        have HT1 := Lib.hid hT1
        clear hok hs1 hs2 hT0 hT1
        rcases Nat.eq_zero_or_pos k with h0 | h0
        · have q0 : decide ((0 : Int) < (k : Int)) = false := decide_eq_false (by omega)
          have q0' : decide (0 < k) = false := decide_eq_false (by omega)
          have H0 := Lib.hid h0
          clear h0
          go_upto_region 9 with (go_at_call 49; refine (HPR.out _).mono ?_; rintro e w3 ⟨rfl, hx3⟩)
          have HX3 := Lib.hid (HX.out.trans hx3)
          have d0 : ∀ n : Wd w3, n.val.cell? (a.add (k * 2)) = some (.int .i64 f) := fun n => n.ext.cell (hx3.cell HC0.out)
          have d1 : ∀ n : Wd w3, n.val.cell? ⟨(a.add (k * 2)).block, (a.add (k * 2)).off + 1, none⟩ = some (.int .i64 t) := fun n => n.ext.cell (hx3.cell HC1.out)
          clear hx3 c0 c1
          refine wp_region_wd (by kernel_rfl) (by kernel_rfl) ?_
          repeat (go_big_quiet_step (first
            | (go_at_call_of 17 (Value.int .i64 f); exact Calls.wd_of (HT0.out _))
            | (go_at_call 17; exact Calls.wd_of (HT1.out _))))
          refine wpQuiet_nil ?_
          rintro _ ⟨nq, rfl⟩
          go_wp2_with fail
          go_roundw
          case rel => exact ⟨k + 1, by omega, by go_num, by rw [HST.out]; exact congrArg Value.string (by rw [if_pos H0.out]), HX3.out.trans nq.ext, HALL2⟩
          case measure => simp [intOf]; omega
        · have q0 : decide ((0 : Int) < (k : Int)) = true := decide_eq_true (by omega)
          have q0' : decide (0 < k) = true := decide_eq_true h0
          have h0n := Lib.hid (show ¬ k = 0 by omega)
          go_upto_region 9 with (go_at_call 49; refine (HPR.out _).mono ?_; rintro e w3 ⟨rfl, hx3⟩)
          have HX3 := Lib.hid (HX.out.trans hx3)
          have d0 : ∀ n : Wd w3, n.val.cell? (a.add (k * 2)) = some (.int .i64 f) := fun n => n.ext.cell (hx3.cell HC0.out)
          have d1 : ∀ n : Wd w3, n.val.cell? ⟨(a.add (k * 2)).block, (a.add (k * 2)).off + 1, none⟩ = some (.int .i64 t) := fun n => n.ext.cell (hx3.cell HC1.out)
          clear hx3 c0 c1
          refine wp_region_wd (by kernel_rfl) (by kernel_rfl) ?_
          repeat (go_big_quiet_step (first
            | (go_at_call_of 17 (Value.int .i64 f); exact Calls.wd_of (HT0.out _))
            | (go_at_call 17; exact Calls.wd_of (HT1.out _))))
          refine wpQuiet_nil ?_
          rintro _ ⟨nq, rfl⟩
          go_wp2_with fail
          go_roundw
          case rel => exact ⟨k + 1, by omega, by go_num, by rw [HST.out]; exact congrArg Value.string (by rw [if_neg h0n.out]), HX3.out.trans nq.ext, HALL2⟩
          case measure => simp [intOf]; omega
    · obtain rfl : k = n := by omega
      have hres : OK = decide (0 < k) := by
        rw [← HOK.out]
        have hall : ∀ p ∈ xs, okR p.1 p.2 = true := mem_take_ok HN.out HALL.out
        rcases Nat.eq_zero_or_pos k with h0 | h0
        · rw [List.length_eq_zero_iff.1 (HN.out.trans h0), h0]
          rfl
        · rw [okL_yes (fun e => by rw [e] at HN; have := HN.out; simp at this; omega) hall]
          exact (decide_eq_true (by omega)).symm
      have HRES := Lib.hid hres
      have HX := Lib.hid hX
      clear hres hX
      go_wp2_with fail
      go_returns
      refine ⟨y, by rw [HRES.out]; rfl, Lib.hid (fun _ => by rw [← HY.out]; unfold fS; rw [← HN.out, List.take_length]), HX.out⟩
end Go.Proofs.YteamnofooicbeaaDoor
