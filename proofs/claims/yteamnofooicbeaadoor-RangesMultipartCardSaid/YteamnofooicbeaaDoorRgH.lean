/- Chapter 09: the parts of a list outside of quotes. -/
import Derived.Test.YteamnofooicbeaaDoorRgG
namespace Go.Proofs.YteamnofooicbeaaDoor
open Go.RowKit
/-- what is still to come of the parts: at byte i, the present part begun at fr, q: in quotes -/
def scn (s : ByteArray) (i fr : Nat) (q : Bool) : Option (List ByteArray) :=
  if _h : i < s.size then
    if q = true ∧ byt s i = 92 then scn s (i + 2) fr q
    else if byt s i = 34 then scn s (i + 1) fr (!q)
    else if q = false ∧ byt s i = 44 then (scn s (i + 1) (i + 1) false).map (trimF (s.extract fr i) :: ·)
    else scn s (i + 1) fr q
  else if q = true then none else some [trimF (s.extract fr s.size)]
termination_by s.size - i
def partsF (s : ByteArray) : Option (List ByteArray) := if cleanF s = true then scn s 0 0 false else none
theorem scn_end {s : ByteArray} {i fr : Nat} {q : Bool} (h : ¬ i < s.size) : scn s i fr q = if q = true then none else some [trimF (s.extract fr s.size)] := by
  rw [scn, dif_neg h]
theorem scn_esc {s : ByteArray} {i fr : Nat} (h : i < s.size) (hc : byt s i = 92) : scn s i fr true = scn s (i + 2) fr true := by
  rw [scn, dif_pos h, if_pos ⟨rfl, hc⟩]
theorem scn_quo {s : ByteArray} {i fr : Nat} {q : Bool} (h : i < s.size) (hc : byt s i = 34) : scn s i fr q = scn s (i + 1) fr (!q) := by
  rw [scn, dif_pos h, if_neg (fun hh => by omega), if_pos hc]
theorem scn_sep {s : ByteArray} {i fr : Nat} (h : i < s.size) (hc : byt s i = 44) : scn s i fr false = (scn s (i + 1) (i + 1) false).map (trimF (s.extract fr i) :: ·) := by
  rw [scn, dif_pos h, if_neg (fun hh => by omega), if_neg (by omega), if_pos ⟨rfl, hc⟩]
theorem scn_on {s : ByteArray} {i fr : Nat} {q : Bool} (h : i < s.size) (h1 : ¬ (q = true ∧ byt s i = 92)) (h2 : byt s i ≠ 34) (h3 : ¬ (q = false ∧ byt s i = 44)) : scn s i fr q = scn s (i + 1) fr q := by
  rw [scn, dif_pos h, if_neg h1, if_neg h2, if_neg h3]
/-- what holds between two bytes -/
structure PtAt (w wr : World) (B : Nat) (s : ByteArray) (k fr : Nat) (q : Bool) (v : Value) (out : List ByteArray) : Prop where
  x : Ext w wr
  o : StrOwn wr B v out
  n : out.length ≤ k
  t : scn s 0 0 false = (scn s k fr q).map (out ++ ·)
theorem Ext.grown' {w w' : World} (h : Ext w w') (o : Option Nat) : w.grownBy w' o := ⟨Below.os h, Below.tape h, Below.output h, h.size, fun i hi _ => Below.block h i hi⟩
theorem PtAt.on {w wr w' : World} {B : Nat} {s : ByteArray} {k fr k' : Nat} {q q' : Bool} {v : Value} {out : List ByteArray} (h : PtAt w wr B s k fr q v out) (hx : Ext wr w') (hk : k ≤ k') (e : scn s k fr q = scn s k' fr q') : PtAt w w' B s k' fr q' v out :=
  ⟨h.x.trans hx, h.o.kept (hx.grown' none) (fun k e => by cases e), Nat.le_trans h.n hk, by rw [h.t, e]⟩
theorem PtAt.put {w wr : World} {B : Nat} {s : ByteArray} {k fr : Nat} {v v' : Value} {out : List ByteArray} (h : PtAt w wr B s k fr false v out) (hk : k < s.size) (hc : byt s k = 44) {w' : World} (hx : Ext w w') (ho : StrOwn w' B v' (out ++ [trimF (s.extract fr k)])) : PtAt w w' B s (k + 1) (k + 1) false v' (out ++ [trimF (s.extract fr k)]) :=
  ⟨hx, ho, by have := h.n; rw [List.length_append, List.length_singleton]; omega, by
    rw [h.t, scn_sep hk hc]
    cases scn s (k + 1) (k + 1) false with
    | none => rfl
    | some l => simp⟩
set_option maxRecDepth 100000 in
set_option maxHeartbeats 2000000 in
theorem parts_any (s : ByteArray) (hs : s.size ≤ 100000) (w : World) :
    Calls Tryd.prog 72 #[.string s, .int .u8 44] w fun e w' => (∃ v ev, e = .returned (.tuple #[v, ev]) ∧ ((∃ l, partsF s = some l ∧ ev = .nilIface ∧ StrsAt w' v l) ∨ (partsF s = none ∧ ev = errV 2 ∧ v = .slice none 0 0))) ∧ Ext w w' := by
  obtain ⟨cl, hcl⟩ : ∃ b, cleanF s = b := ⟨_, rfl⟩
  have HCL : Hid (Calls Tryd.prog 89 #[.string s] w fun e w' => e = .returned (.bool cl) ∧ w = w') := Lib.hid (by rw [← hcl]; exact clean_any s (by omega) w)
  cases cl with
  | false =>
    have HP : Hid (partsF s = none) := Lib.hid (by unfold partsF; rw [hcl, if_neg (by simp)])
    clear hcl
    go_enter Tryd.func72, Tryd.ntmps72
    go_wp2_with (go_at_call 89; refine HCL.out.mono ?_; rintro e w' ⟨rfl, rfl⟩)
    go_ret2
    exact ⟨⟨_, _, rfl, .inr ⟨HP.out, rfl, rfl⟩⟩, Ext.refl _⟩
  | true =>
    have HP : Hid (partsF s = scn s 0 0 false) := Lib.hid (by unfold partsF; rw [hcl, if_pos rfl])
    clear hcl
    go_enter Tryd.func72, Tryd.ntmps72
    obtain ⟨B, hB⟩ : ∃ B, w.heap.size = B := ⟨_, rfl⟩
    have HB := Lib.hid hB
    clear hB
    go_wp2_with (go_at_call 89; refine HCL.out.mono ?_; rintro e w' ⟨rfl, rfl⟩)
    go_loopw [6, 7, 8, 9] (fun ov fv qv i wr => ∃ (k fr : Nat) (q : Bool) (out : List ByteArray), k ≤ s.size + 1 ∧ fr ≤ s.size ∧ fr ≤ k ∧ i = .int .i64 k ∧ fv = .int .i64 fr ∧ qv = .bool q ∧ Hid (PtAt w wr B s k fr q ov out)) (fun _ _ _ i _ => s.size + 1 - (intOf i).toNat)
    case atStart => exact ⟨0, 0, false, [], by omega, by omega, by omega, rfl, rfl, rfl, Lib.hid ⟨Ext.refl _, StrOwn.nil _ _, by simp, by cases scn s 0 0 false <;> simp⟩⟩
    case round =>
      obtain ⟨k, fr, q, out, hk, hfr, hfk, rfl, rfl, rfl, HR⟩ := hrel
      by_cases hlt : k < s.size
      · have hki : (k : Int) < (s.size : Int) := by omega
        obtain ⟨c, hc⟩ : ∃ c, (s[k]'hlt).toNat = c := ⟨_, rfl⟩
        have hcb : byt s k = c := by rw [byt_is hlt]; exact hc
        have HC := Lib.hid hcb
        have HLT := Lib.hid hlt
        clear hcb
        cases q with
        | true =>
          rcases (show c = 92 ∨ c = 34 ∨ (c ≠ 92 ∧ c ≠ 34) by omega) with h1 | h1 | ⟨h1, h2⟩
          · have h1' : ((c : Int) == 92) = true := by simp; omega
            have H1 := Lib.hid h1
            clear h1
            go_wp2_with fail
            go_roundw
            case rel => exact ⟨k + 2, fr, true, out, by omega, by omega, by omega, by go_num, rfl, rfl, Lib.hid (HR.out.on (Ext.refl _) (by omega) (scn_esc HLT.out (by rw [HC.out]; exact H1.out)))⟩
            case measure => simp [intOf]; omega
          · have h0' : ((c : Int) == 92) = false := by simp; omega
            have h1' : ((c : Int) == 34) = true := by simp; omega
            have H1 := Lib.hid h1
            clear h1
            go_wp2_with fail
            go_roundw
            case rel => exact ⟨k + 1, fr, false, out, by omega, by omega, by omega, by go_num, rfl, rfl, Lib.hid (HR.out.on (Ext.refl _) (by omega) (scn_quo HLT.out (by rw [HC.out]; exact H1.out)))⟩
            case measure => simp [intOf]; omega
          · have h0' : ((c : Int) == 92) = false := by simp; omega
            have h1' : ((c : Int) == 34) = false := by simp; omega
            have H1 := Lib.hid (And.intro h1 h2)
            clear h1 h2
            go_wp2_with fail
            go_roundw
            case rel => exact ⟨k + 1, fr, true, out, by omega, by omega, by omega, by go_num, rfl, rfl, Lib.hid (HR.out.on (Ext.refl _) (by omega) (scn_on HLT.out (fun h => H1.out.1 (by rw [← HC.out]; exact h.2)) (by rw [HC.out]; exact H1.out.2) (by simp)))⟩
            case measure => simp [intOf]; omega
        | false =>
          rcases (show c = 34 ∨ c = 44 ∨ (c ≠ 34 ∧ c ≠ 44) by omega) with h1 | h1 | ⟨h1, h2⟩
          · have h1' : ((c : Int) == 34) = true := by simp; omega
            have H1 := Lib.hid h1
            clear h1
            go_wp2_with fail
            go_roundw
            case rel => exact ⟨k + 1, fr, true, out, by omega, by omega, by omega, by go_num, rfl, rfl, Lib.hid (HR.out.on (Ext.refl _) (by omega) (scn_quo HLT.out (by rw [HC.out]; exact H1.out)))⟩
            case measure => simp [intOf]; omega
          · have h0' : ((c : Int) == 34) = false := by simp; omega
            have h1' : ((c : Int) == 44) = true := by simp; omega
            have H1 : Hid (byt s k = 44) := Lib.hid (by rw [HC.out]; exact h1)
            clear h1
            have hfki : (fr : Int) ≤ (k : Int) := by omega
            have hkle : (k : Int) ≤ (s.size : Int) := by omega
            have HTR : Hid (∀ W, Calls Tryd.prog 81 #[.string (s.extract fr k), .string ⟨#[32, 9]⟩] W fun e w' => e = .returned (.string (trimF (s.extract fr k))) ∧ Ext W w') := Lib.hid (fun W => strim_any _ (by rw [ByteArray.size_extract]; omega) W)
            obtain ⟨y, hy⟩ : ∃ y, trimF (s.extract fr k) = y := ⟨_, rfl⟩
            rw [hy] at HTR
            have HY := Lib.hid hy
            clear hy
            obtain ⟨x, hx⟩ : ∃ x, s.extract fr k = x := ⟨_, rfl⟩
            go_upto_region 13 with fail
            rw [hx] at HTR
            go_wp2_with fail
            refine (HTR.out _).mono ?_
            rintro e w3 ⟨rfl, hx3⟩
            have HO := Lib.hid (HR.out.o.kept (hx3.grown' none) (fun k e => by cases e))
            have hl : out.length ≤ 200000 := by have := HR.out.n; omega
            have HX3 := Lib.hid (HR.out.x.trans hx3)
            have hsz : B ≤ w3.heap.size := by have := HB.out; have := HX3.out.size; omega
            have HXX := Lib.hid hx
            clear hx hx3
            go_wp2_with (at_builtin; refine wpList_append_str _ rfl _ _ rfl B y HO.out rfl rfl rfl hl hsz ?_; intro v' w9 hO9 hB9 hK9)
            go_roundw
            case rel =>
              refine ⟨k + 1, k + 1, false, out ++ [y], by omega, by omega, by omega, by go_num, by go_num, rfl, Lib.hid ?_⟩
              rw [← HY.out]
              exact HR.out.put HLT.out H1.out (Below.trans HX3.out.below (Below.mono hB9 (by have := HB.out; omega))) (by rw [HY.out]; exact hO9)
            case measure => simp [intOf]; omega
          · have h0' : ((c : Int) == 34) = false := by simp; omega
            have h1' : ((c : Int) == 44) = false := by simp; omega
            have H1 := Lib.hid (And.intro h1 h2)
            clear h1 h2
            go_wp2_with fail
            go_roundw
            case rel => exact ⟨k + 1, fr, false, out, by omega, by omega, by omega, by go_num, rfl, rfl, Lib.hid (HR.out.on (Ext.refl _) (by omega) (scn_on HLT.out (by simp) (by rw [HC.out]; exact H1.out.1) (fun h => H1.out.2 (by rw [← HC.out]; exact h.2))))⟩
            case measure => simp [intOf]; omega
      · have hki : ¬ (k : Int) < (s.size : Int) := by omega
        have HLT := Lib.hid hlt
        cases q with
        | true =>
          have HP2 : Hid (partsF s = none) := Lib.hid (by rw [HP.out, HR.out.t, scn_end HLT.out]; rfl)
          clear hlt
          go_wp2_with fail
          go_ret2
          exact ⟨⟨_, _, rfl, .inr ⟨HP2.out, rfl, rfl⟩⟩, HR.out.x⟩
        | false =>
          have hfri : (fr : Int) ≤ (s.size : Int) := by omega
          have HTR : Hid (∀ W, Calls Tryd.prog 81 #[.string (s.extract fr s.size), .string ⟨#[32, 9]⟩] W fun e w' => e = .returned (.string (trimF (s.extract fr s.size))) ∧ Ext W w') := Lib.hid (fun W => strim_any _ (by rw [ByteArray.size_extract]; omega) W)
          obtain ⟨y, hy⟩ : ∃ y, trimF (s.extract fr s.size) = y := ⟨_, rfl⟩
          rw [hy] at HTR
          have HP2 : Hid (partsF s = some (out ++ [y])) := Lib.hid (by rw [HP.out, HR.out.t, scn_end HLT.out, ← hy]; simp)
          clear hy hlt
          obtain ⟨x, hx⟩ : ∃ x, s.extract fr s.size = x := ⟨_, rfl⟩
          go_upto_region 17 with fail
          rw [hx] at HTR
          go_wp2_with fail
          refine (HTR.out _).mono ?_
          rintro e w3 ⟨rfl, hx3⟩
          have HO := Lib.hid (HR.out.o.kept (hx3.grown' none) (fun k e => by cases e))
          have hl : out.length ≤ 200000 := by have := HR.out.n; omega
          have HX3 := Lib.hid (HR.out.x.trans hx3)
          have hsz : B ≤ w3.heap.size := by have := HB.out; have := HX3.out.size; omega
          clear hx hx3
          go_wp2_with (at_builtin; refine wpList_append_str _ rfl _ _ rfl B y HO.out rfl rfl rfl hl hsz ?_; intro v' w9 hO9 hB9 hK9)
          go_ret2
          exact ⟨⟨_, _, rfl, .inl ⟨_, HP2.out, rfl, hO9.at⟩⟩, Below.trans HX3.out.below (Below.mono hB9 (by have := HB.out; omega))⟩
end Go.Proofs.YteamnofooicbeaaDoor
