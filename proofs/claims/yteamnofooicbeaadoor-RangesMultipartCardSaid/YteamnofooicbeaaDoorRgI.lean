/- Chapter 09: the reference's parts. -/
import Derived.Test.YteamnofooicbeaaDoorRgH
namespace Go.Proofs.YteamnofooicbeaaDoor
open Go.RowKit
set_option maxRecDepth 100000 in
set_option maxHeartbeats 2000000 in
theorem rparts_any (s : ByteArray) (hs : s.size ≤ 100000) (w : World) :
    Calls Tryd.prog 73 #[.string s, .int .u8 44] w fun e w' => (∃ v ok, e = .returned (.tuple #[v, .bool ok]) ∧ ((∃ l, partsF s = some l ∧ ok = true ∧ StrsAt w' v l) ∨ (partsF s = none ∧ ok = false ∧ v = .slice none 0 0))) ∧ Ext w w' := by
  go_enter Tryd.func73, Tryd.ntmps73
  obtain ⟨B, hB⟩ : ∃ B, w.heap.size = B := ⟨_, rfl⟩
  have HB := Lib.hid hB
  clear hB
  go_wp2_with fail
  go_loopw [6, 7, 8, 9] (fun ov fv qv i wr => ∃ (k fr : Nat) (q : Bool) (out : List ByteArray), k ≤ s.size + 1 ∧ fr ≤ s.size ∧ fr ≤ k ∧ i = .int .i64 k ∧ fv = .int .i64 fr ∧ qv = .bool q ∧ Hid (PtAt w wr B s k fr q ov out)) (fun _ _ _ i _ => s.size + 1 - (intOf i).toNat)
  case atStart => exact ⟨0, 0, false, [], by omega, by omega, by omega, rfl, rfl, rfl, Lib.hid ⟨Ext.refl _, StrOwn.nil _ _, by simp, by cases scn s 0 0 false <;> simp⟩⟩
  case round =>
    obtain ⟨k, fr, q, out, hk, hfr, hfk, rfl, rfl, rfl, HR⟩ := hrel
    by_cases hlt : k < s.size
    · have hki : (k : Int) < (s.size : Int) := by omega
      obtain ⟨c, hc⟩ : ∃ c, (s[k]'hlt).toNat = c := ⟨_, rfl⟩
      have hcb : byt s k = c := by rw [byt_is hlt]; exact hc
      have HC := Lib.hid hcb
      have HLT := Lib.hid hlt
      clear hcb
      cases q with
      | true =>
        rcases (show c = 92 ∨ c = 34 ∨ (c ≠ 92 ∧ c ≠ 34) by omega) with h1 | h1 | ⟨h1, h2⟩
        · have h1' : ((c : Int) == 92) = true := by simp; omega
          have H1 : Hid (scn s k fr true = scn s (k + 2) fr true) := Lib.hid (scn_esc hlt (by rw [HC.out]; exact h1))
          clear h1
          by_cases hk1 : k + 1 = s.size
          · have hk1' : (((k : Int) + 1) == (s.size : Int)) = true := by simp; omega
            have HP2 : Hid (partsF s = none) := Lib.hid (by
              unfold partsF
              rw [HR.out.t, H1.out, scn_end (by omega)]
              split <;> rfl)
            clear hk1
            go_wp2_with fail
            go_ret2
            exact ⟨⟨_, _, rfl, .inr ⟨HP2.out, rfl, rfl⟩⟩, HR.out.x⟩
          · have hk1' : (((k : Int) + 1) == (s.size : Int)) = false := by simp; omega
            go_wp2_with fail
            go_roundw
            case rel => exact ⟨k + 2, fr, true, out, by omega, by omega, by omega, by go_num, rfl, rfl, Lib.hid (HR.out.on (Ext.refl _) (by omega) H1.out)⟩
            case measure => simp [intOf]; omega
        · have h0' : ((c : Int) == 92) = false := by simp; omega
          have h1' : ((c : Int) == 34) = true := by simp; omega
          have H1 := Lib.hid h1
          clear h1
          go_wp2_with fail
          go_roundw
          case rel => exact ⟨k + 1, fr, false, out, by omega, by omega, by omega, by go_num, rfl, rfl, Lib.hid (HR.out.on (Ext.refl _) (by omega) (scn_quo HLT.out (by rw [HC.out]; exact H1.out)))⟩
          case measure => simp [intOf]; omega
        · have h0' : ((c : Int) == 92) = false := by simp; omega
          have h1' : ((c : Int) == 34) = false := by simp; omega
          have H1 := Lib.hid (And.intro h1 h2)
          clear h1 h2
          go_wp2_with fail
          go_roundw
          case rel => exact ⟨k + 1, fr, true, out, by omega, by omega, by omega, by go_num, rfl, rfl, Lib.hid (HR.out.on (Ext.refl _) (by omega) (scn_on HLT.out (fun h => H1.out.1 (by rw [← HC.out]; exact h.2)) (by rw [HC.out]; exact H1.out.2) (by simp)))⟩
          case measure => simp [intOf]; omega
      | false =>
        rcases (show c = 34 ∨ c = 44 ∨ (c ≠ 34 ∧ c ≠ 44) by omega) with h1 | h1 | ⟨h1, h2⟩
        · have h1' : ((c : Int) == 34) = true := by simp; omega
          have H1 := Lib.hid h1
          clear h1
          go_wp2_with fail
          go_roundw
          case rel => exact ⟨k + 1, fr, true, out, by omega, by omega, by omega, by go_num, rfl, rfl, Lib.hid (HR.out.on (Ext.refl _) (by omega) (scn_quo HLT.out (by rw [HC.out]; exact H1.out)))⟩
          case measure => simp [intOf]; omega
        · have h0' : ((c : Int) == 34) = false := by simp; omega
          have h1' : ((c : Int) == 44) = true := by simp; omega
          have H1 : Hid (byt s k = 44) := Lib.hid (by rw [HC.out]; exact h1)
          clear h1
          have hfki : (fr : Int) ≤ (k : Int) := by omega
          have hkle : (k : Int) ≤ (s.size : Int) := by omega
          have HTR : Hid (∀ W, Calls Tryd.prog 90 #[.string (s.extract fr k)] W fun e w' => e = .returned (.string (trimF (s.extract fr k))) ∧ Ext W w') := Lib.hid (fun W => (rtrim_any _ (by rw [ByteArray.size_extract]; omega) W).mono (fun e w' ⟨h1, h2⟩ => ⟨h1, by rw [← h2]; exact Ext.refl _⟩))
          obtain ⟨y, hy⟩ : ∃ y, trimF (s.extract fr k) = y := ⟨_, rfl⟩
          rw [hy] at HTR
          have HY := Lib.hid hy
          clear hy
          obtain ⟨x, hx⟩ : ∃ x, s.extract fr k = x := ⟨_, rfl⟩
          go_upto_region 12 with fail
          rw [hx] at HTR
          go_wp2_with fail
          refine (HTR.out _).mono ?_
          rintro e w3 ⟨rfl, hx3⟩
          have HO := Lib.hid (HR.out.o.kept (hx3.grown' none) (fun k e => by cases e))
          have hl : out.length ≤ 200000 := by have := HR.out.n; omega
          have HX3 := Lib.hid (HR.out.x.trans hx3)
          have hsz : B ≤ w3.heap.size := by have := HB.out; have := HX3.out.size; omega
          have HXX := Lib.hid hx
          clear hx hx3
          go_wp2_with (at_builtin; refine wpList_append_str _ rfl _ _ rfl B y HO.out rfl rfl rfl hl hsz ?_; intro v' w9 hO9 hB9 hK9)
          go_roundw
          case rel =>
            refine ⟨k + 1, k + 1, false, out ++ [y], by omega, by omega, by omega, by go_num, by go_num, rfl, Lib.hid ?_⟩
            rw [← HY.out]
            exact HR.out.put HLT.out H1.out (Below.trans HX3.out.below (Below.mono hB9 (by have := HB.out; omega))) (by rw [HY.out]; exact hO9)
          case measure => simp [intOf]; omega
        · have h0' : ((c : Int) == 34) = false := by simp; omega
          have h1' : ((c : Int) == 44) = false := by simp; omega
          have H1 := Lib.hid (And.intro h1 h2)
          clear h1 h2
          go_wp2_with fail
          go_roundw
          case rel => exact ⟨k + 1, fr, false, out, by omega, by omega, by omega, by go_num, rfl, rfl, Lib.hid (HR.out.on (Ext.refl _) (by omega) (scn_on HLT.out (by simp) (by rw [HC.out]; exact H1.out.1) (fun h => H1.out.2 (by rw [← HC.out]; exact h.2))))⟩
          case measure => simp [intOf]; omega
    · have hki : ¬ (k : Int) < (s.size : Int) := by omega
      have HLT := Lib.hid hlt
      cases q with
      | true =>
        have HP2 : Hid (partsF s = none) := Lib.hid (by
          unfold partsF
          rw [HR.out.t, scn_end HLT.out]
          split <;> rfl)
        clear hlt
        go_wp2_with fail
        go_ret2
        first | exact ⟨⟨_, _, rfl, .inr ⟨HP2.out, rfl, rfl⟩⟩, HR.out.x⟩ | exact ⟨⟨_, .inl ⟨rfl, HP2.out, rfl⟩⟩, HR.out.x⟩
      | false =>
        obtain ⟨cl, hcl⟩ : ∃ b, cleanF s = b := ⟨_, rfl⟩
        have HCL : Hid (∀ W, Calls Tryd.prog 91 #[.string s] W fun e w' => e = .returned (.bool (!cl)) ∧ W = w') := Lib.hid (fun W => by rw [← hcl]; exact rcontrol_any s (by omega) W)
        cases cl with
        | false =>
          have HP2 : Hid (partsF s = none) := Lib.hid (by unfold partsF; rw [hcl, if_neg (by simp)])
          clear hcl hlt
          go_wp2_with (go_at_call 91; refine (HCL.out _).mono ?_; rintro e w' ⟨rfl, rfl⟩)
          go_ret2
          exact ⟨⟨_, _, rfl, .inr ⟨HP2.out, rfl, rfl⟩⟩, HR.out.x⟩
        | true =>
          have HPS : Hid (partsF s = scn s 0 0 false) := Lib.hid (by unfold partsF; rw [hcl, if_pos rfl])
          clear hcl
          have hfri : (fr : Int) ≤ (s.size : Int) := by omega
          have HTR : Hid (∀ W, Calls Tryd.prog 90 #[.string (s.extract fr s.size)] W fun e w' => e = .returned (.string (trimF (s.extract fr s.size))) ∧ Ext W w') := Lib.hid (fun W => (rtrim_any _ (by rw [ByteArray.size_extract]; omega) W).mono (fun e w' ⟨h1, h2⟩ => ⟨h1, by rw [← h2]; exact Ext.refl _⟩))
          obtain ⟨y, hy⟩ : ∃ y, trimF (s.extract fr s.size) = y := ⟨_, rfl⟩
          rw [hy] at HTR
          have HP2 : Hid (partsF s = some (out ++ [y])) := Lib.hid (by rw [HPS.out, HR.out.t, scn_end HLT.out, ← hy]; simp)
          clear hy hlt
          obtain ⟨x, hx⟩ : ∃ x, s.extract fr s.size = x := ⟨_, rfl⟩
          go_upto_region 17 with (go_at_call 91; refine (HCL.out _).mono ?_; rintro e w' ⟨rfl, rfl⟩)
          rw [hx] at HTR
          go_wp2_with fail
          refine (HTR.out _).mono ?_
          rintro e w3 ⟨rfl, hx3⟩
          have HO := Lib.hid (HR.out.o.kept (hx3.grown' none) (fun k e => by cases e))
          have hl : out.length ≤ 200000 := by have := HR.out.n; omega
          have HX3 := Lib.hid (HR.out.x.trans hx3)
          have hsz : B ≤ w3.heap.size := by have := HB.out; have := HX3.out.size; omega
          clear hx hx3
          go_wp2_with (at_builtin; refine wpList_append_str _ rfl _ _ rfl B y HO.out rfl rfl rfl hl hsz ?_; intro v' w9 hO9 hB9 hK9)
          go_ret2
          exact ⟨⟨_, _, rfl, .inl ⟨_, HP2.out, rfl, hO9.at⟩⟩, Below.trans HX3.out.below (Below.mono hB9 (by have := HB.out; omega))⟩
end Go.Proofs.YteamnofooicbeaaDoor
