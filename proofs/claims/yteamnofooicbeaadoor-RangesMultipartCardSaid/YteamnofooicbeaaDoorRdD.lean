/- Chapter 09: the reference's line and holds; strings.Contains. -/
import Derived.Test.YteamnofooicbeaaDoorRdC
import Derived.Test.YteamnofooicbeaaDoorQuiet
namespace Go.Proofs.YteamnofooicbeaaDoor
open Go.RowKit
theorem lineF_no {p s : ByteArray} (h : pfxB p s = false) : lineF p s = (⟨#[]⟩, ⟨#[]⟩, false) := by unfold lineF; rw [h]; rfl
theorem lineF_at {p s : ByteArray} (h : pfxB p s = true) {t : ByteArray} (ht : s.extract p.size s.size = t) {i : Nat} (hi : i + 1 < t.size) (h1 : byt t i = 13) (h2 : byt t (i + 1) = 10) (hb : ∀ j, j < i → ¬ (byt t j = 13 ∧ byt t (j + 1) = 10)) : lineF p s = (t.extract 0 i, t.extract (i + 2) t.size, true) := by
  unfold lineF
  rw [h, if_pos rfl, ht, cutB_at hi h1 h2 hb, if_pos rfl]
theorem lineF_none {p s : ByteArray} (h : pfxB p s = true) {t : ByteArray} (ht : s.extract p.size s.size = t) (hb : ∀ j, j + 1 < t.size → ¬ (byt t j = 13 ∧ byt t (j + 1) = 10)) : lineF p s = (⟨#[]⟩, ⟨#[]⟩, false) := by
  unfold lineF
  rw [h, if_pos rfl, ht, cutB_no hb, if_neg (by simp)]
set_option maxRecDepth 100000 in
set_option maxHeartbeats 2000000 in
theorem rline_any (s p : ByteArray) (hs : s.size ≤ 100000) (hp : p.size ≤ 100000) (w : World) :
    Calls Tryd.prog 62 #[.string s, .string p] w fun e w' => e = .returned (.tuple #[.string (lineF p s).1, .string (lineF p s).2.1, .bool (lineF p s).2.2]) ∧ Ext w w' := by
  by_cases h1 : s.size < p.size
  · have h1' : (s.size : Int) < (p.size : Int) := by omega
    have hpf : pfxB p s = false := by
      rw [← Bool.not_eq_true]
      intro h
      have := pfxB_size h
      omega
    rw [lineF_no hpf]
    clear h1 hpf
    go_enter Tryd.func62, Tryd.ntmps62
    go_wp2_with fail
    go_returns
    exact ⟨rfl, Ext.refl _⟩
  · have h1' : ¬ (s.size : Int) < (p.size : Int) := by omega
    have hps : p.size ≤ s.size := by omega
    have hcut := pfxB_cut p s
    obtain ⟨z, hz⟩ : ∃ z, s.extract 0 p.size = z := ⟨_, rfl⟩
    rw [hz] at hcut
    cases hpf : pfxB p s with
    | false =>
      rw [lineF_no hpf]
      rw [hpf] at hcut
      clear hpf h1
      go_enter Tryd.func62, Tryd.ntmps62
      go_wp2_with fail
      go_returns
      exact ⟨rfl, Ext.refl _⟩
    | true =>
      rw [hpf] at hcut
      obtain ⟨t, ht⟩ : ∃ t, s.extract p.size s.size = t := ⟨_, rfl⟩
      have hts : t.size ≤ 100000 := by rw [← ht, ByteArray.size_extract]; omega
      have HAT := Lib.hid (fun i => lineF_at (i := i) hpf ht)
      have HNO := Lib.hid (lineF_none hpf ht)
      obtain ⟨R, hR⟩ : ∃ R, lineF p s = R := ⟨_, rfl⟩
      rw [hR] at HAT HNO ⊢
      clear hpf hR h1
      go_enter Tryd.func62, Tryd.ntmps62
      go_wp2_with fail
      go_loopw [7] (fun i wr => ∃ k : Nat, k ≤ t.size ∧ i = .int .i64 k ∧ Ext w wr ∧ Hid (∀ j, j < k → ¬ (byt t j = 13 ∧ byt t (j + 1) = 10))) (fun i _ => t.size - (intOf i).toNat)
      case atStart => exact ⟨0, by omega, rfl, Ext.refl _, Lib.hid (fun j hj => by omega)⟩
      case round =>
        obtain ⟨k, hk, rfl, hX, HA⟩ := hrel
        by_cases hlt : k + 1 < t.size
        · have hki : (k : Int) + 1 < (t.size : Int) := by omega
          have hkt : k < t.size := by omega
          have hk6 : (k : Int) < 100001 := by omega
          obtain ⟨c, hc⟩ : ∃ c, (t[k]'hkt).toNat = c := ⟨_, rfl⟩
          obtain ⟨d, hd⟩ : ∃ d, (t[k + 1]'hlt).toNat = d := ⟨_, rfl⟩
          have HC : Hid (byt t k = c) := Lib.hid (by rw [byt_is hkt]; exact hc)
          have HD : Hid (byt t (k + 1) = d) := Lib.hid (by rw [byt_is hlt]; exact hd)
          have HSTEP : Hid (¬ (c = 13 ∧ d = 10) → ∀ j, j < k + 1 → ¬ (byt t j = 13 ∧ byt t (j + 1) = 10)) := Lib.hid (fun hn j hj => by
            by_cases e : j = k
            · subst e
              rw [HC.out, HD.out]
              exact hn
            · exact HA.out j (by omega))
          by_cases h13 : c = 13
          · by_cases h10 : d = 10
            · have HR := Lib.hid (HAT.out k hlt (HC.out.trans h13) (HD.out.trans h10) HA.out)
              have q1 : ((c : Int) == 13) = true := by simp [h13]
              have q2 : ((d : Int) == 10) = true := by simp [h10]
              have HX := Lib.hid hX
              clear h13 h10 hX
              have hk2 : (k : Int) + 2 ≤ (t.size : Int) := by omega
              have hk2n : k + 2 ≤ t.size := by omega
              go_upto_region 8 with fail
              refine wp_region_quiet_lit (by kernel_rfl) (by kernel_rfl) ?_
              repeat (go_big_quiet_step (fail))
              refine wpQuiet_nil ?_
              rintro _ ⟨nq, rfl⟩
              go_wp2_with fail
              go_returns
              rw [HR.out]
              exact ⟨rfl, HX.out.drewN nq⟩
            · have q1 : ((c : Int) == 13) = true := by simp [h13]
              have q2 : ((d : Int) == 10) = false := by simp; omega
              have HH := Lib.hid (HSTEP.out (fun h => h10 h.2))
              clear h13 h10
              go_wp2_with fail
              go_roundw
              case rel => exact ⟨k + 1, by omega, by go_num, hX, HH⟩
              case measure => simp [intOf]; omega
          · have q1 : ((c : Int) == 13) = false := by simp; omega
            have HH := Lib.hid (HSTEP.out (fun h => h13 h.1))
            clear h13
            go_wp2_with fail
            go_roundw
            case rel => exact ⟨k + 1, by omega, by go_num, hX, HH⟩
            case measure => simp [intOf]; omega
        · have hki : ¬ (k : Int) + 1 < (t.size : Int) := by omega
          have HR := Lib.hid (HNO.out (fun j hj => HA.out j (by omega)))
          have hk6 : (k : Int) < 100001 := by omega
          have HX := Lib.hid hX
          clear hX hlt
          go_wp2_with fail
          go_returns
          rw [HR.out]
          exact ⟨rfl, HX.out⟩
theorem scontains_any (s p : ByteArray) (hs : s.size < 4294967281) (w : World) (hM : MaxL w) :
    Calls Tryd.prog 60 #[.string s, .string p] w fun e w' => e = .returned (.bool (Lib.contains s.data.toList p.data.toList)) ∧ w' = w := by
  obtain ⟨m, hm⟩ := hM
  exact Any.strings_Contains (P := Tryd.prog) (ρ := Tryd.laysM144_ren) { Tryd.laysM144 with } s p m w hs hm
end Go.Proofs.YteamnofooicbeaaDoor
