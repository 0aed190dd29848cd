/- Chapter 09: the reference's holds; the reader's skip and line (program). -/
import Derived.Test.YteamnofooicbeaaDoorRdD
namespace Go.Proofs.YteamnofooicbeaaDoor
open Go.RowKit
/-- whether a text holds another -/
def holdF (s p : ByteArray) : Bool := Lib.contains s.data.toList p.data.toList
theorem holdF_at {s p : ByteArray} {i : Nat} (hi : i ≤ s.size) (h : Lib.occAt s.data.toList p.data.toList i = true) : holdF s p = true := by
  unfold holdF Lib.contains
  rw [decide_eq_true_iff]
  rcases Lib.index_spec s.data.toList p.data.toList with ⟨_, h2⟩ | ⟨k, h1, _⟩
  · rw [h2 i (by rw [← Lib.size_eq]; exact hi)] at h
    cases h
  · rw [h1]; omega
theorem holdF_no {s p : ByteArray} (h : ∀ j, j + p.size ≤ s.size → Lib.occAt s.data.toList p.data.toList j = false) : holdF s p = false := by
  unfold holdF Lib.contains
  rw [index_not (fun j hjl => ?_)]
  · rfl
  · by_cases hj : j + p.size ≤ s.size
    · exact h j hj
    · rw [← Bool.not_eq_true]
      intro ho
      have h1 := (List.isPrefixOf_iff_prefix.1 ho).length_le
      rw [List.length_drop, ← Lib.size_eq, ← Lib.size_eq] at h1
      rw [← Lib.size_eq] at hjl
      omega
theorem occ_cut (s p : ByteArray) (i : Nat) : ((s.extract i (i + p.size)).toList == p.toList) = Lib.occAt s.data.toList p.data.toList i := by
  rw [Lib.extract_toList, ByteArray.toList_eq, Bool.eq_iff_iff, beq_iff_eq]
  unfold Lib.occAt
  rw [List.isPrefixOf_iff_prefix, Nat.add_sub_cancel_left, Lib.size_eq]
  constructor
  · intro e
    rw [← e]
    exact List.take_prefix _ _
  · intro hp
    exact (List.prefix_iff_eq_take.1 hp).symm
set_option maxRecDepth 100000 in
set_option maxHeartbeats 2000000 in
theorem rholds_any (s p : ByteArray) (hs : s.size ≤ 100000) (hp : p.size ≤ 100000) (w : World) :
    Calls Tryd.prog 64 #[.string s, .string p] w fun e w' => e = .returned (.bool (holdF s p)) ∧ Ext w w' := by
  have HAT := Lib.hid (fun i => holdF_at (s := s) (p := p) (i := i))
  have HNO := Lib.hid (holdF_no (s := s) (p := p))
  obtain ⟨R, hR⟩ : ∃ R, holdF s p = R := ⟨_, rfl⟩
  rw [hR] at HAT HNO ⊢
  clear hR
  go_enter Tryd.func64, Tryd.ntmps64
  go_wp2_with fail
  go_loopw [5] (fun i wr => ∃ k : Nat, k ≤ s.size + 1 ∧ i = .int .i64 k ∧ Ext w wr ∧ Hid (∀ j, j < k → Lib.occAt s.data.toList p.data.toList j = false)) (fun i _ => s.size + 1 - (intOf i).toNat)
  case atStart => exact ⟨0, by omega, rfl, Ext.refl _, Lib.hid (fun j hj => by omega)⟩
  case round =>
    obtain ⟨k, hk, rfl, hX, HA⟩ := hrel
    have hk6 : (k : Int) < 100002 := by omega
    by_cases hle : k + p.size ≤ s.size
    · have hle' : (k : Int) + (p.size : Int) ≤ (s.size : Int) := by omega
      have hkn : k ≤ k + p.size := by omega
      have hoc := occ_cut s p k
      obtain ⟨z, hz⟩ : ∃ z, s.extract k (k + p.size) = z := ⟨_, rfl⟩
      rw [hz] at hoc
      cases ho : Lib.occAt s.data.toList p.data.toList k with
      | true =>
        rw [ho] at hoc
        have HR := Lib.hid (HAT.out k (by omega) ho)
        have HX := Lib.hid hX
        clear ho hX
        go_wp2_with fail
        go_ret
        exact ⟨by rw [HR.out]; rfl, HX.out⟩
      | false =>
        rw [ho] at hoc
        have HH : Hid (∀ j, j < k + 1 → Lib.occAt s.data.toList p.data.toList j = false) := Lib.hid (fun j hj => by
          by_cases e : j = k
          · subst e; exact ho
          · exact HA.out j (by omega))
        clear ho
        go_wp2_with fail
        go_roundw
        case rel => exact ⟨k + 1, by omega, by go_num, hX, HH⟩
        case measure => simp [intOf]; omega
    · have hle' : ¬ (k : Int) + (p.size : Int) ≤ (s.size : Int) := by omega
      have HR := Lib.hid (HNO.out (fun j hj => HA.out j (by omega)))
      have HX := Lib.hid hX
      clear hX hle
      go_wp2_with fail
      go_ret
      exact ⟨by rw [HR.out]; rfl, HX.out⟩
set_option maxRecDepth 100000 in
theorem skip_any {w : World} {g : Nat} {s : ByteArray} {b : Bool} (h : RowB w g 118 [.string s, .bool b]) (p : ByteArray) :
    Calls Tryd.prog 57 #[.pointer (some ⟨g, 0, none⟩), .string p] w fun e w' => e = .returned (.tuple #[]) ∧ ∃ x, x.size ≤ s.size ∧ (pfxB p s = true → x = s.extract p.size s.size) ∧ w' = (w.setCell ⟨g, 0, none⟩ (.string x)).setCell ⟨g, 1, none⟩ (.bool (b || !pfxB p s)) := by
  have HS := Lib.hid (fun W => spfxB_any s p W)
  obtain ⟨c, hc⟩ : ∃ c, pfxB p s = c := ⟨_, rfl⟩
  rw [hc] at HS ⊢
  have c0 := h.cell (j := 0) rfl
  have c1 := h.cell (j := 1) rfl
  have f0 := h.frozen (j := 0) (by simp)
  have f1 := h.frozen (j := 1) (by simp)
  clear hc
  go_enter Tryd.func57, Tryd.ntmps57
  go_upto_region 1 with (go_at_call 41; refine (HS.out _).mono ?_; rintro e w1 ⟨⟨x, rfl, hx1, hx2⟩, rfl⟩)
  have HX := Lib.hid (And.intro hx1 hx2)
  clear hx1 hx2
  cases b with
  | true =>
    go_wp2_with fail
    go_returns
    first | exact ⟨rfl, x, HX.out.1, HX.out.2, rfl⟩ | exact ⟨rfl, x, HX.out.1, HX.out.2 trivial, rfl⟩ | exact ⟨rfl, x, HX.out.1, by simp, rfl⟩
  | false =>
    cases c with
    | true =>
      go_wp2_with fail
      go_returns
      first | exact ⟨rfl, x, HX.out.1, HX.out.2, rfl⟩ | exact ⟨rfl, x, HX.out.1, HX.out.2 trivial, rfl⟩ | exact ⟨rfl, x, HX.out.1, by simp, rfl⟩
    | false =>
      go_wp2_with fail
      go_returns
      first | exact ⟨rfl, x, HX.out.1, HX.out.2, rfl⟩ | exact ⟨rfl, x, HX.out.1, HX.out.2 trivial, rfl⟩ | exact ⟨rfl, x, HX.out.1, by simp, rfl⟩
set_option maxRecDepth 100000 in
theorem line_any {w : World} {g : Nat} {s : ByteArray} {b : Bool} (h : RowB w g 118 [.string s, .bool b]) (hs : s.size ≤ 100000) (hM : MaxL w) :
    Calls Tryd.prog 58 #[.pointer (some ⟨g, 0, none⟩)] w fun e w' => e = .returned (.string (cutB s).1) ∧ ∃ n, w' = ((w.drewN n).setCell ⟨g, 0, none⟩ (.string (cutB s).2.1)).setCell ⟨g, 1, none⟩ (.bool (b || !(cutB s).2.2)) := by
  have HS := Lib.hid (scutB_any s (by omega) w hM)
  obtain ⟨⟨y, x, c⟩, hc⟩ : ∃ r, cutB s = r := ⟨_, rfl⟩
  rw [hc] at HS ⊢
  simp only at HS ⊢
  have H := Lib.hid h
  have c0 := h.cell (j := 0) rfl
  clear hc
  go_enter Tryd.func58, Tryd.ntmps58
  go_upto_region 2 with (go_at_call 50; refine HS.out.mono ?_; rintro e w1 ⟨rfl, n, rfl⟩)
  have hr : RowB (w.drewN n) g 118 [.string s, .bool b] := H.out.ext ((Ext.refl w).drewN n)
  clear c0
  have c0 := hr.cell (j := 0) rfl
  have c1 := hr.cell (j := 1) rfl
  have f0 := hr.frozen (j := 0) (by simp)
  have f1 := hr.frozen (j := 1) (by simp)
  clear h hr
  cases b with
  | true =>
    go_wp2_with fail
    go_ret
    exact ⟨rfl, n, rfl⟩
  | false =>
    cases c with
    | true =>
      go_wp2_with fail
      go_ret
      exact ⟨rfl, n, rfl⟩
    | false =>
      go_wp2_with fail
      go_ret
      exact ⟨rfl, n, rfl⟩
end Go.Proofs.YteamnofooicbeaaDoor
