/- Chapter 20: the reference's Pieces and Missing. -/
import Derived.Test.YtfjpaacanoocmaaPe1
namespace Go.Proofs.Ytfjpaacanoocmaa
open Go.RowKit Go.Deep Go.Sort
theorem own_ext {w w' : World} {B : Nat} {e : TypeId} {size n : Nat} {v : Value} {xs : List Value} (h : w.ownsRow B e size v n xs) (hx : Ext w w') : w'.ownsRow B e size v n xs := by
  refine ⟨h.1, ?_⟩
  rcases h.2 with e | ⟨g, cap, cur, rfl, hb, hh, r⟩
  · exact .inl e
  · exact .inr ⟨g, cap, cur, rfl, hb, (Below.block hx g (Array.getElem?_eq_some_iff.1 hh).1).trans hh, r⟩
theorem pcs_nil (f : Nat) : pcs f 0 = [] := by unfold pcs; simp
set_option maxRecDepth 100000 in
theorem pcs_step (f t k : Nat) : pcs f (min t ((k + 1) * 256)) = pcs f (min t (k * 256)) ++ (if max f (k * 256) < min t ((k + 1) * 256) then [k] else []) := by
  by_cases h : max f (k * 256) < min t ((k + 1) * 256)
  · rw [if_pos h]
    have e1 : min t (k * 256) = k * 256 := by omega
    rw [e1]
    unfold pcs
    rw [if_pos (by omega)]
    by_cases h2 : f < k * 256
    · rw [if_pos h2, show (min t ((k + 1) * 256) + 255) / 256 - f / 256 = ((k * 256 + 255) / 256 - f / 256) + 1 by omega, List.range'_concat]
      rw [show f / 256 + 1 * ((k * 256 + 255) / 256 - f / 256) = k by omega]
    · rw [if_neg h2, show (min t ((k + 1) * 256) + 255) / 256 - f / 256 = 1 by omega, show f / 256 = k by omega]
      rfl
  · rw [if_neg h, List.append_nil]
    unfold pcs
    by_cases h2 : f < min t ((k + 1) * 256)
    · rw [if_pos h2, if_pos (by omega), show min t ((k + 1) * 256) = min t (k * 256) by omega]
    · rw [if_neg h2, if_neg (by omega)]
set_option maxRecDepth 100000 in
set_option maxHeartbeats 4000000 in
theorem rpieces_any (F T : Int) (len f t : Nat) (hl : len ≤ 65536) (hf : (f : Int) = max 0 F) (ht : t = (min T len).toNat) (w : World) :
    Calls Try.prog 41 #[rngV F T, .int .i64 len] w fun e w' => ∃ v, e = .returned v ∧ Ext w w' ∧ IntsOwn w' w.heap.size v (pcs f t) := by
  have HF := Lib.hid hf
  have HT := Lib.hid ht
  clear hf ht
  obtain ⟨w0, hw0⟩ : ∃ w0, w0 = w.alloc (.cells #[.int .i64 F, .int .i64 T] 67) := ⟨_, rfl⟩
  have HR := Lib.hid (show RowB w0 w.heap.size 67 [.int .i64 F, .int .i64 T] by rw [hw0]; exact RowB.laid _ _ _)
  have X0 : Ext w w0 := by rw [hw0]; exact (Ext.refl w).alloc _
  go_enter Try.func41, Try.ntmps41
  go_upto_region 1 with fail
  rw [← hw0]
  clear hw0
  go_wp2_with fail
  go_loopw [5, 9] (fun v i wr => ∃ k : Nat, k ≤ 257 ∧ i = .int .i64 k ∧ IntsOwn wr w0.heap.size v (pcs f (min t (k * 256))) ∧ Ext w0 wr) (fun _ i _ => 257 - (intOf i).toNat)
  case atStart => exact ⟨0, by omega, rfl, by rw [show min t (0 * 256) = 0 by omega, pcs_nil]; exact World.ownsRow_nil _ _ _ _, Ext.refl _⟩
  case round =>
    obtain ⟨k, hk, rfl, hown, hX⟩ := hrel
    have hsz := hX.size
    by_cases hlt : k < 257
    · have HS := Lib.hid (pcs_step f t k)
      have HL := Lib.hid (show (pcs f (min t (k * 256))).length ≤ 1000 from Nat.le_trans (pcs_length _ _ (by have := HT.out; omega)) (by omega))
      by_cases hkl : k * 256 < len
      · have HP := Lib.hid (fun W => piece9_in k len hl hkl W)
        have g1 : F < (k * 256 : Nat) ∨ ¬ F < (k * 256 : Nat) := by omega
        have g2 : T < (pto k len : Nat) ∨ ¬ T < (pto k len : Nat) := by omega
        have HU := Lib.hid (show max f (k * 256) < min t ((k + 1) * 256) ↔ max ((k : Int) * 256) F < min ((pto k len : Nat) : Int) T by have := HF.out; have := HT.out; unfold pto; omega)
        have hpl : pto k len ≤ 65536 := by unfold pto; omega
        go_upto_region 6 with (first | (go_at_call 37; refine (HP.out _).mono ?_; rintro e w1 ⟨rfl, hx⟩))
        obtain ⟨w2, hw2⟩ : ∃ w2, w2 = w1.alloc (.cells #[.int .i64 ((k : Int) * 256), .int .i64 (pto k len : Nat)] 67) := ⟨_, rfl⟩
        have hR2 : RowB w2 w1.heap.size 67 [.int .i64 ((k : Int) * 256), .int .i64 (pto k len : Nat)] := by rw [hw2]; exact RowB.laid _ _ _
        have hX2 : Ext w1 w2 := by rw [hw2]; exact (Ext.refl w1).alloc _
        rw [← hw2]
        clear hw2
        have c0 := (HR.out.ext ((hX.trans hx).trans hX2)).cell (j := 0) rfl
        have c1 := (HR.out.ext ((hX.trans hx).trans hX2)).cell (j := 1) rfl
        have d0 := hR2.cell (j := 0) rfl
        have d1 := hR2.cell (j := 1) rfl
        have hXo := (hX.trans hx).trans hX2
        have hown1 : IntsOwn w2 w0.heap.size _ (pcs f (min t (k * 256))) := own_ext hown (hx.trans hX2)
        have hsz1 : w0.heap.size ≤ w2.heap.size := by have := hX2.size; have := hx.size; omega
        by_cases hc : max ((k : Int) * 256) F < min ((pto k len : Nat) : Int) T
        · have HO := Lib.hid (show pcs f (min t (k * 256)) ++ [k] = pcs f (min t ((k + 1) * 256)) by rw [HS.out, if_pos (HU.out.2 hc)])
          go_wp2_with (at_builtin; refine wpList_append_int w2 rfl _ _ rfl w0.heap.size k _ hown1 rfl rfl rfl (by have := HL.out; omega) hsz1 ?_)
          intro v' w3 hown' hb
          rw [HO.out] at hown'
          go_wp2_with fail
          go_roundw
          case rel => exact ⟨k + 1, by omega, by go_num, hown', Below.trans hXo hb⟩
          case measure => simp [intOf]; omega
        · have HO := Lib.hid (show pcs f (min t (k * 256)) = pcs f (min t ((k + 1) * 256)) by rw [HS.out, if_neg (fun h => hc (HU.out.1 h)), List.append_nil])
          go_wp2_with fail
          go_roundw
          case rel => exact ⟨k + 1, by omega, by go_num, by rw [← HO.out]; exact hown1, hXo⟩
          case measure => simp [intOf]; omega
      · have HP := Lib.hid (fun W => piece9_out k len hl (by omega) (by omega) W)
        have HO := Lib.hid (show pcs f (min t (k * 256)) = pcs f (min t ((k + 1) * 256)) by rw [HS.out, if_neg (by have := HT.out; omega), List.append_nil])
        clear hkl
        go_wp2_with (go_at_call 37; refine (HP.out _).mono ?_; rintro e w1 ⟨rfl, hx⟩)
        go_roundw
        case rel => exact ⟨k + 1, by omega, by go_num, by rw [← HO.out]; exact own_ext hown (hx.alloc _), (hX.trans hx).alloc _⟩
        case measure => simp [intOf]; omega
    · obtain rfl : k = 257 := by omega
      have HO := Lib.hid (show min t (257 * 256) = t by have := HT.out; omega)
      rw [HO.out] at hown
      go_wp2_with fail
      go_ret
      exact ⟨_, rfl, X0.trans hX, hown.more X0.size⟩
end Go.Proofs.Ytfjpaacanoocmaa
