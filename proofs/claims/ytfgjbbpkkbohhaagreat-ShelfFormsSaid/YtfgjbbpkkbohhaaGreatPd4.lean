/- Chapter 20: Held and Cover. -/
import Derived.Test.YtfgjbbpkkbohhaaGreatPd3
namespace Go.Proofs.YtfgjbbpkkbohhaaGreat
open Go.RowKit Go.Deep Go.Sort

/-- Merge of a list that a call has made, in order, whatever its length -/
theorem merge_own {w : World} {B : Nat} {v : Value} {xs : List (Nat × Nat)} (h : RngOwn w B v xs) (hnil : xs = [] → v = .slice none 0 0) (hn : xs.length ≤ 12) (ho : Okr xs) (hp : xs.Pairwise fun x y => x.1 ≤ y.1) :
    Calls Tryz.prog 132 #[v] w fun e w' => ∃ v', e = .returned v' ∧ Ext w w' ∧ RngOwn w' w.heap.size v' (mg xs) ∧ (mg xs = [] → v' = .slice none 0 0) := by
  rcases Nat.eq_zero_or_pos xs.length with h0 | h0
  · have e := List.eq_nil_of_length_eq_zero h0
    rw [hnil e, e]
    refine (merge_nil w).mono ?_
    rintro e w' ⟨rfl, hx⟩
    exact ⟨_, rfl, hx, World.ownsRow_nil _ _ _ _, fun _ => rfl⟩
  · rcases h.shape with ⟨rfl, e⟩ | ⟨g, cap, rfl, h1, h2, h3, h4⟩
    · rw [e] at h0; simp at h0
    · refine (merge_ok h4 hn h0 (fun i hi => pw_at hp i hi) ho).mono ?_
      rintro e w' ⟨v', rfl, hx, ho'⟩
      refine ⟨v', rfl, hx, ho', fun e => ?_⟩
      exfalso
      obtain ⟨r, hr⟩ := List.exists_mem_of_ne_nil xs (fun e => by rw [e] at h0; simp at h0)
      have hrr := ho r hr
      have := ((mg_facts xs ho hp).2.2 r.1).2 ⟨r, hr, Nat.le_refl _, hrr.1⟩
      rw [e] at this
      exact cov_nil _ this
set_option maxRecDepth 100000 in
theorem held_rng {w : World} {B b l len : Nat} {A : Nat → Prop} {tag : ByteArray} {D : Nat → Option ByteArray} (h : BodyAt w B A b l tag len D) (hok : PcOk len D) (hl : len ≤ 3072) :
    Calls Tryz.prog 90 #[.pointer (some ⟨b, 0, none⟩)] w fun e w' => ∃ v, e = .returned v ∧ Ext w w' ∧ RngOwn w' w.heap.size v (mg (hlK len D (npc len))) ∧ (mg (hlK len D (npc len)) = [] → v = .slice none 0 0) := by
  have hn : npc len ≤ 12 := by unfold npc; omega
  have c2 := h.c2
  obtain ⟨f, hf, hp⟩ := h.row
  have HLN := Lib.hid (hlK_length len D (npc len))
  go_enter Tryz.func90, Tryz.ntmps90
  go_wp2_with fail
  go_loopw [3, 13] (fun v i wr => ∃ k : Nat, k ≤ npc len ∧ i = .int .i64 k ∧ RngOwn wr w.heap.size v (hlK len D k) ∧ (hlK len D k = [] → v = .slice none 0 0) ∧ Ext w wr) (fun _ i _ => npc len - (intOf i).toNat)
  case atStart => exact ⟨0, by omega, rfl, World.ownsRow_nil _ _ _ _, fun _ => rfl, Ext.refl w⟩
  case round =>
    obtain ⟨k, hk, rfl, hown, hnil, hX⟩ := hrel
    by_cases hlt : k < npc len
    · have hki : (k : Int) < (npc len : Int) := by omega
      have hk6 : (k : Int) < 12 := by omega
      have hc := hX.cell (hf.cell hlt)
      have hpk := hp k hlt
      have hsz := hX.size
      cases hD : D k with
      | none =>
        rw [hD] at hpk
        rw [show f k = .slice none 0 0 from hpk] at hc
        have hst := Lib.hid (show hlK len D (k + 1) = hlK len D k by show hlK len D k ++ _ = _; rw [if_neg (by rw [hD]; simp), List.append_nil])
        have HO := Lib.hid hown
        have HNI := Lib.hid hnil
        clear hp hpk hown hD hnil
        go_wp2_with fail
        go_roundw
        case rel => exact ⟨k + 1, by omega, by go_num, by rw [hst.out]; exact HO.out, by rw [hst.out]; exact HNI.out, hX⟩
        case measure => simp [intOf]; omega
      | some s =>
        rw [hD] at hpk
        obtain ⟨g, cap, e1, -⟩ := hpk
        rw [e1] at hc
        have hz := hok k hlt s hD
        have hst := Lib.hid (show hlK len D (k + 1) = hlK len D k ++ [(k * 256, pto k len)] by show hlK len D k ++ _ = _; rw [if_pos (by rw [hD]; rfl)])
        have hlen := Lib.hid (hlK_length len D k)
        have ez : (k : Int) * 256 + (s.size : Int) = ((pto k len : Nat) : Int) := by
          unfold npc at hlt
          rw [hz]; unfold pto; omega
        have hpt : ((pto k len : Nat) : Int) ≤ 4096 := by unfold pto; omega
        have hs6 : (s.size : Int) ≤ 4096 := by omega
        have HO := Lib.hid hown
        clear hp e1 hown hD hnil hz
        go_wp2_with (at_builtin; refine wpList_append_rng wr rfl (.tmp 20) (.tmp 29) rfl w.heap.size (k * 256) (pto k len) _ _ HO.out (by simp) (by first | rfl | exact ez) rfl rfl rfl (by have := hlen.out; omega) hsz ?_)
        intro v' w1 hown' hb
        rw [← hst.out] at hown'
        go_wp2_with fail
        go_roundw
        case rel => exact ⟨k + 1, by omega, by go_num, hown', fun e => by rw [hst.out] at e; simp at e, Below.trans hX hb⟩
        case measure => simp [intOf]; omega
    · obtain rfl : k = npc len := by omega
      have HO := Lib.hid hown
      have HNI := Lib.hid hnil
      have hB := Lib.hid hX.size
      clear hp hown hnil
      go_wp2_with (go_at_call 132; refine (merge_own HO.out HNI.out (Nat.le_trans HLN.out (by omega)) (hlK_ok D (by omega)) (hlK_pw len D _)).mono ?_; rintro e w' ⟨v', rfl, hx, ho', hn'⟩)
      go_ret
      exact ⟨_, rfl, hX.trans hx, own_more ho' hB.out, hn'⟩
theorem RngOwn.shape2 {w : World} {B : Nat} {v : Value} {xs : List (Nat × Nat)} (h : RngOwn w B v xs) : ∃ A cap, v = .slice A xs.length cap ∧ xs.length ≤ cap ∧ (0 < xs.length → ∃ g, A = some ⟨g, 0, none⟩ ∧ RngAt w g xs) := by
  rcases h.shape with ⟨rfl, rfl⟩ | ⟨g, cap, rfl, h1, h2, h3, h4⟩
  · exact ⟨none, 0, rfl, Nat.le_refl _, fun h => by simp at h⟩
  · exact ⟨_, cap, rfl, h1, fun _ => ⟨g, rfl, h4⟩⟩
end Go.Proofs.YtfgjbbpkkbohhaaGreat
