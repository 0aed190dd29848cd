/- Chapter 20: Held and Cover. -/
import Derived.Test.YtfjpaacanoocmaaPd3
namespace Go.Proofs.Ytfjpaacanoocmaa
open Go.RowKit Go.Deep Go.Sort

/-- Merge of a list that a call has made, in order, whatever its length -/
theorem merge_own {w : World} {B : Nat} {v : Value} {xs : List (Nat × Nat)} (h : RngOwn w B v xs) (hnil : xs = [] → v = .slice none 0 0) (hn : xs.length ≤ 12) (ho : Okr xs) (hp : xs.Pairwise fun x y => x.1 ≤ y.1) :
    Calls Try.prog 40 #[v] w fun e w' => ∃ v', e = .returned v' ∧ Ext w w' ∧ RngOwn w' w.heap.size v' (mg xs) ∧ (mg xs = [] → v' = .slice none 0 0) := by
  rcases Nat.eq_zero_or_pos xs.length with h0 | h0
  · have e := List.eq_nil_of_length_eq_zero h0
    rw [hnil e, e]
    refine (merge_nil w).mono ?_
    rintro e w' ⟨rfl, hx⟩
    exact ⟨_, rfl, hx, World.ownsRow_nil _ _ _ _, fun _ => rfl⟩
  · rcases h.shape with ⟨rfl, e⟩ | ⟨g, cap, rfl, h1, h2, h3, h4⟩
    · rw [e] at h0; simp at h0
    · refine (merge_ok h4 hn h0 (fun i hi => pw_at hp i hi) ho).mono ?_
      rintro e w' ⟨v', rfl, hx, ho'⟩
      refine ⟨v', rfl, hx, ho', fun e => ?_⟩
      exfalso
      obtain ⟨r, hr⟩ := List.exists_mem_of_ne_nil xs (fun e => by rw [e] at h0; simp at h0)
      have hrr := ho r hr
      have := ((mg_facts xs ho hp).2.2 r.1).2 ⟨r, hr, Nat.le_refl _, hrr.1⟩
      rw [e] at this
      exact cov_nil _ this
set_option maxRecDepth 100000 in
theorem held_rng {w : World} {B b l len : Nat} {A : Nat → Prop} {tag : ByteArray} {D : Nat → Option ByteArray} (h : BodyAt w B A b l tag len D) (hok : PcOk len D) (hl : len ≤ 3072) :
    Calls Try.prog 24 #[.pointer (some ⟨b, 0, none⟩)] w fun e w' => ∃ v, e = .returned v ∧ Ext w w' ∧ RngOwn w' w.heap.size v (mg (hlK len D (npc len))) ∧ (mg (hlK len D (npc len)) = [] → v = .slice none 0 0) := by
  have hn : npc len ≤ 12 := by unfold npc; omega
  have c2 := h.c2
  obtain ⟨f, hf, hp⟩ := h.row
  have HLN := Lib.hid (hlK_length len D (npc len))
  go_enter Try.func24, Try.ntmps24
  go_wp2_with fail
  go_loopw [3, 13] (fun v i wr => ∃ k : Nat, k ≤ npc len ∧ i = .int .i64 k ∧ RngOwn wr w.heap.size v (hlK len D k) ∧ (hlK len D k = [] → v = .slice none 0 0) ∧ Ext w wr) (fun _ i _ => npc len - (intOf i).toNat)
  case atStart => exact ⟨0, by omega, rfl, World.ownsRow_nil _ _ _ _, fun _ => rfl, Ext.refl w⟩
  case round =>
    obtain ⟨k, hk, rfl, hown, hnil, hX⟩ := hrel
    by_cases hlt : k < npc len
    · have hki : (k : Int) < (npc len : Int) := by omega
      have hk6 : (k : Int) < 12 := by omega
      have hc := hX.cell (hf.cell hlt)
      have hpk := hp k hlt
      have hsz := hX.size
      cases hD : D k with
      | none =>
        rw [hD] at hpk
        rw [show f k = .slice none 0 0 from hpk] at hc
        have hst := Lib.hid (show hlK len D (k + 1) = hlK len D k by show hlK len D k ++ _ = _; rw [if_neg (by rw [hD]; simp), List.append_nil])
        have HO := Lib.hid hown
        have HNI := Lib.hid hnil
        clear hp hpk hown hD hnil
        go_wp2_with fail
        go_roundw
        case rel => exact ⟨k + 1, by omega, by go_num, by rw [hst.out]; exact HO.out, by rw [hst.out]; exact HNI.out, hX⟩
        case measure => simp [intOf]; omega
      | some s =>
        rw [hD] at hpk
        obtain ⟨g, cap, e1, -⟩ := hpk
        rw [e1] at hc
        have hz := hok k hlt s hD
        have hst := Lib.hid (show hlK len D (k + 1) = hlK len D k ++ [(k * 256, pto k len)] by show hlK len D k ++ _ = _; rw [if_pos (by rw [hD]; rfl)])
        have hlen := Lib.hid (hlK_length len D k)
        have ez : (k : Int) * 256 + (s.size : Int) = ((pto k len : Nat) : Int) := by
          unfold npc at hlt
          rw [hz]; unfold pto; omega
        have hpt : ((pto k len : Nat) : Int) ≤ 4096 := by unfold pto; omega
        have hs6 : (s.size : Int) ≤ 4096 := by omega
        have HO := Lib.hid hown
        clear hp e1 hown hD hnil hz
        go_wp2_with (at_builtin; refine wpList_append_rng wr rfl (.tmp 20) (.tmp 29) rfl w.heap.size (k * 256) (pto k len) _ _ HO.out (by simp) (by first | rfl | exact ez) rfl rfl rfl (by have := hlen.out; omega) hsz ?_)
        intro v' w1 hown' hb
        rw [← hst.out] at hown'
        go_wp2_with fail
        go_roundw
        case rel => exact ⟨k + 1, by omega, by go_num, hown', fun e => by rw [hst.out] at e; simp at e, Below.trans hX hb⟩
        case measure => simp [intOf]; omega
    · obtain rfl : k = npc len := by omega
      have HO := Lib.hid hown
      have HNI := Lib.hid hnil
      have hB := Lib.hid hX.size
      clear hp hown hnil
      go_wp2_with (go_at_call 40; refine (merge_own HO.out HNI.out (Nat.le_trans HLN.out (by omega)) (hlK_ok D (by omega)) (hlK_pw len D _)).mono ?_; rintro e w' ⟨v', rfl, hx, ho', hn'⟩)
      go_ret
      exact ⟨_, rfl, hX.trans hx, own_more ho' hB.out, hn'⟩
theorem RngOwn.shape2 {w : World} {B : Nat} {v : Value} {xs : List (Nat × Nat)} (h : RngOwn w B v xs) : ∃ A cap, v = .slice A xs.length cap ∧ xs.length ≤ cap ∧ (0 < xs.length → ∃ g, A = some ⟨g, 0, none⟩ ∧ RngAt w g xs) := by
  rcases h.shape with ⟨rfl, rfl⟩ | ⟨g, cap, rfl, h1, h2, h3, h4⟩
  · exact ⟨none, 0, rfl, Nat.le_refl _, fun h => by simp at h⟩
  · exact ⟨_, cap, rfl, h1, fun _ => ⟨g, rfl, h4⟩⟩
set_option maxRecDepth 100000 in
theorem cover_any {w : World} {B : Nat} {v : Value} {xs : List (Nat × Nat)} (h : RngOwn w B v xs) (hnil : xs = [] → v = .slice none 0 0) (hn : xs.length ≤ 12) (ho : Okr xs) (hp : xs.Pairwise fun x y => x.1 ≤ y.1) (f t : Nat) (c : Bool) (hft : f < t → (c = true ↔ ∃ x ∈ mg xs, x.1 ≤ f ∧ t ≤ x.2)) (hc : ¬ f < t → c = true) :
    Calls Try.prog 23 #[v, rngV f t] w fun e w' => e = .returned (.bool c) ∧ Ext w w' := by
  by_cases hlt : f < t
  · have q1 : ¬ (t ≤ f) := by omega
    have HFT := Lib.hid (hft hlt)
    have hX0 : Ext w (w.alloc (.cells #[.int .i64 f, .int .i64 t] 43)) := (Ext.refl w).alloc _
    have HM := Lib.hid (merge_own (h.ext hX0) hnil hn ho hp)
    have HLN := Lib.hid (Nat.le_trans (mg_length xs) hn)
    have HBX := Lib.hid (RowB.laid w 43 [.int .i64 f, .int .i64 t])
    clear hft hc hlt h hnil
    go_enter Try.func23, Try.ntmps23
    go_upto_region 4 with (go_at_call 40; refine HM.out.mono ?_; rintro e w1 ⟨v1, rfl, hx1, ho1, -⟩; obtain ⟨A1, cap1, rfl, hc1, hra⟩ := ho1.shape2)
    obtain ⟨n, hxn⟩ : ∃ n, (mg xs).length = n := ⟨_, rfl⟩
    have HN := Lib.hid hxn
    rw [hxn] at hc1 hra ⊢
    have hn12 : n ≤ 12 := by have := HLN.out; omega
    have X1 := hX0.trans hx1
    have HB1 := Lib.hid (HBX.out.ext hx1)
    clear ho1 hxn
    go_wp2_with fail
    go_loopw [15] (fun i wr => ∃ k : Nat, k ≤ n ∧ i = .int .i64 k ∧ Ext w1 wr ∧ ∀ j, j < k → ∀ x, (mg xs)[j]? = some x → ¬ (x.1 ≤ f ∧ t ≤ x.2)) (fun i _ => n - (intOf i).toNat)
    case atStart => exact ⟨0, by omega, rfl, Ext.refl _, fun j hj => by omega⟩
    case round =>
      obtain ⟨k, hk, rfl, hX, hall⟩ := hrel
      by_cases hkn : k < n
      · have hki : (k : Int) < (n : Int) := by omega
        have hk6 : (k : Int) < 13 := by omega
        obtain ⟨g, rfl, hr⟩ := hra (by omega)
        obtain ⟨x, hx⟩ : ∃ x, (mg xs)[k]? = some x := ⟨_, List.getElem?_eq_getElem (by rw [HN.out]; exact hkn)⟩
        have hcell := hr.ext hX k (by rw [HN.out]; exact hkn)
        rw [hx, Option.getD_some] at hcell
        obtain ⟨c0, c1⟩ := hcell
        have b0 := fun o => (HB1.out.ext (hX.alloc o)).cell (j := 0) rfl
        have b1 := fun o => (HB1.out.ext (hX.alloc o)).cell (j := 1) rfl
        obtain ⟨a, ha⟩ : ∃ a, a = x.1 := ⟨_, rfl⟩
        obtain ⟨z, hz⟩ : ∃ z, z = x.2 := ⟨_, rfl⟩
        rw [← ha] at c0
        rw [← hz] at c1
        have HXX := Lib.hid hx
        have HAZ := Lib.hid (And.intro ha hz)
        have HALL := Lib.hid hall
        have hkc : k < cap1 := by omega
        have hno : ¬ (a ≤ f ∧ t ≤ z) → ∀ j, j < k + 1 → ∀ x, (mg xs)[j]? = some x → ¬ (x.1 ≤ f ∧ t ≤ x.2) := by
          intro hn j hj y hy
          by_cases e : j = k
          · subst e
            rw [HXX.out] at hy
            obtain rfl := Option.some.inj hy
            rw [← HAZ.out.1, ← HAZ.out.2]; exact hn
          · exact HALL.out j (by omega) y hy
        have HNO := Lib.hid hno
        clear hx ha hz hall hno hra hr
        by_cases h1 : a ≤ f
        · have p1 : decide (a ≤ f) = true := decide_eq_true h1
          by_cases h2 : t ≤ z
          · have p2 : decide (t ≤ z) = true := decide_eq_true h2
            have hcc : c = true := (HFT.out).2 ⟨x, List.mem_of_getElem? HXX.out, by rw [← HAZ.out.1]; exact h1, by rw [← HAZ.out.2]; exact h2⟩
            subst hcc
            go_wp2_with fail
            go_ret
            exact ⟨rfl, X1.trans (hX.alloc _)⟩
          · have p2 : decide (t ≤ z) = false := decide_eq_false h2
            have HH := Lib.hid (HNO.out (fun h => h2 h.2))
            clear h1 h2
            go_wp2_with fail
            go_roundw
            case rel => exact ⟨k + 1, by omega, by go_num, hX.alloc _, HH.out⟩
            case measure => simp [intOf]; omega
        · have p1 : decide (a ≤ f) = false := decide_eq_false h1
          have HH := Lib.hid (HNO.out (fun h => h1 h.1))
          clear h1
          go_wp2_with fail
          go_roundw
          case rel => exact ⟨k + 1, by omega, by go_num, hX.alloc _, HH.out⟩
          case measure => simp [intOf]; omega
      · obtain rfl : k = n := by omega
        have hcc : c = false := by
          cases hc0 : c with
          | false => rfl
          | true =>
            exfalso
            obtain ⟨x, hx, h1, h2⟩ := (HFT.out).1 hc0
            obtain ⟨j, hj⟩ := List.getElem?_of_mem hx
            have hjl := (List.getElem?_eq_some_iff.1 hj).1
            rw [HN.out] at hjl
            exact hall j hjl x hj ⟨h1, h2⟩
        subst hcc
        clear hall hra
        go_wp2_with fail
        go_ret
        exact ⟨rfl, X1.trans hX⟩
  · have q1 : t ≤ f := by omega
    obtain rfl := hc hlt
    clear hft hc hlt
    go_enter Try.func23, Try.ntmps23
    go_wp2_with fail
    go_ret
    exact ⟨rfl, (Ext.refl w).alloc _⟩
end Go.Proofs.Ytfjpaacanoocmaa
