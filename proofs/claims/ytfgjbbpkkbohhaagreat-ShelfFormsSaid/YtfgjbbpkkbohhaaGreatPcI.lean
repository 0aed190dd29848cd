/- Chapter 20: Missing. -/
import Derived.Test.YtfgjbbpkkbohhaaGreatPcH
import Derived.Test.YtfgjbbpkkbohhaaGreatTail
namespace Go.Proofs.YtfgjbbpkkbohhaaGreat
open Go.RowKit Go.Deep Go.Sort

/-- those of a list of pieces that are not there -/
def gaps (D : Nat → Option ByteArray) (l : List Nat) : List Nat := l.filter fun i => !(D i).isSome
theorem IntsOwn.cell {w : World} {B : Nat} {v : Value} {xs : List Nat} (h : IntsOwn w B v xs) (i : Nat) (hi : i < xs.length) :
    ∃ g cap, v = .slice (some ⟨g, 0, none⟩) xs.length cap ∧ xs.length ≤ cap ∧ B ≤ g ∧ g < w.heap.size ∧ w.cell? ⟨g, i, none⟩ = some (.int .i64 ((xs[i]? ).getD 0 : Nat)) := by
  rcases h.2 with ⟨_, e⟩ | ⟨g, cap, cur, rfl, hb, hh, hl, hm, hc, ht⟩
  · omega
  · refine ⟨g, cap, rfl, hl, hb, (Array.getElem?_eq_some_iff.1 hh).1, ?_⟩
    rw [cell_of_row w g i cur _ _ hh]
    have h1 : (cur.toList.take (xs.length * 1))[i]? = some (Value.int .i64 (((xs[i]?).getD 0 : Nat) : Int)) := by
      rw [ht, List.getElem?_map, List.getElem?_eq_getElem hi]
      rfl
    rw [List.getElem?_take] at h1
    simpa [hi] using h1
theorem IntsOwn.shape {w : World} {B : Nat} {v : Value} {xs : List Nat} (h : IntsOwn w B v xs) : ∃ A cap, v = .slice A xs.length cap ∧ xs.length ≤ cap ∧ (A = none → xs.length = 0) := by
  rcases h.2 with ⟨rfl, e⟩ | ⟨g, cap, cur, rfl, hb, hh, hl, hm, hc, ht⟩
  · exact ⟨none, 0, by rw [e], by omega, fun _ => e⟩
  · exact ⟨_, cap, rfl, hl, fun e => by cases e⟩
theorem IntsOwn.more {w : World} {B B' : Nat} {v : Value} {xs : List Nat} (h : IntsOwn w B v xs) (hb : B' ≤ B) : IntsOwn w B' v xs := by
  refine ⟨h.1, ?_⟩
  rcases h.2 with ⟨rfl, e⟩ | ⟨g, cap, cur, rfl, hg, r⟩
  · exact .inl ⟨rfl, e⟩
  · exact .inr ⟨g, cap, cur, rfl, by omega, r⟩
theorem pcs_mem {f t len i : Nat} (ht : t ≤ len) (hi : i ∈ pcs f t) : i < npc len := by
  unfold pcs at hi
  split at hi
  · have h := (List.mem_range'_1.1 hi).2
    unfold npc
    omega
  · cases hi
theorem gaps_take (D : Nat → Option ByteArray) (l : List Nat) (k : Nat) (hk : k < l.length) : gaps D (l.take (k + 1)) = gaps D (l.take k) ++ (if (D ((l[k]?).getD 0)).isSome then [] else [(l[k]?).getD 0]) := by
  unfold gaps
  rw [List.take_add_one, List.filter_append, List.getElem?_eq_getElem hk]
  simp only [Option.getD_some]
  cases h : D l[k] <;> simp [h]
theorem gaps_length (D : Nat → Option ByteArray) (l : List Nat) : (gaps D l).length ≤ l.length := List.length_filter_le _ _
theorem pcs_length (f t : Nat) (h : t ≤ 65536) : (pcs f t).length ≤ 256 := by
  unfold pcs
  split
  · simp; omega
  · simp
set_option maxRecDepth 100000 in
set_option maxHeartbeats 4000000 in
theorem missing_any {w : World} {B b l len : Nat} {A : Nat → Prop} {tag : ByteArray} {D : Nat → Option ByteArray} (h : BodyAt w B A b l tag len D) (F T : Int) (f t : Nat) (hl : len ≤ 65536) (hf : (f : Int) = max 0 F) (hF : F ≤ 9223372036854775807) (ht : t = (min T len).toNat) :
    Calls Tryz.prog 57 #[.pointer (some ⟨b, 0, none⟩), rngV F T] w fun e w' => ∃ v, e = .returned v ∧ Ext w w' ∧ IntsOwn w' w.heap.size v (gaps D (pcs f t)) := by
  have c1 := h.c1
  have hb1 : (w.alloc (.cells #[.int .i64 F, .int .i64 T] 48)).drew.cell? ⟨b, 1, none⟩ = some (.int .i64 len) := (((Ext.refl w).alloc _).drew).cell c1
  have hb2 : (w.alloc (.cells #[.int .i64 F, .int .i64 T] 48)).cell? ⟨b, 1, none⟩ = some (.int .i64 len) := ((Ext.refl w).alloc _).cell c1
  have HP := Lib.hid (fun W => pieces_any F T len f t hl hf hF ht W)
  have HT := Lib.hid (show t ≤ len by omega)
  clear hf ht
  go_enter Tryz.func57, Tryz.ntmps57
  go_upto_region 4 with fail
  go_cut [15, 16, 17] (fun v n i wx => ∃ A1 cap1, v = .slice A1 (pcs f t).length cap1 ∧ n = .int .i64 (pcs f t).length ∧ i = .int .i64 0 ∧ (pcs f t).length ≤ cap1 ∧ IntsOwn wx w.heap.size (.slice A1 (pcs f t).length cap1) (pcs f t) ∧ Ext w wx)
  case first =>
    go_region_with (go_at_call 106; refine (HP.out _).mono ?_; rintro e w1 ⟨v1, rfl, hx, ho⟩; obtain ⟨A1, cap1, rfl, hcap1, -⟩ := ho.shape)
    all_goals go_wp2_with fail
    all_goals go_meet
    all_goals exact ⟨A1, cap1, rfl, rfl, rfl, hcap1, ho.more (by simp), (((Ext.refl w).alloc _).drew).trans hx⟩
  case rest =>
  obtain ⟨A1, cap1, rfl, rfl, rfl, hcap1, ho, X1⟩ := hcut
  clear hb1 hb2 HP
  have hBl := X1.size
  go_wp2_with fail
  go_loopw [5, 17] (fun v i wr => ∃ k : Nat, k ≤ (pcs f t).length ∧ i = .int .i64 k ∧ IntsOwn wr wc.heap.size v (gaps D ((pcs f t).take k)) ∧ Ext wc wr) (fun _ i _ => (pcs f t).length - (intOf i).toNat)
  case atStart => exact ⟨0, by omega, rfl, World.ownsRow_nil _ _ _ _, Ext.refl _⟩
  case round =>
    obtain ⟨k, hk, rfl, hown, hX⟩ := hrel
    by_cases hlt : k < (pcs f t).length
    · obtain ⟨g1, cp1, e1, e2, e3, e4, e5⟩ := ho.cell k hlt
      simp only [Value.slice.injEq, true_and] at e1
      obtain ⟨rfl, rfl⟩ := e1
      obtain ⟨i, hi⟩ : ∃ i, (pcs f t)[k]? = some i := ⟨_, List.getElem?_eq_getElem hlt⟩
      rw [hi] at e5
      simp only [Option.getD_some] at e5
      have hil : i < npc len := pcs_mem (by have := HT.out; omega) (List.mem_of_getElem? hi)
      have e6 : wr.cell? ⟨g1, k, none⟩ = some (.int .i64 (i : Nat)) := hX.cell e5
      have hg := gaps_take D (pcs f t) k hlt
      rw [hi, Option.getD_some] at hg
      have HR := Lib.hid (h.ext (X1.trans hX))
      have hsz := hX.size
      have hki : (k : Int) < ((pcs f t).length : Int) := by omega
      have HL := pcs_length f t (by have := HT.out; omega)
      have hk6 : k ≤ 256 := by omega
      have hln := Lib.hid (show (gaps D ((pcs f t).take k)).length ≤ 256 from Nat.le_trans (gaps_length D ((pcs f t).take k)) (by rw [List.length_take]; omega))
      clear HL
      cases hD : (D i).isSome with
      | true =>
        rw [hD, if_pos rfl, List.append_nil] at hg
        have HG := Lib.hid hg
        clear hg e5 e3 e4 hi
        go_wp2_with (go_at_call 107; refine (has_in HR.out hl i hil).mono ?_; rw [hD]; rintro e w' ⟨rfl, rfl⟩)
        go_roundw
        case rel => exact ⟨k + 1, by omega, by go_num, by rw [HG.out]; exact hown, hX⟩
        case measure => simp [intOf]; omega
      | false =>
        rw [hD, if_neg (by simp)] at hg
        have HG := Lib.hid hg
        clear hg e5 e3 e4 hi
        go_wp2_with (first | (go_at_call 107; refine (has_in HR.out hl i hil).mono ?_; rw [hD]; rintro e w' ⟨rfl, rfl⟩) | (at_builtin; refine wpList_append_int wr rfl _ _ rfl wc.heap.size i _ hown rfl rfl rfl (by have := hln.out; omega) hsz ?_))
        intro v' w1 hown' hb
        rw [← HG.out] at hown'
        go_wp2_with fail
        go_roundw
        case rel => exact ⟨k + 1, by omega, by go_num, hown', Below.trans hX hb⟩
        case measure => simp [intOf]; omega
    · obtain rfl : k = (pcs f t).length := by omega
      rw [List.take_length] at hown
      go_wp2_with fail
      go_ret
      exact ⟨_, rfl, X1.trans hX, hown.more hBl⟩
end Go.Proofs.YtfgjbbpkkbohhaaGreat
