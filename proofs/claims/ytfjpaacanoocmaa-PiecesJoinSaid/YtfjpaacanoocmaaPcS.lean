/- Chapter 20: Join of two bodies that fit. -/
import Derived.Test.YtfjpaacanoocmaaPcQ
namespace Go.Proofs.Ytfjpaacanoocmaa
open Go.RowKit Go.Deep Go.Sort
attribute [local go_sem ↓] Go.wp_at_zero Go.wp_at_succ

def jnK (D E : Nat → Option ByteArray) (k i : Nat) : Option ByteArray := if i < k then (E i).or (D i) else D i
def jn (D E : Nat → Option ByteArray) (i : Nat) : Option ByteArray := (E i).or (D i)
theorem jnK_zero (D E : Nat → Option ByteArray) : jnK D E 0 = D := by funext j; unfold jnK; rw [if_neg (by omega)]
theorem jnK_hit {D E : Nat → Option ByteArray} {k : Nat} {s : ByteArray} (h : E k = some s) : jnK D E (k + 1) = upd (jnK D E k) k (some s) := by
  funext j
  unfold upd jnK
  by_cases e : j = k
  · subst e
    rw [if_pos rfl, if_pos (by omega), h]
    rfl
  · rw [if_neg e]
    by_cases e2 : j < k
    · rw [if_pos e2, if_pos (by omega)]
    · rw [if_neg e2, if_neg (by omega)]
theorem jnK_miss {D E : Nat → Option ByteArray} {k : Nat} (h : E k = none) : jnK D E (k + 1) = jnK D E k := by
  funext j
  unfold jnK
  by_cases e : j = k
  · subst e
    rw [if_pos (by omega), if_neg (by omega), h]
    rfl
  · by_cases e2 : j < k
    · rw [if_pos e2, if_pos (by omega)]
    · rw [if_neg e2, if_neg (by omega)]
theorem equal_same (w : World) (g g' c d : Nat) (s : ByteArray) (hs : BytesAt w g s) (ht : BytesAt w g' s) :
    Calls Try.prog 38 #[.slice (some ⟨g, 0, none⟩) s.size c, .slice (some ⟨g', 0, none⟩) s.size d] w fun e w' => e = .returned (.bool true) ∧ w = w' := by
  have := equal_any w g g' c d s s hs ht
  simpa using this
set_option maxRecDepth 100000 in
set_option maxHeartbeats 4000000 in
theorem join_ok {w : World} {B b l len : Nat} {A : Nat → Prop} {tag : ByteArray} {D : Nat → Option ByteArray} (h : BodyAt w B A b l tag len D) {B' b' l' : Nat} {A' : Nat → Prop} {E : Nat → Option ByteArray} (h' : BodyAt w B' A' b' l' tag len E)
    (hA : ∀ k, A k → k < w.heap.size) (hA' : A' l) (hl : len ≤ 65536) (q1 : (tag.toList == []) = false) (hok : PcOk len E) (hfit : ∀ i, i < npc len → ∀ s s', D i = some s → E i = some s' → s = s') :
    Calls Try.prog 19 #[.pointer (some ⟨b, 0, none⟩), .pointer (some ⟨b', 0, none⟩)] w fun e w' => e = .returned .nilIface ∧ Below B w w' ∧ Kept l w w' ∧ BodyAt w' B A b l tag len (jn D E) ∧ BodyAt w' B' A' b' l' tag len E := by
  have hn : npc len ≤ 256 := by unfold npc; omega
  obtain ⟨i0, hi0, hz0, hz1, hz2⟩ := info_parts u8_info
  have HH := Lib.hid h
  have HH' := Lib.hid h'
  have c0 := h.c0
  have c1 := h.c1
  have c2 := h.c2
  have d0 := h'.c0
  have d1 := h'.c1
  have d2 := h'.c2
  have q2 : ((len : Int) != (len : Int)) = false := by simp
  clear h h'
  go_enter Try.func19, Try.ntmps19
  go_upto_region 3 with fail
  refine wp_region_quiet_lit (by kernel_rfl) (by kernel_rfl) ?_
  repeat (go_big_quiet_step (fail))
  refine wpQuiet_nil ?_
  rintro _ ⟨nq, rfl⟩
  go_wp2_with fail
  go_loopw [49] (fun i wr => ∃ k : Nat, k ≤ npc len ∧ i = .int .i64 k ∧ wr = w.drewN nq) (fun i _ => npc len - (intOf i).toNat)
  case atStart => exact ⟨0, by omega, rfl, rfl⟩
  case round =>
    obtain ⟨k, hk, rfl, rfl⟩ := hrel
    by_cases hlt : k < npc len
    · have hki : (k : Int) < (npc len : Int) := by omega
      obtain ⟨f, hf, hp⟩ := HH.out.row
      obtain ⟨f', hf', hp'⟩ := HH'.out.row
      have hc := hf.cell hlt
      have hc' := hf'.cell hlt
      have hpk := hp k hlt
      have hpk' := hp' k hlt
      cases hD : D k with
      | none =>
        rw [hD] at hpk
        rw [show f k = .slice none 0 0 from hpk] at hc
        clear hp hp' hpk hpk' hD hc' hfit
        go_wp2_with fail
        go_roundw
        case rel => exact ⟨k + 1, by omega, by go_num, by first | rfl | trivial⟩
        case measure => simp [intOf]; omega
      | some s =>
        rw [hD] at hpk
        obtain ⟨g, cap, e1, -, -, -, -, hs⟩ := hpk
        rw [e1] at hc
        cases hE : E k with
        | none =>
          rw [hE] at hpk'
          rw [show f' k = .slice none 0 0 from hpk'] at hc'
          clear hp hp' hpk' hD hE hfit
          go_wp2_with fail
          go_roundw
          case rel => exact ⟨k + 1, by omega, by go_num, by first | rfl | trivial⟩
          case measure => simp [intOf]; omega
        | some s' =>
          rw [hE] at hpk'
          obtain ⟨g', cap', e1', -, -, -, -, hs'⟩ := hpk'
          rw [e1'] at hc'
          obtain rfl := hfit k hlt s s' hD hE
          clear hp hp' hD hE e1 e1' hfit
          go_wp2_with (go_at_call 38; refine (equal_same (w.drewN nq) g g' cap cap' s (fun i hi => hs i hi) (fun i hi => hs' i hi)).mono ?_; rintro e w' ⟨rfl, rfl⟩)
          go_roundw
          case rel => exact ⟨k + 1, by omega, by go_num, by first | rfl | trivial⟩
          case measure => simp [intOf]; omega
    · obtain rfl : k = npc len := by omega
      clear hfit
      go_wp2_with fail
      clear c0 c1 c2 d0 d1 d2
      go_loopw [85] (fun i wr => ∃ k : Nat, k ≤ npc len ∧ i = .int .i64 k ∧ Below B w wr ∧ Kept l w wr ∧ BodyAt wr B A b l tag len (jnK D E k) ∧ BodyAt wr B' A' b' l' tag len E) (fun i _ => npc len - (intOf i).toNat)
      case atStart =>
        exact ⟨0, by omega, rfl, Below.mono ((Ext.refl w).drewN nq) (Nat.le_trans HH.out.hb (Nat.le_of_lt (World.block_lt_of_cell? w _ HH.out.c0))), Kept.of_ext l ((Ext.refl w).drewN nq), by rw [jnK_zero]; exact HH.out.ext ((Ext.refl w).drewN nq), HH'.out.ext ((Ext.refl w).drewN nq)⟩
      case round =>
        obtain ⟨k, hk, rfl, hbl, hkp, hB, hE⟩ := hrel
        by_cases hlt : k < npc len
        · have hki : (k : Int) < (npc len : Int) := by omega
          have c2 := hB.c2
          obtain ⟨f, hf, hp⟩ := hB.row
          obtain ⟨f', hf', hp'⟩ := hE.row
          have hc := hf.cell hlt
          have hfz := hf.frozen k
          have hc' := hf'.cell hlt
          have hpk' := hp' k hlt
          cases hEk : E k with
          | none =>
            rw [hEk] at hpk'
            rw [show f' k = .slice none 0 0 from hpk'] at hc'
            have HJ := Lib.hid (jnK_miss (D := D) hEk)
            have HB := Lib.hid hB
            have HE := Lib.hid hE
            clear hp hp' hpk' hEk hB hE
            go_wp2_with fail
            go_roundw
            case rel => exact ⟨k + 1, by omega, by go_num, hbl, hkp, by rw [HJ.out]; exact HB.out, HE.out⟩
            case measure => simp [intOf]; omega
          | some s =>
            rw [hEk] at hpk'
            obtain ⟨g, cap, e1, e2, e3, e4, e5, hs⟩ := hpk'
            rw [e1] at hc'
            have HJ := Lib.hid (jnK_hit (D := D) hEk)
            have hz := hok k hlt s hEk
            have hkl : k * 256 < len := by unfold npc at hlt; omega
            have hs6 : s.size ≤ 256 := by rw [hz]; unfold pto; omega
            have hs0 : 1 ≤ s.size := by rw [hz]; unfold pto; omega
            have hrd : Reads wr wr.heap.size 1 (some ⟨g, 0, none⟩) s.size ((byteIs s).map (Value.int .u8)) := by
              refine ⟨by simp [byteIs_length], fun _ => ⟨_, rfl, e5, fun j u hu => ?_⟩⟩
              have hj : j < s.size := by
                have := (List.getElem?_eq_some_iff.1 hu).1
                simpa [byteIs_length] using this
              rw [Addr.add_lit, Nat.zero_add, hs j hj, ← hu, List.getElem?_map, List.getElem?_eq_getElem (by rw [byteIs_length]; exact hj)]
              simp [List.getD, byteIs_length, hj]
            have hrd6 : Reads (wr.alloc (.cells #[] 5)).drew wr.heap.size 1 (some ⟨g, 0, none⟩) s.size ((byteIs s).map (Value.int .u8)) := (hrd.alloc (Nat.le_refl _) _).drew
            have hown : (wr.alloc (.cells #[] 5)).drew.ownsRow wr.heap.size 5 1 (.slice (some ⟨wr.heap.size, 0, none⟩) 0 0) 0 [] := by
              refine ⟨rfl, .inr ⟨wr.heap.size, 0, #[], rfl, Nat.le_refl _, heap_alloc_new wr _, Nat.le_refl _, by simp only [maxLen]; omega, rfl, rfl⟩⟩
            have hone : ∀ v ∈ (byteIs s).map (Value.int .u8), v.oneCell' = true := by
              intro v hv
              obtain ⟨n, -, rfl⟩ := List.mem_map.1 hv
              rfl
            have hbz : b < wr.heap.size := World.block_lt_of_cell? wr _ c2
            have hlz : l < wr.heap.size := hf.lt
            have hc6 : (wr.alloc (.cells #[] 5)).drew.cell? ⟨l, k, none⟩ = some (f k) := Ext.cell (((Ext.refl wr).alloc _).drew) hc
            have hf6 : (wr.alloc (.cells #[] 5)).drew.frozen? ⟨l, k, none⟩ = false := (Ext.frozen (((Ext.refl wr).alloc _).drew) hc).trans hfz
            have hd6 : (wr.alloc (.cells #[] 5)).drew.cell? ⟨b, 2, none⟩ = some (.slice (some ⟨l, 0, none⟩) (npc len) (npc len)) := Ext.cell (((Ext.refl wr).alloc _).drew) c2
            have HB := Lib.hid hB
            have HE := Lib.hid hE
            have HAV : Hid (∀ k, A k → k < wr.heap.size) := fun k hk => Nat.lt_of_lt_of_le (hA k hk) hkp.1
            have hBl := hB.hl
            have HKP := Lib.hid hkp
            have HBL := Lib.hid hbl
            have HEK := Lib.hid hEk
            have qa : decide ((k : Int) < 0) = false := by simp
            have qb : decide (npc len ≤ k) = false := by simp; omega
            clear hp hp' hEk hB hE hz hs e1 hkp hbl
            go_upto_region 15 with fail
            go_region_law (first
              | (refine step_append_any _ (by rfl) _ _ _ (by rfl) wr.heap.size 5 i0 _ 1 1 Try.underlying38 hi0 hz0 hz1 hz2 rfl (by omega) (.slice (some ⟨wr.heap.size, 0, none⟩) 0 0) 0 [] (by rfl) hown wr.heap.size (some ⟨g, 0, none⟩) s.size cap ((byteIs s).map (Value.int .u8)) (by rfl) hrd6 hone (by simp only [maxLen]; omega) (by omega) (by simp) ?_
                 intro v7 w7 hown7 hg7 hat7
                 rw [Nat.zero_add, List.nil_append] at hown7
                 obtain ⟨g7, cap7, rfl, hb7, hl7, hm7, hz7⟩ := own_some hown7 (by rcases hat7 with e | e <;> rw [e] <;> simp [Value.ownBlock])
                 have bl7 := hg7.block l (by simp; omega) (by simp [Value.ownBlock]; omega)
                 have bb7 := hg7.block b (by simp; omega) (by simp [Value.ownBlock]; omega)
                 have c7 : w7.cell? ⟨l, k, none⟩ = some (f k) := (World.cell?_of_block bl7).trans hc6
                 have f7 : w7.frozen? ⟨l, k, none⟩ = false := (World.frozen?_of_block bl7).trans hf6
                 have d7 : w7.cell? ⟨b, 2, none⟩ = some (.slice (some ⟨l, 0, none⟩) (npc len) (npc len)) := (World.cell?_of_block bb7).trans hd6
                 have X7 : Ext wr w7 := Below.grown (((Ext.refl wr).alloc _).drew) hg7 (Ext.size (((Ext.refl wr).alloc _).drew)) (own_ge (Nat.le_refl _))
                 have Y7 := (HB.out.ext X7).set k (.slice (some ⟨g7, 0, none⟩) s.size cap7) (some s) ⟨g7, cap7, rfl, hl7, ⟨by omega, fun e => by have := HAV.out _ e; omega⟩, by omega, hz7, own_bytes hown7⟩
                 have Z7 : Below B w (w7.setCell ⟨l, k, none⟩ (.slice (some ⟨g7, 0, none⟩) s.size cap7)) := (Below.trans HBL.out (Below.mono X7 (by omega))).setCell hBl _
                 have K7' : Kept l wr (w7.setCell ⟨l, k, none⟩ (.slice (some ⟨g7, 0, none⟩) s.size cap7)) := (Kept.of_ext l X7).set _ _
                 have K7 := HKP.out.trans K7'
                 have E7 := HE.out.kept K7' hA'))
            all_goals go_wp2_with fail
            all_goals exact ⟨⟨k + 1, by omega, by go_num, Z7, K7, by rw [HJ.out]; exact Y7, E7⟩, by simp [intOf]; omega⟩
        · obtain rfl : k = npc len := by omega
          clear hk hlt
          have HB := Lib.hid hB
          have HE := Lib.hid hE
          clear hB hE
          go_wp2_with fail
          go_ret
          exact ⟨rfl, hbl, hkp, HB.out.congr fun j hj => by unfold jnK jn; rw [if_pos hj], HE.out⟩
end Go.Proofs.Ytfjpaacanoocmaa
