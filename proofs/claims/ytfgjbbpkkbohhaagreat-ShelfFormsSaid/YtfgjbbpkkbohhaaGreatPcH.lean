/- Chapter 20: ranges.Pieces. -/
import Derived.Test.YtfgjbbpkkbohhaaGreatPcF
import Derived.Deep.RegionWith
import Derived.Test.YtfgjbbpkkbohhaaGreatQuiet
namespace Go.Proofs.YtfgjbbpkkbohhaaGreat
open Go.RowKit Go.Deep Go.Sort

/-- a slice of ints that a call has made -/
def IntsOwn (w : World) (B : Nat) (v : Value) (xs : List Nat) : Prop := w.ownsRow B 3 1 v xs.length (xs.map fun n : Nat => .int .i64 (n : Int))
theorem int_info : (Tryz.prog.info? 3).map (fun i => (i.zero, i.size, i.bytes)) = some (some (.int .i64 0), 1, 8) := by kernel_rfl
/-- the pieces of a range -/
def pcs (f t : Nat) : List Nat := if f < t then List.range' (f / 256) ((t + 255) / 256 - f / 256) else []
theorem own_base {w : World} {base : Nat} {e : TypeId} {size : Nat} {v : Value} {n : Nat} {xs : List Value} (h : w.ownsRow base e size v n xs) : ∀ g, v.ownBlock = some g → base ≤ g := by
  intro g hg
  rcases h.2 with ⟨rfl, _⟩ | ⟨g', cap, cur, rfl, hb, _⟩
  · simp [Value.ownBlock] at hg
  · have e : g' = g := by simpa [Value.ownBlock] using hg
    omega
/-- 'append(out, m)' of one int onto a slice of the call's own -/
theorem wpList_append_int (w : World) {ops : Array Oper} {rest : List Oper} {o : Oper} {a : Act} {Q : Exit → Act → World → Prop} (hg : o.guard = none) (s x : Operand)
    (ho : o.op = .call { callee := .builtin .append, args := #[s, x], argTypes := #[44, 44] }) (B : Nat) {v : Value} {xs : List Nat} (m : Nat) (u : Int) (hown : IntsOwn w B v xs) (hu : u = (m : Int)) (hs : a.eval s = v)
    (hx : a.eval x = .slice (some ⟨w.heap.size, 0, none⟩) 1 1) (hlen : xs.length ≤ 1000000000) (hB : B ≤ w.heap.size)
    (h : ∀ v' w', IntsOwn w' B v' (xs ++ [m]) → Below B w w' → wpList Tryz.prog ops Q rest (a.put o.dst v') w') : wpList Tryz.prog ops Q (o :: rest) a (w.alloc (.cells #[.int .i64 u] 3)) := by
  subst hu
  obtain ⟨i0, hi0, hz0, hz1, hz2⟩ := info_parts int_info
  refine wpList_append_own _ hg s x 44 ho B 3 i0 (.int .i64 0) 1 8 Tryz.underlying44 hi0 hz0 hz1 hz2 rfl (by decide) v xs.length _ hs (hown.alloc _) ⟨w.heap.size, 0, none⟩ 1 1 [.int .i64 (m : Int)] hx rfl ?_ ?_ ?_ ?_ ?_ ?_
  · intro j y hj
    match j, hj with
    | 0, hj => simp at hj; subst hj; simp [Addr.add]
  · intro y hy; simp at hy; subst hy; rfl
  · simp only [maxLen]; omega
  · omega
  · simp; omega
  · intro v' w1 hown' hgrow _
    refine h v' w1 ?_ ?_
    · unfold IntsOwn
      rw [List.length_append, List.map_append]
      exact hown'
    · exact Below.grown (Below.alloc (Below.refl _ _) hB _) hgrow (by simp; omega) (own_base hown)
theorem rclip_any (n : Nat) (hn : n ≤ 65536) (w : World) : Calls Tryz.prog 145 #[.int .i64 n] w fun e w' => e = .returned (.int .i64 n) ∧ w = w' := by
  have a1 : ¬ ((65536 : Int) < n) := by omega
  have a5 : ¬ ((n : Int) < 0) := by omega
  go_enter Tryz.func145, Tryz.ntmps145
  go_wp2_with fail
  all_goals go_ret
  all_goals exact ⟨ret_int (by omega), rfl⟩
set_option maxRecDepth 100000 in
set_option maxHeartbeats 4000000 in
theorem pieces_any (F T : Int) (len f t : Nat) (hl : len ≤ 65536) (hf : (f : Int) = max 0 F) (hF : F ≤ 9223372036854775807) (ht : t = (min T len).toNat) (w : World) :
    Calls Tryz.prog 106 #[rngV F T, .int .i64 len] w fun e w' => ∃ v, e = .returned v ∧ Ext w w' ∧ IntsOwn w' w.heap.size v (pcs f t) := by
  obtain ⟨i0, hi0, hz0, hz1, hz2⟩ := info_parts int_info
  have hfm : (f : Int) ≤ 9223372036854775807 := by omega
  have hm1 : max 0 F = (f : Int) := hf.symm
  clear hf
  have hm2 : (min T len : Int) ≤ 65536 := by omega
  obtain ⟨u, hu⟩ : ∃ u : Int, min T len = u := ⟨_, rfl⟩
  rw [hu] at hm2 ht
  have HU := Lib.hid (show (f : Int) < u ↔ f < t by omega)
  have HT := Lib.hid ht
  clear ht
  go_enter Tryz.func106, Tryz.ntmps106
  go_upto_region 1 with fail
  have c0 : ∀ n : Wd (w.alloc (.cells #[.int .i64 F, .int .i64 T] 48)), n.val.cell? ⟨w.heap.size, 0, none⟩ = some (.int .i64 F) := fun n => n.ext.cell (by simp)
  have c1 : ∀ n : Wd (w.alloc (.cells #[.int .i64 F, .int .i64 T] 48)), n.val.cell? ⟨w.heap.size, 1, none⟩ = some (.int .i64 T) := fun n => n.ext.cell (by simp)
  refine wp_region_wd (by kernel_rfl) (by kernel_rfl) ?_
  repeat (first | go_big_quiet_step ((go_at_call 145; exact Calls.wd_of_same (rclip_any _ hl _))) | (refine wpQuiet_max rfl _ _ _ rfl .i64 .i64 0 F rfl rfl ?_; rw [hm1]; simp only [Act.put, List.setIfInBounds_toArray, List.set_cons_succ, List.set_cons_zero]) | (refine wpQuiet_min rfl _ _ _ rfl .i64 .i64 T len rfl rfl ?_; rw [hu]; simp only [Act.put, List.setIfInBounds_toArray, List.set_cons_succ, List.set_cons_zero]))
  refine wpQuiet_nil ?_
  rintro _ ⟨nq, rfl⟩
  have X := nq.ext
  obtain ⟨q, hq⟩ : ∃ q, q = f / 256 := ⟨_, rfl⟩
  have hq1 : (f : Int) / 256 = (q : Int) := by omega
  have hq2 : (q : Int) ≤ 36028797018963967 := by omega
  have HQ := Lib.hid hq
  clear hF hm1 hfm hq
  all_goals go_wp2_with fail
  go_loopw [7, 8] (fun v i wr => ∃ k : Nat, k ≤ (pcs f t).length ∧ i = .int .i64 (q + k : Nat) ∧ IntsOwn wr w.heap.size v (List.range' q k) ∧ Ext w wr) (fun _ i _ => (pcs f t).length - ((intOf i).toNat - q))
  case atStart => exact ⟨0, by omega, rfl, World.ownsRow_nil _ _ _ _, ((Ext.refl w).alloc _).trans X⟩
  case round =>
    obtain ⟨k, hk, rfl, hown, hX⟩ := hrel
    by_cases hft : f < t
    · have hc : (pcs f t).length = (t + 255) / 256 - q := by unfold pcs; rw [if_pos hft, HQ.out]; simp
      have g1 : (f : Int) < u := HU.out.2 hft
      have hsz := hX.size
      by_cases hlt : k < (pcs f t).length
      · have g2 : ((q + k : Nat) : Int) * 256 < u := by have := HQ.out; have := HT.out; omega
        have g3 : q + k ≤ 256 := by have := HQ.out; have := HT.out; omega
        have HK := Lib.hid hlt
        clear hlt
        have HC := Lib.hid hc
        clear hc
        go_wp2_with (at_builtin; refine wpList_append_int wr rfl _ _ rfl w.heap.size (q + k) _ hown (by simp) rfl rfl (by simp; omega) hsz ?_)
        intro v' w1 hown' hb
        rw [show List.range' q k ++ [q + k] = List.range' q (k + 1) by rw [List.range'_concat]; simp] at hown'
        go_wp2_with fail
        go_roundw
        case rel => exact ⟨k + 1, HK.out, by go_num, hown', Below.trans hX hb⟩
        case measure => have := HK.out; simp [intOf]; omega
      · obtain rfl : k = (pcs f t).length := by omega
        have g2 : ¬ ((q + (pcs f t).length : Nat) : Int) * 256 < u := by have := HQ.out; have := HT.out; omega
        have hp : List.range' q (pcs f t).length = pcs f t := by
          rw [hc]; unfold pcs; rw [if_pos hft, HQ.out]
        rw [hp] at hown
        have g3 : q + (pcs f t).length ≤ 512 := by have := HQ.out; have := HT.out; omega
        clear hlt hk hp
        generalize (pcs f t).length = c at hc g2 g3
        have HC := Lib.hid hc
        clear hc
        go_wp2_with fail
        go_ret
        exact ⟨_, rfl, hX, hown⟩
    · have hc : pcs f t = [] := by unfold pcs; rw [if_neg hft]
      have g1 : ¬ (f : Int) < u := fun h => hft (HU.out.1 h)
      rw [hc] at hk
      obtain rfl : k = 0 := by simpa using hk
      rw [show List.range' q 0 = pcs f t from hc.symm] at hown
      clear hc
      go_wp2_with fail
      go_ret
      exact ⟨_, rfl, hX, hown⟩
end Go.Proofs.YtfgjbbpkkbohhaaGreat
