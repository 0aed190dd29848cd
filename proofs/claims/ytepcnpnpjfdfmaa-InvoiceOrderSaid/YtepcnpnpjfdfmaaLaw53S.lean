/- The law InvoiceTiers, walked. -/
import Derived.Test.YtepcnpnpjfdfmaaLaw53G
import Derived.Test.YtepcnpnpjfdfmaaApp
import Derived.Deep.RegionHeld3
import Derived.Deep.RegionLaw
import Derived.Deep.DrawnRows
import Derived.Deep.DeepCutAuto
namespace Go.Proofs.Ytepcnpnpjfdfmaa
open Go.RowKit
attribute [local go_sem ↓] Go.wp_at_zero Go.wp_at_succ

theorem heap_new_at {w : World} {g : Nat} {o : Obj} (h : w.heap.size = g) : (w.alloc o).heap[g]? = some o := by
  subst h
  exact heap_alloc_new w o
theorem own_some {w : World} {base : Nat} {e : TypeId} {size : Nat} {v : Value} {n : Nat} {xs : List Value} (h : w.ownsRow base e size v n xs) (hn : v.ownBlock ≠ none) : ∃ g cap, v = .slice (some ⟨g, 0, none⟩) n cap ∧ base ≤ g ∧ n ≤ cap ∧ cap ≤ maxLen ∧ g < w.heap.size := by
  rcases h.2 with ⟨rfl, _⟩ | ⟨g, cap, cur, rfl, hb, hh, hl, hm, _⟩
  · exact absurd rfl hn
  · exact ⟨g, cap, rfl, hb, hl, hm, (Array.getElem?_eq_some_iff.1 hh).1⟩
theorem own_ge {g B n cap : Nat} (h : B ≤ g) : ∀ k, (Value.slice (some ⟨g, 0, none⟩) n cap).ownBlock = some k → B ≤ k := fun k hk => by
  have e : g = k := by simpa [Value.ownBlock] using hk
  omega
/-- the cells of tiers -/
def tcs (up pr : Nat → Int) : Nat → List Value
  | 0 => []
  | k + 1 => tcs up pr k ++ [.int .i64 (up k), .int .i64 (pr k)]
theorem tcs_length (up pr : Nat → Int) (n : Nat) : (tcs up pr n).length = n * 2 := by
  induction n with
  | zero => rfl
  | succ n ih => unfold tcs; rw [List.length_append, ih]; simp; omega
theorem tcs_get (up pr : Nat → Int) (n k : Nat) (h : k < n) : (tcs up pr n)[k * 2]? = some (.int .i64 (up k)) ∧ (tcs up pr n)[k * 2 + 1]? = some (.int .i64 (pr k)) := by
  induction n with
  | zero => omega
  | succ n ih =>
    unfold tcs
    by_cases hk : k = n
    · subst hk
      rw [List.getElem?_append_right (by rw [tcs_length]; omega), List.getElem?_append_right (by rw [tcs_length]; omega), tcs_length]
      simp
    · obtain ⟨h1, h2⟩ := ih (by omega)
      rw [List.getElem?_append_left (by rw [tcs_length]; omega), List.getElem?_append_left (by rw [tcs_length]; omega)]
      exact ⟨h1, h2⟩
theorem tcs_one (up pr : Nat → Int) (n : Nat) : ∀ v ∈ tcs up pr n, v.oneCell' = true := by
  induction n with
  | zero => intro v hv; cases hv
  | succ n ih =>
    intro v hv
    unfold tcs at hv
    rcases List.mem_append.1 hv with h | h
    · exact ih v h
    · simp at h
      rcases h with rfl | rfl <;> rfl
theorem tcs_split (up pr : Nat → Int) (cut : Int) (i n : Nat) (h : i ≤ n) : tcs (upS up i cut) (prS pr i) (n + 1) = tcs up pr i ++ [.int .i64 cut, .int .i64 (pr i)] ++ (tcs up pr n).drop (i * 2) := by
  have low : ∀ k, k ≤ i → tcs (upS up i cut) (prS pr i) k = tcs up pr k := by
    intro k hk
    induction k with
    | zero => rfl
    | succ k ih =>
      have e1 : upS up i cut k = up k := if_pos (by omega)
      have e2 : prS pr i k = pr k := if_pos (by omega)
      unfold tcs
      rw [ih (by omega), e1, e2]
  induction n with
  | zero =>
    obtain rfl : i = 0 := by omega
    show [Value.int .i64 (upS up 0 cut 0), Value.int .i64 (prS pr 0 0)] = [Value.int .i64 cut, Value.int .i64 (pr 0)]
    have e1 : upS up 0 cut 0 = cut := by unfold upS; rw [if_neg (by omega), if_pos rfl]
    have e2 : prS pr 0 0 = pr 0 := if_pos (by omega)
    rw [e1, e2]
  | succ n ih =>
    by_cases hin : i = n + 1
    · subst hin
      show tcs _ _ (n + 1) ++ [Value.int .i64 (upS up (n + 1) cut (n + 1)), Value.int .i64 (prS pr (n + 1) (n + 1))] = _
      have e1 : upS up (n + 1) cut (n + 1) = cut := by unfold upS; rw [if_neg (by omega), if_pos rfl]
      have e2 : prS pr (n + 1) (n + 1) = pr (n + 1) := if_pos (by omega)
      rw [e1, e2, low _ (Nat.le_refl _), List.drop_of_length_le (by rw [tcs_length]; exact Nat.le_refl _), List.append_nil]
    · show tcs (upS up i cut) (prS pr i) (n + 1) ++ [Value.int .i64 (upS up i cut (n + 1)), Value.int .i64 (prS pr i (n + 1))] = _ ++ (tcs up pr n ++ [Value.int .i64 (up n), Value.int .i64 (pr n)]).drop (i * 2)
      have e1 : upS up i cut (n + 1) = up n := by unfold upS; rw [if_neg (by omega), if_neg (by omega)]; rfl
      have e2 : prS pr i (n + 1) = pr n := by unfold prS; rw [if_neg (by omega)]; rfl
      rw [e1, e2, ih (by omega), List.drop_append_of_le_length (by rw [tcs_length]; omega), List.append_assoc]
theorem Tar.second {w : World} {a : Addr} {n cap : Nat} {up pr : Nat → Int} (ht : Tar w (some a) n cap up pr) {k : Nat} (hk : k < n) : w.cell? (a.add (k * 2)) = some (.int .i64 (up k)) ∧ w.cell? (a.add (k * 2 + 1)) = some (.int .i64 (pr k)) := by
  obtain ⟨a', hp, c0, c1⟩ := ht.cell k hk
  obtain rfl := Option.some.inj hp
  refine ⟨c0, ?_⟩
  rw [← c1]
  cases k with
  | zero => rw [Nat.zero_mul, Addr.add_zero', Addr.add_succ']
  | succ j => rw [show (j + 1) * 2 = (2 * j + 1) + 1 from by omega, Addr.add_succ', show 2 * j + 1 + 1 + 1 = (2 * j + 2) + 1 from by omega, Addr.add_succ']; rfl
theorem reads_tar {w : World} {a : Addr} {n cap : Nat} {up pr : Nat → Int} (ht : Tar w (some a) n cap up pr) (k : Nat) (hk : k ≤ n) : Reads w w.heap.size 2 (some a) k (tcs up pr k) := by
  refine ⟨tcs_length up pr k, fun h0 => ⟨a, rfl, ?_, fun j u hu => ?_⟩⟩
  · have h := World.block_lt_of_cell? w _ (ht.second (k := 0) (by omega)).1
    rwa [block_of_add] at h
  · have hj := (List.getElem?_eq_some_iff.1 hu).1
    rw [tcs_length] at hj
    obtain ⟨g0, g1⟩ := tcs_get up pr k (j / 2) (by omega)
    obtain ⟨s0, s1⟩ := ht.second (k := j / 2) (by omega)
    rcases Nat.mod_two_eq_zero_or_one j with h | h
    · have e : j / 2 * 2 = j := by omega
      rw [e] at g0 s0
      rw [s0, ← g0, hu]
    · have e : j / 2 * 2 + 1 = j := by omega
      rw [e] at g1 s1
      rw [s1, ← g1, hu]
theorem tar_of_row {w : World} {g n cap : Nat} {up pr : Nat → Int} (hle : n ≤ cap) (hc : (cap : Int) ≤ 9223372036854775807) (h : ∀ j u, (tcs up pr n)[j]? = some u → w.cell? ((⟨g, 0, none⟩ : Addr).add j) = some u) : Tar w (some ⟨g, 0, none⟩) n cap up pr := by
  refine Tar.of_block n up pr hle hc (fun k hk => ?_)
  obtain ⟨g0, g1⟩ := tcs_get up pr n k hk
  have h0 := h _ _ g0
  have h1 := h _ _ g1
  rw [Addr.add_lit, Nat.zero_add] at h0 h1
  exact ⟨h0, h1⟩
theorem tier_info : (Try.prog.info? 42).map (fun i => (i.zero, i.size, i.bytes)) = some (some (.agg #[.int .i64 0, .int .i64 0]), 2, 16) := by kernel_rfl

set_option maxRecDepth 100000 in
set_option maxHeartbeats 4000000 in
theorem tiers_main (w : World) (p : Option Addr) (n cap : Nat) (unit hit least : Int) (up pr : Nat → Int) (ht : Tar w p n cap up pr) (hk : okTar n unit hit least up pr) (hn : n ≤ 15) (k0 : Nat) (hk0 : k0 ≤ 255) (cut x y : Int) :
    Calls Try.prog 8 #[tarV p n cap unit hit least, .int .u8 k0, .int .i64 cut, .agg #[.int .i64 x, .int .i64 y]] w fun e w' => e = .returned (.bool true) ∧ Ext w w' := by
  have hx := ht.le
  have hm := ht.lim
  have n1 := hk.1
  obtain ⟨i, hi⟩ : ∃ i : Nat, (k0 : Int) % (n : Int) = (i : Int) := ⟨k0 % n, by simp⟩
  have hin : i < n := by
    have h1 := Int.emod_lt_of_pos (k0 : Int) (show (0 : Int) < (n : Int) by omega)
    omega
  have hn' : ¬ (n : Int) > 15 := by omega
  obtain ⟨a, hpa, c1, -⟩ := ht.cell i hin
  subst hpa
  obtain ⟨v0, hv0⟩ : ∃ v, v = (w.alloc (.cells #[.slice (some a) n cap, .int .i64 unit, .int .i64 hit, .int .i64 least] 24)).alloc (.cells #[.int .i64 x, .int .i64 y] 45) := ⟨_, rfl⟩
  have q0 : v0.cell? ⟨w.heap.size, 0, none⟩ = some (.slice (some a) n cap) := by rw [hv0]; exact ((Ext.refl _).alloc _).cell (by simp)
  have q1 : v0.cell? ⟨w.heap.size, 1, none⟩ = some (.int .i64 unit) := by rw [hv0]; exact ((Ext.refl _).alloc _).cell (by simp)
  have q2 : v0.cell? ⟨w.heap.size, 2, none⟩ = some (.int .i64 hit) := by rw [hv0]; exact ((Ext.refl _).alloc _).cell (by simp)
  have q3 : v0.cell? ⟨w.heap.size, 3, none⟩ = some (.int .i64 least) := by rw [hv0]; exact ((Ext.refl _).alloc _).cell (by simp)
  have q4 : v0.cell? ⟨w.heap.size + 1, 0, none⟩ = some (.int .i64 x) := by rw [hv0]; exact (RowB.laid_at (xs := [.int .i64 x, .int .i64 y]) (by simp)).cell rfl
  have q5 : v0.cell? ⟨w.heap.size + 1, 1, none⟩ = some (.int .i64 y) := by rw [hv0]; exact (RowB.laid_at (xs := [.int .i64 x, .int .i64 y]) (by simp)).cell rfl
  have hwv : Ext w v0 := by rw [hv0]; exact ((Ext.refl w).alloc _).alloc _
  have HV := Lib.hid hv0
  have HT := Lib.hid ht
  have HK := Lib.hid hk
  have HN := Lib.hid hn
  obtain ⟨u, hu⟩ : ∃ u, u = up i := ⟨_, rfl⟩
  rw [← hu] at c1
  have HU := Lib.hid hu
  have hkb : (k0 : Int) ≤ 255 := by omega
  have n1' : (1 : Int) ≤ (n : Int) := by omega
  have n15 : (n : Int) ≤ 15 := by omega
  have hini : (i : Int) < (n : Int) := by omega
  clear hv0 ht hk hn hu hk0
  go_enter Try.func8, Try.ntmps8
  go_wp2_with (go_at_call 12; refine (check_any _ _ _ _ _ _ _ _ _ (HT.out.ext (((Ext.refl w).alloc _).alloc _))).mono ?_; rintro e w1 ⟨hP, h1⟩; rw [← HV.out] at h1; obtain rfl := check_yes HK.out hP; clear hP)
  refine (awake_any _).mono ?_
  rintro e w2 ⟨rfl, h2⟩
  have X2 : Ext v0 w2 := h1.trans h2
  have r0 := X2.cell q0
  have c2 := (hwv.trans X2).cell c1
  go_upto_region 6 with fail
  rw [hi]
  have HI := Lib.hid hi
  clear hi
  obtain ⟨F, hF⟩ : ∃ F, F = bel up i := ⟨_, rfl⟩
  have HF := Lib.hid hF
  obtain ⟨T, hT⟩ : ∃ T : Int, T = if i + 1 < n then u else 1099511627777 := ⟨_, rfl⟩
  have HTT := Lib.hid hT
  clear hF hT
  go_upto_if 42 with fail
  go_cut [10] (fun s10 wx => s10 = .int .i64 F ∧ w2 = wx)
  case first =>
    rcases i with _ | j
    · have hF0 : F = 0 := HF.out
      subst hF0
      go_wp2_with fail
      go_meet
      exact ⟨rfl, rfl⟩
    · obtain ⟨a', hp', c3, -⟩ := HT.out.cell j (by omega)
      obtain rfl := Option.some.inj hp'
      rw [show up j = F from HF.out.symm] at c3
      clear hp'
      replace c3 := (hwv.trans X2).cell c3
      have hwj := IntWalk.i64_in (j : Int) (by omega)
      have hj0 : (0 : Int) < (j : Int) + 1 := by omega
      have hjn : j < n := by omega
      go_wp2_with fail
      go_meet
      exact ⟨rfl, rfl⟩
  case rest =>
    obtain ⟨rfl, rfl⟩ := hcut
    go_upto_if 55 with fail
    go_cut [11] (fun s11 wx => s11 = .int .i64 T ∧ w2 = wx)
    case first =>
      by_cases hl : i + 1 < n
      · have hTu : T = u := HTT.out.trans (if_pos hl)
        subst hTu
        have hl2 : (i : Int) < (n : Int) - 1 := by omega
        go_wp2_with fail
        go_meet
        exact ⟨rfl, rfl⟩
      · have hTu : T = 1099511627777 := HTT.out.trans (if_neg hl)
        subst hTu
        have hl2 : ¬ (i : Int) < (n : Int) - 1 := by omega
        go_wp2_with fail
        go_meet
        exact ⟨rfl, rfl⟩
    case rest =>
      obtain ⟨rfl, rfl⟩ := hcut
      by_cases hcF : cut ≤ F
      · go_wp2_with fail
        go_ret
        exact ⟨rfl, hwv.trans X2⟩
      by_cases hcT : cut ≥ T
      · go_wp2_with fail
        go_ret
        exact ⟨rfl, hwv.trans X2⟩
      have r1 := X2.cell q1
      have r2 := X2.cell q2
      have r3 := X2.cell q3
      have hs2 : w.heap.size + 1 < w2.heap.size := World.block_lt_of_cell? w2 _ (X2.cell q4)
      have hs0 : w.heap.size < w2.heap.size := World.block_lt_of_cell? w2 _ r0
      obtain ⟨i0, hi0, hz0, hz1, hz2⟩ := info_parts tier_info
      obtain ⟨w3, hw3⟩ : ∃ w3, w3 = (w2.alloc (.cells #[.slice (some a) n cap, .int .i64 unit, .int .i64 hit, .int .i64 least] 24)).alloc (.cells #[] 42) := ⟨_, rfl⟩
      have X3 : Ext w2 w3 := by rw [hw3]; exact ((Ext.refl _).alloc _).alloc _
      have hsz3 : w3.heap.size = w2.heap.size + 1 + 1 := by rw [hw3]; simp
      have hown0 : w3.ownsRow (w2.heap.size + 1) 42 2 (.slice (some ⟨w2.heap.size + 1, 0, none⟩) 0 0) 0 [] := ⟨by simp, .inr ⟨w2.heap.size + 1, 0, #[], rfl, by omega, by rw [hw3]; exact heap_new_at (by simp), by omega, by simp [maxLen], rfl, rfl⟩⟩
      have hrd := ((reads_tar (HT.out.ext (hwv.trans X2)) i (by omega)).below X3)
      have hR3 : RowB w3 w2.heap.size 24 [.slice (some a) n cap, .int .i64 unit, .int .i64 hit, .int .i64 least] := by rw [hw3]; exact (RowB.laid w2 _ [.slice (some a) n cap, .int .i64 unit, .int .i64 hit, .int .i64 least]).ext ((Ext.refl _).alloc _)
      have HW3 := Lib.hid hw3
      clear hw3
      have hicap : (i : Int) ≤ (cap : Int) := by omega
      go_upto_region 14 with fail
      go_wp2_with (at_builtin; go_must (rw [← HW3.out]; refine wpList_append_any _ rfl (.tmp 71) (.tmp 75) _ rfl (w2.heap.size + 1) 42 i0 _ 2 16 Try.underlying22 hi0 hz0 hz1 hz2 rfl (by omega) (.slice (some ⟨w2.heap.size + 1, 0, none⟩) 0 0) 0 [] rfl hown0 w2.heap.size (some a) i cap (tcs up pr i) rfl hrd (tcs_one up pr i) (by simp only [maxLen]; omega) (by omega) (by omega) ?_); intro v4 w4 hown4 hg4 hat4; obtain ⟨g4, cap4, rfl, hb4, hl4, hm4, hz4⟩ := own_some hown4 (by rcases hat4 with e | e <;> rw [e] <;> simp [Value.ownBlock]); have hR4 := hR3.kept (hg4.block _ hR3.lt (by simp [Value.ownBlock])); have c4 := hR4.cell (j := 0) rfl; have f4 := hR4.frozen (j := 0) (by simp))
      obtain ⟨w5, hw5⟩ : ∃ w5, w5 = w4.setCell ⟨w2.heap.size, 0, none⟩ (.slice (some ⟨g4, 0, none⟩) i cap4) := ⟨_, rfl⟩
      have X4 : Ext w2 w4 := Below.grown X3 hg4 (by omega) (fun k hk => by simp [Value.ownBlock] at hk; omega)
      have X5 : Ext w2 w5 := by rw [hw5]; exact X4.setCell (Nat.le_refl _) _
      have R5 : RowB w5 w2.heap.size 24 [.slice (some ⟨g4, 0, none⟩) i cap4, .int .i64 unit, .int .i64 hit, .int .i64 least] := by rw [hw5]; exact hR4.set 0 _ (by simp)
      have hown5 : w5.ownsRow (w2.heap.size + 1) 42 2 (.slice (some ⟨g4, 0, none⟩) i cap4) i (tcs up pr i) := by
        rw [hw5]
        have h := ownsRow_setCell_below hown4 (a := ⟨w2.heap.size, 0, none⟩) (Nat.lt_succ_self _) (.slice (some ⟨g4, 0, none⟩) i cap4)
        simpa using h
      rw [← hw5]
      clear hw5 c4 f4 hown4 hg4 hat4 hR4 hown0 hrd hR3
      obtain ⟨r, hr⟩ : ∃ r, r = pr i := ⟨_, rfl⟩
      have HR := Lib.hid hr
      obtain ⟨a', hp', -, c6⟩ := (HT.out.ext (hwv.trans (X2.trans X5))).cell i hin
      obtain rfl := Option.some.inj hp'
      rw [← hr] at c6
      clear hp' hr
      have s0 := (X2.trans X5).cell q0
      have t0 := R5.cell (j := 0) rfl
      have f0 := R5.frozen (j := 0) (by simp)
      have hz5 : w2.heap.size < w5.heap.size := R5.lt
      have hs5 : w.heap.size < w5.heap.size := World.block_lt_of_cell? w5 _ s0
      have hini2 : i < n := hin
      have hown6 : (w5.alloc (.cells #[.int .i64 cut, .int .i64 r] 42)).drew.ownsRow (w2.heap.size + 1) 42 2 (.slice (some ⟨g4, 0, none⟩) i cap4) i (tcs up pr i) := (hown5.alloc _).drew
      have hrd6 : Reads (w5.alloc (.cells #[.int .i64 cut, .int .i64 r] 42)).drew (w5.heap.size + 1) 2 (some ⟨w5.heap.size, 0, none⟩) 1 [.int .i64 cut, .int .i64 r] := by
        refine ⟨rfl, fun _ => ⟨_, rfl, Nat.lt_succ_self _, fun j u hu => ?_⟩⟩
        have h := (RowB.laid w5 42 [.int .i64 cut, .int .i64 r]).cell hu
        rw [Addr.add_lit, Nat.zero_add]
        exact h
      go_upto_region 15 with fail
      go_cut [] (fun wx => ∃ g7 cap7, RowB wx w2.heap.size 24 [.slice (some ⟨g7, 0, none⟩) (i + 1) cap7, .int .i64 unit, .int .i64 hit, .int .i64 least] ∧
        wx.ownsRow (w2.heap.size + 1) 42 2 (.slice (some ⟨g7, 0, none⟩) (i + 1) cap7) (i + 1) (tcs up pr i ++ [.int .i64 cut, .int .i64 r]) ∧ w2.heap.size + 1 ≤ g7 ∧ Ext w2 wx)
      case first =>
        go_region_law (first
          | (refine step_append_any _ (by rfl) _ _ _ (by rfl) (w2.heap.size + 1) 42 i0 _ 2 16 Try.underlying22 hi0 hz0 hz1 hz2 rfl (by omega) (.slice (some ⟨g4, 0, none⟩) i cap4) i (tcs up pr i) (by rfl) hown6 (w5.heap.size + 1) (some ⟨w5.heap.size, 0, none⟩) 1 1 [.int .i64 cut, .int .i64 r] (by rfl) hrd6 (by simp [Value.oneCell']) (by simp only [maxLen]; omega) (by omega) (by simp; omega) ?_
             intro v7 w7 hown7 hg7 hat7
             obtain ⟨g7, cap7, rfl, hb7, hl7, hm7, hz7⟩ := own_some hown7 (by rcases hat7 with e | e <;> rw [e] <;> simp [Value.ownBlock])
             have hR7 := ((R5.ext ((Ext.refl _).alloc _)).ext ((Ext.refl _).drew)).kept (hg7.block _ (by simp; omega) (by simp [Value.ownBlock]; omega))
             have c7 := hR7.cell (j := 0) rfl
             have f7 := hR7.frozen (j := 0) (by simp)))
        all_goals go_wp2_with fail
        all_goals go_meet
        all_goals exact ⟨g7, cap7, hR7.set 0 _ (by simp), ownsRow_setCell_below hown7 (a := ⟨w2.heap.size, 0, none⟩) (Nat.lt_succ_self _) _, hb7, (Below.grown ((X5.alloc _).drew) hg7 (Ext.size ((X5.alloc _).drew)) (own_ge (by omega))).setCell (Nat.le_refl _) _⟩
      case rest =>
        obtain ⟨g7, cap7, R8, hown8, hb7, X8⟩ := hcut
        obtain ⟨w8, hw8⟩ : ∃ w8, w8 = wc := ⟨_, rfl⟩
        rw [← hw8] at R8 hown8 X8 ⊢
        clear hw8 s0 t0 f0 c6 hown6 hrd6
        have s0 := (X2.trans X8).cell q0
        have t0 := R8.cell (j := 0) rfl
        have f0 := R8.frozen (j := 0) (by simp)
        have hz8 : w2.heap.size < w8.heap.size := R8.lt
        have hs8 : w.heap.size < w8.heap.size := World.block_lt_of_cell? w8 _ s0
        have hne : ¬ cap = i := by omega
        have hrd8 := (((reads_tar (HT.out.ext (hwv.trans X2)) n (Nat.le_refl _)).below X8).drew).cut (k := i) (cap := cap) (by omega) hx
        rw [if_neg hne] at hrd8
        have hown9 := hown8.drew
        have hic2 : (i : Int) ≤ (n : Int) := by omega
        have hic3 : (n : Int) ≤ (cap : Int) := by omega
        have hnn : i + 1 + (n - i) = n + 1 := by omega
        have hxs : tcs up pr i ++ [.int .i64 cut, .int .i64 r] ++ (tcs up pr n).drop (i * 2) = tcs (upS up i cut) (prS pr i) (n + 1) := by rw [HR.out]; exact (tcs_split up pr cut i n (by omega)).symm
        have HNN := Lib.hid hnn
        have HXS := Lib.hid hxs
        clear hnn hxs
        go_upto_region 16 with fail
        go_cut [] (fun wx => ∃ g9 cap9, RowB wx w2.heap.size 24 [.slice (some ⟨g9, 0, none⟩) (n + 1) cap9, .int .i64 unit, .int .i64 hit, .int .i64 least] ∧
          Tar wx (some ⟨g9, 0, none⟩) (n + 1) cap9 (upS up i cut) (prS pr i) ∧ Ext w2 wx)
        case first =>
          go_region_law (first
            | (refine step_append_any _ (by rfl) _ _ _ (by rfl) (w2.heap.size + 1) 42 i0 _ 2 16 Try.underlying22 hi0 hz0 hz1 hz2 rfl (by omega) (.slice (some ⟨g7, 0, none⟩) (i + 1) cap7) (i + 1) (tcs up pr i ++ [.int .i64 cut, .int .i64 r]) (by rfl) hown9 w2.heap.size (some (a.add (i * 2))) (n - i) (cap - i) ((tcs up pr n).drop (i * 2)) (by rfl) hrd8 (fun v hv => tcs_one up pr n v (List.mem_of_mem_drop hv)) (by simp only [maxLen]; omega) (by omega) (by simp; omega) ?_
               intro v9 w9 hown10 hg9 hat9
               rw [HNN.out, HXS.out] at hown10
               obtain ⟨g9, cap9, rfl, hb9, hl9, hm9, hz9⟩ := own_some hown10 (by rcases hat9 with e | e <;> rw [e] <;> simp [Value.ownBlock])
               have hR9 := (R8.ext ((Ext.refl _).drew)).kept (hg9.block _ (by simp; omega) (by simp [Value.ownBlock]; omega))
               have c9 := hR9.cell (j := 0) rfl
               have f9 := hR9.frozen (j := 0) (by simp)))
          all_goals go_wp2_with fail
          all_goals go_meet
          all_goals exact ⟨g9, cap9, hR9.set 0 _ (by simp), tar_of_row hl9 (by simp only [maxLen] at hm9; omega) ((ownsRow_setCell_below hown10 (a := ⟨w2.heap.size, 0, none⟩) (Nat.lt_succ_self _) _).cells (g := g9) rfl), (Below.grown X8.drew hg9 X8.drew.size (own_ge (by omega))).setCell (Nat.le_refl _) _⟩
        case rest =>
          obtain ⟨g9, cap9, R9, ht9, X9⟩ := hcut
          obtain ⟨w9, hw9⟩ : ∃ w9, w9 = wc := ⟨_, rfl⟩
          rw [← hw9] at R9 ht9 X9 ⊢
          have hx0 : bel up i < cut := by rw [← HF.out]; omega
          have hx1 : cut < if i + 1 < n then up i else 1099511627777 := by have h := HTT.out; rw [HU.out] at h; rw [← h]; omega
          have HX0 := Lib.hid hx0
          have HX1 := Lib.hid hx1
          clear hw9 s0 t0 f0 hx0 hx1 hrd8 hown9 hown8 hown5
          have Y9 := X2.trans X9
          have s0 := Y9.cell q0
          have s1 := Y9.cell q1
          have s2 := Y9.cell q2
          have s3 := Y9.cell q3
          have s4 := Y9.cell q4
          have s5 := Y9.cell q5
          go_wp2_with fail
          refine (charge_two _ _ _ _ _ _ _ _ _ (HT.out.ext (hwv.trans Y9)) x y).mono ?_
          rintro e w10 ⟨hP, h10⟩
          have Y10 := Y9.trans h10
          have R10 := R9.ext h10
          have ht10 := ht9.ext h10
          clear s0 s1 s2 s3 s4 s5
          have s4 := Y10.cell q4
          have s5 := Y10.cell q5
          have t0 := R10.cell (j := 0) rfl
          have t1 := R10.cell (j := 1) rfl
          have t2 := R10.cell (j := 2) rfl
          have t3 := R10.cell (j := 3) rfl
          rcases hP with ⟨c, hc, rfl⟩ | ⟨code, h0, hc, rfl⟩
          all_goals
            have HC := Lib.hid hc
            clear hc
            go_wp2_with fail
            refine (charge_two _ _ _ _ _ _ _ _ _ ht10 x y).mono ?_
            rintro e w11 ⟨hP, h11⟩
            rcases hP with ⟨c', hc', rfl⟩ | ⟨code', h0', hc', rfl⟩
          · obtain ⟨rfl, -⟩ := split_chg HK.out hin HN.out HX0.out HX1.out HC.out hc'
            clear hc'
            go_wp2_with (go_at_call 17; refine (num_nil _).mono ?_; rintro e w' ⟨rfl, rfl⟩)
            go_ret
            exact ⟨ret_bool (by simp), hwv.trans (Y10.trans h11)⟩
          · obtain ⟨-, h⟩ := split_chg HK.out hin HN.out HX0.out HX1.out HC.out hc'
            exact absurd h.symm h0'
          · obtain ⟨-, h⟩ := split_chg HK.out hin HN.out HX0.out HX1.out HC.out hc'
            exact absurd h h0
          · obtain ⟨-, rfl⟩ := split_chg HK.out hin HN.out HX0.out HX1.out HC.out hc'
            clear hc'
            go_wp2_with (go_at_call 17; refine (num_err _ _).mono ?_; rintro e w' ⟨rfl, rfl⟩)
            go_ret
            exact ⟨ret_bool (by simp), hwv.trans (Y10.trans h11)⟩

set_option maxHeartbeats 1000000 in
theorem tiers_law (w : World) (p : Option Addr) (n cap : Nat) (unit hit least : Int) (up pr : Nat → Int) (ht : Tar w p n cap up pr) (k0 cut x y : Int) (hk0 : 0 ≤ k0 ∧ k0 ≤ 255) :
    Calls Try.prog 8 #[tarV p n cap unit hit least, .int .u8 k0, .int .i64 cut, .agg #[.int .i64 x, .int .i64 y]] w fun e w' => e = .returned (.bool true) ∧ Ext w w' := by
  have hx := ht.le
  have hm := ht.lim
  rcases Nat.lt_or_ge 15 n with hn | hn
  · have hn' : (n : Int) > 15 := by omega
    go_enter Try.func8, Try.ntmps8
    go_wp2_with fail
    refine (awake_any _).mono ?_
    rintro e w1 ⟨rfl, h1⟩
    go_wp2_with fail
    go_ret
    exact ⟨rfl, (((Ext.refl w).alloc _).alloc _).trans h1⟩
  · by_cases hk : okTar n unit hit least up pr
    · obtain ⟨k, rfl⟩ : ∃ k : Nat, k0 = (k : Int) := ⟨k0.toNat, by omega⟩
      exact tiers_main w p n cap unit hit least up pr ht hk hn k (by omega) cut x y
    · have hn' : ¬ (n : Int) > 15 := by omega
      go_enter Try.func8, Try.ntmps8
      go_wp2_with (go_at_call 12; refine (check_any _ _ _ _ _ _ _ _ _ (ht.ext (((Ext.refl w).alloc _).alloc _))).mono ?_; rintro e w1 ⟨hP, h1⟩; obtain rfl := check_no hk hP; clear hP)
      refine (awake_any _).mono ?_
      rintro e w2 ⟨rfl, h2⟩
      go_wp2_with fail
      go_ret
      exact ⟨rfl, ((((Ext.refl w).alloc _).alloc _).trans h1).trans h2⟩
end Go.Proofs.Ytepcnpnpjfdfmaa
