/- Walks of the specification: inside, Charge. -/
import Derived.Test.YtepcnpnpjfdfmaaInvM
import Derived.Test.YtepcnpnpjfdfmaaInvE
import Derived.Test.YtepcnpnpjfdfmaaInvG
import Derived.Test.YtepcnpnpjfdfmaaInvC
namespace Go.Proofs.Ytepcnpnpjfdfmaa
open Go.RowKit

theorem inside_any (w : World) (p : Option Addr) (n cap : Nat) (unit hit least b : Int) (up pr : Nat → Int) (ht : Tar w p n cap up pr) (hk : okTar n unit hit least up pr) (i : Nat) (hi : i < n) (b0 : 0 ≤ b) (b1 : b ≤ 1099511627776) :
    Calls Try.prog 36 #[tarV p n cap unit hit least, .int .i64 i, .int .i64 b] w fun e w' => e = .returned (.int .i64 (ins n up i b)) ∧ Ext w w' := by
  have hx := ht.le
  have hm := ht.lim
  obtain ⟨a, rfl, c1, -⟩ := ht.cell i hi
  have hub := okB_yes (hk.2.2.2.2.2.2 i hi).2.1
  obtain ⟨u, hu⟩ : ∃ u, u = up i := ⟨_, rfl⟩
  rw [← hu] at c1 hub
  replace c1 := ((Ext.refl w).alloc (.cells #[.slice (some a) n cap, .int .i64 unit, .int .i64 hit, .int .i64 least] 24)).cell c1
  have n16 : (n : Int) ≤ 16 := by have := hk.2.1; omega
  have n1 : (1 : Int) ≤ (n : Int) := by have := hk.1; omega
  rcases i with _ | j
  · by_cases hl : 0 + 1 = n
    · have hins : ins n up 0 b = max 0 b := by unfold ins; rw [if_pos hl, bel_zero]; omega
      rw [hins]
      subst hl
      go_enter Try.func36, Try.ntmps36
      go_wp2_with fail
      go_ret
      exact ⟨ret_int (by omega), (Ext.refl w).alloc _⟩
    · have hins : ins n up 0 b = max 0 (min b u) := by unfold ins; rw [if_neg hl, bel_zero, hu]; omega
      rw [hins]
      have HU := Lib.hid hu
      have hl2 : (0 : Int) < (n : Int) - 1 := by omega
      have hn0 : 0 < n := hi
      rw [Nat.zero_mul, Addr.add_zero'] at c1
      clear hu
      go_enter Try.func36, Try.ntmps36
      go_wp2_with fail
      go_ret
      exact ⟨ret_int (by omega), (Ext.refl w).alloc _⟩
  · obtain ⟨a', hp, c3, -⟩ := ht.cell j (by omega)
    obtain rfl := Option.some.inj hp
    clear hp
    have hvb := okB_yes (hk.2.2.2.2.2.2 j (by omega)).2.1
    obtain ⟨v, hv⟩ : ∃ v, v = up j := ⟨_, rfl⟩
    rw [← hv] at c3 hvb
    replace c3 := ((Ext.refl w).alloc (.cells #[.slice (some a) n cap, .int .i64 unit, .int .i64 hit, .int .i64 least] 24)).cell c3
    have hj : (j : Int) < (n : Int) := by omega
    have hjn : j < n := by omega
    have hwj := IntWalk.i64_in (j : Int) (by omega)
    by_cases hl : j + 1 + 1 = n
    · have hins : ins n up (j + 1) b = max 0 (b - v) := by unfold ins; rw [if_pos hl, bel_succ, hv]
      rw [hins]
      have hl2 : ¬ (j : Int) + 1 < (n : Int) - 1 := by omega
      have HU := Lib.hid hu
      have HV := Lib.hid hv
      clear hu hv
      go_enter Try.func36, Try.ntmps36
      go_wp2_with fail
      go_ret
      exact ⟨ret_int (by omega), (Ext.refl w).alloc _⟩
    · have hins : ins n up (j + 1) b = max 0 (min b u - v) := by unfold ins; rw [if_neg hl, bel_succ, hv, hu]
      rw [hins]
      have HU := Lib.hid hu
      have HV := Lib.hid hv
      have hl2 : (j : Int) + 1 < (n : Int) - 1 := by omega
      have hj1 : (j : Int) + 1 < (n : Int) := by omega
      clear hu hv
      go_enter Try.func36, Try.ntmps36
      go_wp2_with fail
      go_ret
      exact ⟨ret_int (by omega), (Ext.refl w).alloc _⟩

theorem inside_is (w : World) (p : Option Addr) (n cap : Nat) (unit hit least b : Int) (up pr : Nat → Int) (ht : Tar w p n cap up pr) (hk : okTar n unit hit least up pr) (i : Nat) (hi : i < n) (b0 : 0 ≤ b) (b1 : b ≤ 1099511627776) (I : Nat) (hI : ins n up i b = (I : Int)) :
    Calls Try.prog 36 #[tarV p n cap unit hit least, .int .i64 i, .int .i64 b] w fun e w' => e = .returned (.int .i64 (I : Nat)) ∧ Ext w w' := by
  rw [← hI]
  exact inside_any w p n cap unit hit least b up pr ht hk i hi b0 b1

theorem RowB.laid_at {w : World} {g : Nat} {e : TypeId} {xs : List Value} (h : w.heap.size = g) : RowB (w.alloc (.cells xs.toArray e)) g e xs := by
  subst h
  exact RowB.laid w e xs

theorem RowB.other {w : World} {g g' : Nat} {e : TypeId} {xs : List Value} (h : RowB w g' e xs) (hn : g ≠ g') (j : Nat) (v : Value) : RowB (w.setCell ⟨g, j, none⟩ v) g' e xs := by
  obtain ⟨C, fr, rest, hg, hf, hc⟩ := h
  refine ⟨C, fr, rest, ?_, hf, hc⟩
  simp only [World.setCell, Array.getElem?_modify]
  rw [if_neg hn]
  exact hg

def SChargePost (n : Nat) (unit hit least : Int) (up pr : Nat → Int) (hits bytes : Int) (e : Ending) : Prop :=
  ∃ c code : Int, ChgP n unit hit least up pr hits bytes c code ∧ e = .returned (.tuple #[.int .i64 c, .int .i64 code])

theorem valid_yes {n : Nat} {unit hit least : Int} {up pr : Nat → Int} {e : Ending} (h : okTar n unit hit least up pr) (hp : ValidPost n unit hit least up pr e) : e = .returned (.bool true) := by
  rcases hp with ⟨-, h2⟩ | ⟨h1, -⟩
  · exact h2
  · exact absurd h h1
theorem valid_no {n : Nat} {unit hit least : Int} {up pr : Nat → Int} {e : Ending} (h : ¬ okTar n unit hit least up pr) (hp : ValidPost n unit hit least up pr e) : e = .returned (.bool false) := by
  rcases hp with ⟨h1, -⟩ | ⟨-, h2⟩
  · exact absurd h1 h
  · exact h2

theorem rchg_large {n U H X Y D C : Nat} {least : Int} {up pr : Nat → Int} {hits bytes : Int} {w w' : World} {e : Ending} (hk : okTar n U H least up pr) (h1 : hits ≤ 1099511627776) (b1 : bytes ≤ 1099511627776) (hp : 0 < hits ∨ 0 < bytes)
    (hX : max hits 0 = (X : Int)) (hY : max bytes 0 = (Y : Int)) (hC : C = cost n U H up pr X Y) (hD : D = U * 1000000) (hc : 1125899906842624 < ceilD C D) (he : e = .returned (.tuple #[.int .i64 0, .int .i64 5])) (hx : Ext w w') :
    SChargePost n U H least up pr hits bytes e ∧ Ext w w' := by
  refine ⟨⟨0, 5, .inr (.inr (.inr (.inl ⟨hk, h1, b1, hp, ?_, rfl, rfl⟩))), he⟩, hx⟩
  rw [hX, hY, ← hC, Int.toNat_natCast, ← hD]
  exact hc
theorem rchg_fine {n U H X Y D C : Nat} {least c : Int} {up pr : Nat → Int} {hits bytes : Int} {w w' : World} {e : Ending} (hk : okTar n U H least up pr) (h1 : hits ≤ 1099511627776) (b1 : bytes ≤ 1099511627776) (hp : 0 < hits ∨ 0 < bytes)
    (hX : max hits 0 = (X : Int)) (hY : max bytes 0 = (Y : Int)) (hC : C = cost n U H up pr X Y) (hD : D = U * 1000000) (hc : ceilD C D ≤ 1125899906842624) (he : e = .returned (.tuple #[.int .i64 c, .int .i64 0])) (hcc : c = max ((ceilD C D : Nat) : Int) least) (hx : Ext w w') :
    SChargePost n U H least up pr hits bytes e ∧ Ext w w' := by
  refine ⟨⟨c, 0, .inr (.inr (.inr (.inr ⟨hk, h1, b1, hp, ?_, ?_, rfl⟩))), he⟩, hx⟩ <;> rw [hX, hY, ← hC, Int.toNat_natCast, ← hD]
  · exact hc
  · exact hcc
theorem half_even {h v p d T : Nat} (e : h + v * p = T) (hd : d = v / 2) (hm : v % 2 = 0) : h + d * (p + p) = T := by
  obtain rfl : v = 2 * d := by omega
  rw [← e, Nat.mul_comm 2 d, Nat.mul_assoc, Nat.two_mul]
theorem half_odd {h v p d T : Nat} (e : h + v * p = T) (hd : d = v / 2) (hm : v % 2 = 1) : h + p + d * (p + p) = T := by
  obtain rfl : v = 2 * d + 1 := by omega
  rw [← e, Nat.add_mul, Nat.mul_comm 2 d, Nat.mul_assoc, Nat.two_mul, Nat.one_mul]
  omega
theorem above_is (a n q : Nat) (w : World) (hn : 1 ≤ n) (hn2 : n ≤ 1099511627776) (ha : hi40 a ≤ 4611686018427387904) (hq : aboveN a n = q) : Calls Try.prog 37 #[rV a, .int .i64 n] w fun e w' => e = .returned (.int .i64 (q : Nat)) ∧ Ext w w' := by
  rw [← hq]
  exact above_ref a n w hn hn2 ha
theorem above_ways {C D : Nat} (hD : 1 ≤ D) : (1125899906842624 < aboveN C D ∧ 1125899906842624 < ceilD C D ∧ aboveN C D ≤ 1152921504606846976) ∨ (aboveN C D = ceilD C D ∧ ceilD C D ≤ 1125899906842624) := by
  unfold aboveN
  split
  · rename_i h
    have h1 : 1048576 * D ≤ hi40 C := (Nat.le_div_iff_mul_le (by omega)).1 h
    have h2 := ceil_iff (a := C) (q := 1125899906842624) hD
    have h3 := hl40 C
    left
    refine ⟨by omega, ?_, by omega⟩
    rcases Nat.lt_or_ge 1125899906842624 (ceilD C D) with h4 | h4
    · exact h4
    · have := h2.1 h4
      omega
  · rename_i h
    have h1 : hi40 C / D < 1048576 := by omega
    have h2 := above_q hD h1
    have h4 := ceil_iff (a := C) (q := C / D + 1) hD
    have h5 := Nat.div_add_mod C D
    have h6 := Nat.mod_lt C hD
    have h7 : ceilD C D ≤ C / D + 1 := h4.2 (by rw [Nat.add_mul, Nat.one_mul, Nat.mul_comm]; omega)
    show (_ < ceilD C D ∧ _ ∧ ceilD C D ≤ _) ∨ (ceilD C D = ceilD C D ∧ _)
    omega

set_option maxRecDepth 100000 in
set_option maxHeartbeats 8000000 in
theorem rcharge_main (w : World) (p : Option Addr) (n cap : Nat) (unit hit least : Int) (up pr : Nat → Int) (ht : Tar w p n cap up pr) (hk : okTar n unit hit least up pr) (hits bytes : Int)
    (h1 : hits ≤ 1099511627776) (b1 : bytes ≤ 1099511627776) (hp : 0 < hits ∨ 0 < bytes) :
    Calls Try.prog 16 #[tarV p n cap unit hit least, .int .i64 hits, .int .i64 bytes] w fun e w' => SChargePost n unit hit least up pr hits bytes e ∧ Ext w w' := by
  obtain ⟨X, hX⟩ : ∃ X : Nat, max 0 hits = (X : Int) := ⟨(max 0 hits).toNat, by omega⟩
  obtain ⟨Y, hY⟩ : ∃ Y : Nat, max 0 bytes = (Y : Int) := ⟨(max 0 bytes).toNat, by omega⟩
  have A1 := Lib.hid (show (X : Int) ≤ 1099511627776 by omega)
  have A2 := Lib.hid (show (Y : Int) ≤ 1099511627776 by omega)
  have X1 : decide (1099511627776 < hits) = false := by simp; omega
  have Y1 : decide (1099511627776 < bytes) = false := by simp; omega
  have hz : ((X : Int) == 0) = false ∨ (((X : Int) == 0) = true ∧ ((Y : Int) == 0) = false) := by
    by_cases h : X = 0
    · right; simp; omega
    · left; simp; omega
  have HA := Lib.hid (And.intro h1 (And.intro b1 hp))
  have HX := Lib.hid (show max hits 0 = (X : Int) by omega)
  have HY := Lib.hid (show max bytes 0 = (Y : Int) by omega)
  clear h1 b1 hp
  obtain ⟨H, hH⟩ : ∃ H : Nat, hit = (H : Int) := ⟨hit.toNat, by have := okB_yes hk.2.2.2.2.1; omega⟩
  obtain ⟨U, hU⟩ : ∃ U : Nat, unit = (U : Int) := ⟨unit.toNat, by have := hk.2.2.1; omega⟩
  have HH0 : (H : Int) ≤ 1099511627776 := by have := okB_yes hk.2.2.2.2.1; omega
  have UU0 : (U : Int) ≤ 1048576 := by have := hk.2.2.2.1; omega
  have U1 : (1 : Int) ≤ (U : Int) := by have := hk.2.2.1; omega
  have hcc := cost_bd hk (x := X) (b := Y) (by omega) A2.out (by omega) A1.out
  subst hH
  subst hU
  simp only [Int.toNat_natCast] at hcc
  have HCC := Lib.hid hcc
  obtain ⟨v0, hv0⟩ : ∃ v, v = w.alloc (.cells #[.slice p n cap, .int .i64 U, .int .i64 H, .int .i64 least] 24) := ⟨_, rfl⟩
  have q0 : v0.cell? ⟨w.heap.size, 0, none⟩ = some (.slice p n cap) := by rw [hv0]; simp
  have q1 : v0.cell? ⟨w.heap.size, 1, none⟩ = some (.int .i64 U) := by rw [hv0]; simp
  have q2 : v0.cell? ⟨w.heap.size, 2, none⟩ = some (.int .i64 H) := by rw [hv0]; simp
  have q3 : v0.cell? ⟨w.heap.size, 3, none⟩ = some (.int .i64 least) := by rw [hv0]; simp
  have hwv : Hid (Ext w v0) := Lib.hid (by rw [hv0]; exact (Ext.refl w).alloc _)
  have HV0 := Lib.hid hv0
  have Q0 := Lib.hid q0
  have Q1 := Lib.hid q1
  have Q2 := Lib.hid q2
  have Q3 := Lib.hid q3
  have HH := Lib.hid HH0
  have UU := Lib.hid UU0
  clear hcc HH0 UU0 q0 q1 q2 q3 hv0
  have HV : ∀ w0 e w1, (w0 = w.alloc (.cells #[.slice p n cap, .int .i64 U, .int .i64 H, .int .i64 least] 24)) → ValidPost n U H least up pr e ∧ Ext w0 w1 → e = .returned (.bool true) ∧ Ext v0 w1 := fun w0 e w1 h ⟨hp, hx⟩ => ⟨valid_yes hk hp, by rw [HV0.out, ← h]; exact hx⟩
  have HVh := Lib.hid HV
  clear HV
  rcases hz with z1 | ⟨z1, z2⟩
  all_goals
    go_enter Try.func16, Try.ntmps16
    go_upto_region 8 with (go_at_call 13; refine (valid_any _ _ _ _ _ _ _ _ _ (ht.ext ((Ext.refl w).alloc _))).mono ?_; rintro e w1 hP; obtain ⟨rfl, hE⟩ := HVh.out _ _ _ rfl hP; clear hP)
    clear X1 Y1
    have r0 := hE.cell Q0.out
    have hsz1 : w.heap.size < w1.heap.size := World.block_lt_of_cell? w1 _ r0
    go_wp2_with fail
    go_loopw [37] (fun s37 wr => ∃ k : Nat, k ≤ n ∧ s37 = .int .i64 k ∧ RowB wr w1.heap.size 78 [.int .i64 (hi40 (tierSum n up pr Y k) : Nat), .int .i64 (lo40 (tierSum n up pr Y k) : Nat)] ∧ Ext v0 wr) (fun i _ => n - (intOf i).toNat)
    case atStart => exact ⟨0, by omega, rfl, by rw [show tierSum n up pr Y 0 = 0 from rfl]; exact RowB.laid w1 _ [.int .i64 0, .int .i64 0], hE.alloc _⟩
    case round =>
      obtain ⟨k, hkn, rfl, hR, hX⟩ := hrel
      by_cases hlt : k < n
      · obtain ⟨a, hp, c1, c2⟩ := ht.cell k hlt
        subst hp
        replace c2 := (hwv.out.trans hX).cell c2
        have hokT := hk.2.2.2.2.2.2 k hlt
        obtain ⟨r, hr⟩ : ∃ r : Nat, pr k = (r : Int) := ⟨(pr k).toNat, by have := okB_yes hokT.1; omega⟩
        rw [hr] at c2
        have RB := Lib.hid (okB_yes hokT.1)
        rw [hr] at RB
        have hi0 := ins_bd n up k Y (bel_ok hk hlt) (by omega)
        obtain ⟨I, hI⟩ : ∃ I : Nat, ins n up k Y = (I : Int) := ⟨(ins n up k Y).toNat, by omega⟩
        have IB : Hid ((I : Int) ≤ 1099511627776) := Lib.hid (by have := A2.out; omega)
        obtain ⟨S, hS⟩ : ∃ S, S = tierSum n up pr Y k := ⟨_, rfl⟩
        have hS2 : tierSum n up pr Y (k + 1) = S + r * I := by
          rw [hS]
          show _ + (pr k).toNat * (ins n up k Y).toNat = _
          rw [hr, hI, Int.toNat_natCast, Int.toNat_natCast]
        have hSb : S + r * I ≤ 19342813113834066795298816 := by
          rw [← hS2]
          have h1 := tierSum_bd hk (b := Y) (by omega) A2.out (k + 1) (by omega)
          have h3 := hk.2.1
          omega
        have HSB2 := Lib.hid hSb
        have HS2 := Lib.hid hS2
        have n1 : (1 : Int) ≤ (n : Int) := by have := hk.1; omega
        have n16 : (n : Int) ≤ 16 := by have := hk.2.1; omega
        rw [← hS] at hR
        have hRm : ∀ m : Wd wr, RowB m.val w1.heap.size 78 [.int .i64 (hi40 S : Nat), .int .i64 (lo40 S : Nat)] := fun m => hR.ext m.ext
        have e1 : ∀ m : Wd wr, m.val.cell? ⟨w1.heap.size, 0, none⟩ = some (.int .i64 (hi40 S : Nat)) := fun m => (hRm m).cell rfl
        have e2 : ∀ m : Wd wr, m.val.cell? ⟨w1.heap.size, 1, none⟩ = some (.int .i64 (lo40 S : Nat)) := fun m => (hRm m).cell rfl
        have e3 : ∀ m : Wd wr, m.val.cell? ⟨(a.add (k * 2)).block, (a.add (k * 2)).off + 1, none⟩ = some (.int .i64 (r : Nat)) := fun m => m.ext.cell c2
        have e4 : ∀ m : Wd wr, m.val.frozen? ⟨w1.heap.size, 0, none⟩ = false := fun m => (hRm m).frozen (by simp)
        have e5 : ∀ m : Wd wr, m.val.frozen? ⟨w1.heap.size, 1, none⟩ = false := fun m => (hRm m).frozen (by simp)
        have f0 : ∀ m : Wd wr, m.val.cell? ⟨w.heap.size, 0, none⟩ = some (.slice (some a) n cap) := fun m => (hX.trans m.ext).cell Q0.out
        have f1 : ∀ m : Wd wr, m.val.cell? ⟨w.heap.size, 1, none⟩ = some (.int .i64 U) := fun m => (hX.trans m.ext).cell Q1.out
        have f2 : ∀ m : Wd wr, m.val.cell? ⟨w.heap.size, 2, none⟩ = some (.int .i64 H) := fun m => (hX.trans m.ext).cell Q2.out
        have f3 : ∀ m : Wd wr, m.val.cell? ⟨w.heap.size, 3, none⟩ = some (.int .i64 least) := fun m => (hX.trans m.ext).cell Q3.out
        have HRM := Lib.hid hRm
        have HR2 := Lib.hid hr
        have HI := Lib.hid hI
        have ht2 : ∀ m : Wd wr, Tar m.val (some a) n cap up pr := fun m => ht.ext (hwv.out.trans (hX.trans m.ext))
        have HT := Lib.hid ht2
        have HK := Lib.hid hk
        have hki : (k : Int) < (n : Int) := by omega
        clear hr hS hS2 hSb hI hi0 hokT hRm ht2
        go_upto_region 12 with fail
        refine wp_region_wd_tail 13 (by kernel_rfl) (by kernel_rfl) ?_
        simp only [List.take_succ_cons, List.take_zero, List.drop_succ_cons, List.drop_zero]
        repeat (go_big_quiet_step (first
          | (go_at_call 36; exact Calls.wd_of (inside_is _ (some a) n cap U H least Y up pr (HT.out _) HK.out k hlt (by omega) A2.out I HI.out))
          | (go_at_call 35; exact Calls.wd_of (times_ref r I _ (by have := RB.out; omega) (by have := IB.out; omega)))
          | (go_at_call 34; exact Calls.wd_of (add_ref S (r * I) _ (by have := HSB2.out; unfold hi40; omega) (by have := HSB2.out; unfold hi40; omega)))))
        refine wpQuiet_nil ?_
        rintro _ ⟨nq, rfl⟩
        go_wp2_with fail
        go_roundw
        case rel => exact ⟨k + 1, by omega, by go_num, by rw [HS2.out]; exact ((HRM.out nq).set 0 _ (by simp)).set 1 _ (by simp), ((hX.trans nq.ext).setCell hE.size _).setCell hE.size _⟩
        case measure => simp [intOf]; omega
      · obtain rfl : k = n := by omega
        have g8 : w1.heap.size < wr.heap.size := hR.lt
        have r0 := hX.cell Q0.out
        have r1 := hX.cell Q1.out
        have r2 := hX.cell Q2.out
        have r3 := hX.cell Q3.out
        have HK := Lib.hid hk
        have HTT := Lib.hid ht
        obtain ⟨T, hT⟩ : ∃ T, T = tierSum k up pr Y k := ⟨_, rfl⟩
        rw [← hT] at hR
        have HTE := Lib.hid hT
        clear hT hlt hkn
        clear hk ht
        go_upto_region 15 with (go_at_call 35; refine (times_ref H X _ (by have := HH.out; omega) (by have := A1.out; omega)).mono ?_; rintro e wt ⟨rfl, hxt⟩)
        have hXt := hX.trans hxt
        have hRt := hR.ext hxt
        have r0 := hXt.cell Q0.out
        have r1 := hXt.cell Q1.out
        have r3 := hXt.cell Q3.out
        have hszt : w.heap.size < wt.heap.size := World.block_lt_of_cell? wt _ r0
        have g8t : w1.heap.size < wt.heap.size := hRt.lt
        go_wp2_with fail
        have hz10 : v0.heap.size ≤ wt.heap.size := hXt.size
        have hz11 : v0.heap.size ≤ wt.heap.size + 1 := by omega
        obtain ⟨T0, hT0⟩ : ∃ T0, T0 = H * X * U := ⟨_, rfl⟩
        have hTb : T0 ≤ 1267650600228229401496703205376 := by rw [hT0]; exact HCC.out.2.1
        have HT0 := Lib.hid hT0
        have HTB := Lib.hid hTb
        clear hTb
        have hinv : 0 + U * (H * X) = T0 := by rw [hT0, Nat.zero_add, Nat.mul_comm]
        obtain ⟨P0, hP0⟩ : ∃ P0, P0 = H * X := ⟨_, rfl⟩
        rw [← hP0] at hinv ⊢
        have HINV := Lib.hid hinv
        clear hinv hT0 hP0
        go_loopw [12] (fun s12 wq => ∃ v hN pN : Nat, s12 = .int .i64 v ∧ (v : Int) ≤ 1048576 ∧ RowB wq wt.heap.size 78 [.int .i64 (hi40 hN : Nat), .int .i64 (lo40 hN : Nat)] ∧
          RowB wq (wt.heap.size + 1) 78 [.int .i64 (hi40 pN : Nat), .int .i64 (lo40 pN : Nat)] ∧ Hid (hN + v * pN = T0) ∧ RowB wq w1.heap.size 78 [.int .i64 (hi40 T : Nat), .int .i64 (lo40 T : Nat)] ∧ Ext v0 wq) (fun s _ => (intOf s).toNat)
        case atStart => exact ⟨U, 0, P0, rfl, UU.out, (RowB.laid wt _ [.int .i64 0, .int .i64 0]).ext ((Ext.refl _).alloc _), RowB.laid_at (xs := [.int .i64 (hi40 P0 : Nat), .int .i64 (lo40 P0 : Nat)]) (by simp), HINV, hRt.ext (((Ext.refl _).alloc _).alloc _), (hXt.alloc _).alloc _⟩
        case round =>
          obtain ⟨v, hN, pN, rfl, hv20, hRh, hRp, HI, hRs, hXq⟩ := hrel
          by_cases hv : 1 ≤ v
          · have hpb : pN ≤ v * pN := Nat.le_mul_of_pos_left _ hv
            have hb1 : hi40 hN ≤ 2305843009213693952 := by have := HI.out; have := HTB.out; unfold hi40; omega
            have hb2 : hi40 pN ≤ 2305843009213693952 := by have := HI.out; have := HTB.out; unfold hi40; omega
            have HB1 := Lib.hid hb1
            have HB2 := Lib.hid hb2
            have h0 := hRh.cell (j := 0) rfl
            have h1 := hRh.cell (j := 1) rfl
            have p0 := hRp.cell (j := 0) rfl
            have p1 := hRp.cell (j := 1) rfl
            have hvi : (1 : Int) ≤ (v : Int) := by omega
            obtain ⟨d, hdv⟩ : ∃ d, d = v / 2 := ⟨_, rfl⟩
            have hd : (v : Int) / 2 = (d : Int) := by omega
            have hdt : (v : Int).tdiv 2 = (d : Int) := by rw [Int.tdiv_eq_ediv_of_nonneg (by omega)]; exact hd
            have hdb : (d : Int) ≤ 524288 := by omega
            have HDV := Lib.hid hdv
            clear hdv
            have hsq : wt.heap.size + 1 < wr.heap.size := hRp.lt
            clear hb1 hb2 hpb
            rcases Nat.mod_two_eq_zero_or_one v with hm | hm <;> have HM := Lib.hid hm
            · have hmi : ((v : Int) % 2 == 1) = false := by simp; omega
              have hc := hRp.cell (j := 0) rfl
              go_wp2_with (go_at_call 34; refine (add_ref pN pN _ HB2.out HB2.out).mono ?_; rintro e wb ⟨rfl, hxb⟩; have hRpb := hRp.ext hxb; have fz0 := hRpb.frozen (j := 0) (by simp); have fz1 := hRpb.frozen (j := 1) (by simp); have pc0 := hRpb.cell (j := 0) rfl; have pc1 := hRpb.cell (j := 1) rfl)
              go_roundw
              case rel => exact ⟨d, hN, pN + pN, rfl, by omega, ((hRh.ext hxb).other (by omega) _ _).other (by omega) _ _, (hRpb.set 0 _ (by simp)).set 1 _ (by simp), Lib.hid (half_even HI.out HDV.out HM.out), ((hRs.ext hxb).other (by omega) _ _).other (by omega) _ _, ((hXq.trans hxb).setCell hz11 _).setCell hz11 _⟩
              case measure => simp [intOf]; omega
            · have hmi : ((v : Int) % 2 == 1) = true := by simp; omega
              clear hm
              go_wp2_with (first
                | (go_at_call 34; (with_reducible refine (add_ref hN pN _ HB1.out HB2.out).mono ?_); rintro e wa ⟨rfl, hxa⟩; have hRha := hRh.ext hxa; have hRpa := hRp.ext hxa; have fy0 := hRha.frozen (j := 0) (by simp); have fy1 := hRha.frozen (j := 1) (by simp); have ya0 := hRha.cell (j := 0) rfl; have ya1 := hRha.cell (j := 1) rfl; have za0 := hRpa.cell (j := 0) rfl; have za1 := hRpa.cell (j := 1) rfl)
                | (go_at_call 34; (with_reducible refine (add_ref pN pN _ HB2.out HB2.out).mono ?_); rintro e wb ⟨rfl, hxb⟩; have hRpb := ((hRpa.other (g := wt.heap.size) (by omega) 0 (.int .i64 (hi40 (hN + pN) : Nat))).other (g := wt.heap.size) (by omega) 1 (.int .i64 (lo40 (hN + pN) : Nat))).ext hxb; have fz0 := hRpb.frozen (j := 0) (by simp); have fz1 := hRpb.frozen (j := 1) (by simp); have pc0 := hRpb.cell (j := 0) rfl; have pc1 := hRpb.cell (j := 1) rfl))
              go_roundw
              case rel => exact ⟨d, hN + pN, pN + pN, rfl, by omega, (((((hRha.set 0 _ (by simp)).set 1 _ (by simp)).ext hxb).other (by omega) _ _).other (by omega) _ _), (hRpb.set 0 _ (by simp)).set 1 _ (by simp), Lib.hid (half_odd HI.out HDV.out HM.out), (((((hRs.ext hxa).other (by omega) _ _).other (by omega) _ _).ext hxb).other (by omega) _ _).other (by omega) _ _, (((((hXq.trans hxa).setCell hz10 _).setCell hz10 _).trans hxb).setCell hz11 _).setCell hz11 _⟩
              case measure => simp [intOf]; omega
          · have hv0 : v = 0 := by omega
            subst hv0
            have hC2 : T + hN = cost k U H up pr X Y := by
              have h1 := HI.out
              rw [Nat.zero_mul, Nat.add_zero] at h1
              rw [h1, HT0.out, HTE.out]
              unfold cost
              simp only [Int.toNat_natCast]
              omega
            obtain ⟨C, hC⟩ : ∃ C, C = T + hN := ⟨_, rfl⟩
            have HCE := Lib.hid (hC.trans hC2)
            have hCb : C ≤ 1267669943041383175361510670336 := by rw [hC, hC2]; exact HCC.out.2.2
            have HCB := Lib.hid hCb
            have HCA := Lib.hid hC
            obtain ⟨D, hD⟩ : ∃ D : Nat, D = U * 1000000 := ⟨_, rfl⟩
            have HD := Lib.hid hD
            have UU2 := UU.out
            have hDm : (U : Int) * 1000000 = (D : Int) := by rw [hD]; simp
            have hDw := IntWalk.i64_in (D : Int) (by omega)
            have HDB : Hid ((D : Int) ≤ 1099511627776) := Lib.hid (by omega)
            have hD1 : 1 ≤ D := by omega
            have HD1 := Lib.hid hD1
            clear hC hC2 hCb hD
            obtain ⟨q, hq⟩ : ∃ q, aboveN (T + hN) D = q := ⟨_, rfl⟩
            have hw := above_ways (C := T + hN) HD1.out
            rw [hq] at hw
            have HW := Lib.hid hw
            have HQ := Lib.hid hq
            have bT : Hid (hi40 T ≤ 2305843009213693952) := Lib.hid (by have := HCA.out; have := HCB.out; unfold hi40; omega)
            have bH : Hid (hi40 hN ≤ 2305843009213693952) := Lib.hid (by have := HCA.out; have := HCB.out; unfold hi40; omega)
            have bC : Hid (hi40 (T + hN) ≤ 4611686018427387904) := Lib.hid (by have := HCA.out; have := HCB.out; unfold hi40; omega)
            have e0 : ∀ m : Wd wr, m.val.cell? ⟨w1.heap.size, 0, none⟩ = some (.int .i64 (hi40 T : Nat)) := fun m => m.ext.cell (hRs.cell rfl)
            have e1 : ∀ m : Wd wr, m.val.cell? ⟨w1.heap.size, 1, none⟩ = some (.int .i64 (lo40 T : Nat)) := fun m => m.ext.cell (hRs.cell rfl)
            have e2 : ∀ m : Wd wr, m.val.cell? ⟨wt.heap.size, 0, none⟩ = some (.int .i64 (hi40 hN : Nat)) := fun m => m.ext.cell (hRh.cell rfl)
            have e3 : ∀ m : Wd wr, m.val.cell? ⟨wt.heap.size, 1, none⟩ = some (.int .i64 (lo40 hN : Nat)) := fun m => m.ext.cell (hRh.cell rfl)
            have f1 : ∀ m : Wd wr, m.val.cell? ⟨w.heap.size, 1, none⟩ = some (.int .i64 U) := fun m => (hXq.trans m.ext).cell Q1.out
            have f3 : ∀ m : Wd wr, m.val.cell? ⟨w.heap.size, 3, none⟩ = some (.int .i64 least) := fun m => (hXq.trans m.ext).cell Q3.out
            have hfin : ∀ m : Wd wr, Ext w m.val := fun m => hwv.out.trans (hXq.trans m.ext)
            have HFIN := Lib.hid hfin
            clear hw hq hv hfin
            have least0 := okB_yes HK.out.2.2.2.2.2.1
            have HL := Lib.hid least0
            clear least0
            go_upto_region 21 with fail
            refine wp_region_wd (by kernel_rfl) (by kernel_rfl) ?_
            repeat (go_big_quiet_step (first
              | (go_at_call 34; exact Calls.wd_of (add_ref T hN _ bT.out bH.out))
              | (go_at_call 37; exact Calls.wd_of (above_is (T + hN) D q _ HD1.out (by have := HDB.out; omega) bC.out HQ.out))))
            refine wpQuiet_nil ?_
            rintro _ ⟨nq, rfl⟩
            have hqb : (q : Int) ≤ 1152921504606846976 := by have := HW.out; omega
            rcases Nat.lt_or_ge 1125899906842624 q with cq | cq
            · have cm : max (q : Int) least = (q : Int) := by have := HL.out; omega
              have cq' : decide ((1125899906842624 : Int) < (q : Int)) = true := by simp; omega
              have CQ := Lib.hid cq
              clear cq
              go_wp2_with fail
              go_ret2
              exact rchg_large HK.out HA.out.1 HA.out.2.1 HA.out.2.2 HX.out HY.out (HCA.out ▸ HCE.out) HD.out (by have := HW.out; have := CQ.out; omega) rfl (HFIN.out nq)
            · obtain ⟨c, hc⟩ : ∃ c, max (q : Int) least = c := ⟨_, rfl⟩
              have cq' : decide ((1125899906842624 : Int) < c) = false := by have := HL.out; simp; omega
              have CQ := Lib.hid cq
              have HC2 := Lib.hid hc
              clear cq hqb
              go_wp2_with fail
              go_ret2
              exact rchg_fine HK.out HA.out.1 HA.out.2.1 HA.out.2.2 HX.out HY.out (HCA.out ▸ HCE.out) HD.out (by have := HW.out; have := CQ.out; omega) rfl (by rw [← HC2.out]; have := HW.out; have := CQ.out; omega) (HFIN.out nq)

theorem rcharge_any (w : World) (p : Option Addr) (n cap : Nat) (unit hit least : Int) (up pr : Nat → Int) (ht : Tar w p n cap up pr) (hits bytes : Int) :
    Calls Try.prog 16 #[tarV p n cap unit hit least, .int .i64 hits, .int .i64 bytes] w fun e w' => SChargePost n unit hit least up pr hits bytes e ∧ Ext w w' := by
  by_cases hk : okTar n unit hit least up pr
  · by_cases h1 : 1099511627776 < hits ∨ 1099511627776 < bytes
    · have hz : decide (1099511627776 < hits) = true ∨ (decide (1099511627776 < hits) = false ∧ decide (1099511627776 < bytes) = true) := by simp; omega
      have H1 := Lib.hid h1
      clear h1
      rcases hz with z1 | ⟨z1, z2⟩
      all_goals
        go_enter Try.func16, Try.ntmps16
        go_wp2_with (go_at_call 13; refine (valid_any _ _ _ _ _ _ _ _ _ (ht.ext ((Ext.refl w).alloc _))).mono ?_; rintro e w1 ⟨hP, hE⟩; obtain rfl := valid_yes hk hP; clear hP)
        go_ret2
        exact ⟨⟨0, 5, .inr (.inl ⟨hk, H1.out, rfl, rfl⟩), rfl⟩, ((Ext.refl w).alloc _).trans hE⟩
    · by_cases hp : 0 < hits ∨ 0 < bytes
      · exact rcharge_main w p n cap unit hit least up pr ht hk hits bytes (by omega) (by omega) hp
      · have hX : max 0 hits = 0 := by omega
        have hY : max 0 bytes = 0 := by omega
        have z1 : decide (1099511627776 < hits) = false := by simp; omega
        have z2 : decide (1099511627776 < bytes) = false := by simp; omega
        have HP := Lib.hid hp
        clear hp h1
        go_enter Try.func16, Try.ntmps16
        go_wp2_with (go_at_call 13; refine (valid_any _ _ _ _ _ _ _ _ _ (ht.ext ((Ext.refl w).alloc _))).mono ?_; rintro e w1 ⟨hP, hE⟩; obtain rfl := valid_yes hk hP; clear hP)
        go_ret2
        exact ⟨⟨0, 0, .inr (.inr (.inl ⟨hk, by have := HP.out; omega, by have := HP.out; omega, rfl, rfl⟩)), rfl⟩, ((Ext.refl w).alloc _).trans hE⟩
  · go_enter Try.func16, Try.ntmps16
    go_wp2_with (go_at_call 13; refine (valid_any _ _ _ _ _ _ _ _ _ (ht.ext ((Ext.refl w).alloc _))).mono ?_; rintro e w1 ⟨hP, hE⟩; obtain rfl := valid_no hk hP; clear hP)
    go_ret2
    exact ⟨⟨0, 2, .inl ⟨hk, rfl, rfl⟩, rfl⟩, ((Ext.refl w).alloc _).trans hE⟩
end Go.Proofs.Ytepcnpnpjfdfmaa
