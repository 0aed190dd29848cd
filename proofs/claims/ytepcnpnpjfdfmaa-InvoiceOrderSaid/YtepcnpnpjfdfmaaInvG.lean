/- Walk of invoice.Charge. -/
import Derived.Test.YtepcnpnpjfdfmaaInvM
import Derived.Test.YtepcnpnpjfdfmaaInvD
import Derived.Test.YtepcnpnpjfdfmaaTail
import Derived.Test.YtepcnpnpjfdfmaaRow
import Derived.Deep.RegionHeld3
import Derived.Deep.DrawnRows
import Derived.Deep.DeepCutAuto
namespace Go.Proofs.Ytepcnpnpjfdfmaa
open Go.RowKit
attribute [local go_sem ↓] Go.wp_at_zero Go.wp_at_succ

theorem Ext.same {W w1 : World} (hb : Ext W w1) : (∀ b o, b < W.heap.size → w1.cell? ⟨b, o, none⟩ = W.cell? ⟨b, o, none⟩) ∧ (∀ b o, b < W.heap.size → w1.frozen? ⟨b, o, none⟩ = W.frozen? ⟨b, o, none⟩) :=
  ⟨fun b o h => Below.cell hb (p := ⟨b, o, none⟩) h, fun b o h => Below.frozen hb (p := ⟨b, o, none⟩) h⟩

theorem RowB.laid (w : World) (e : TypeId) (xs : List Value) : RowB (w.alloc (.cells xs.toArray e)) w.heap.size e xs := by
  refine ⟨xs.toArray, (0, 0), [], ?_, fun j h1 h2 => by omega, by simp⟩
  show (w.heap.push _)[w.heap.size]? = _
  simp

theorem RowB.laid2 {w w' : World} {e : TypeId} {a b c d : Value} (h : Ext (w.alloc (.cells #[a, b] e)) w') : RowB ((w'.setCell ⟨w.heap.size, 0, none⟩ c).setCell ⟨w.heap.size, 1, none⟩ d) w.heap.size e [c, d] :=
  (((RowB.laid w e [a, b]).ext h).set 0 c (by simp)).set 1 d (by simp)

theorem bel_le {n : Nat} {unit hit least : Int} {up pr : Nat → Int} (h : okTar n unit hit least up pr) {k : Nat} (hk : k < n) : bel up k ≤ 1099511627776 := by
  rcases k with _ | k
  · rw [bel_zero]; omega
  · rw [bel_succ]; exact (okB_yes (h.2.2.2.2.2.2 k (by omega)).2.1).2

def errOf (code : Int) : Value := if code = 0 then .nilIface else errV code
def ChargePost (n : Nat) (unit hit least : Int) (up pr : Nat → Int) (hits bytes : Int) (e : Ending) : Prop :=
  ∃ c code : Int, ChgP n unit hit least up pr hits bytes c code ∧ e = .returned (.tuple #[.int .i64 c, errOf code])

theorem check_yes {n : Nat} {unit hit least : Int} {up pr : Nat → Int} {e : Ending} (h : okTar n unit hit least up pr) (hp : CheckPost n unit hit least up pr e) : e = .returned .nilIface := by
  rcases hp with ⟨-, h2⟩ | ⟨h1, -⟩
  · exact h2
  · exact absurd h h1
theorem check_no {n : Nat} {unit hit least : Int} {up pr : Nat → Int} {e : Ending} (h : ¬ okTar n unit hit least up pr) (hp : CheckPost n unit hit least up pr e) : e = .returned (errV 2) := by
  rcases hp with ⟨h1, -⟩ | ⟨-, h2⟩
  · exact absurd h1 h
  · exact h2

theorem div64_c (C D q r : Nat) (w : World) (h1 : hiN C < D) (h2 : D < 18446744073709551616) (hq : C / D = q) (hr : C % D = r) :
    Calls Try.prog 33 #[.int .u64 (hiN C : Nat), .int .u64 (loN C : Nat), .int .u64 D] w fun e w' => e = .returned (.tuple #[.int .u64 q, .int .u64 r]) ∧ Ext w w' := by
  have h := div64_any (hiN C) (loN C) D w h1 h2 (loN_lt C)
  rw [w2_hiN, hq, hr] at h
  exact h
theorem chg_large {n U H X Y D C : Nat} {least : Int} {up pr : Nat → Int} {hits bytes : Int} {w w' : World} {e : Ending} (hk : okTar n U H least up pr) (h1 : hits ≤ 1099511627776) (b1 : bytes ≤ 1099511627776) (hp : 0 < hits ∨ 0 < bytes)
    (hX : max hits 0 = (X : Int)) (hY : max bytes 0 = (Y : Int)) (hC : C = cost n U H up pr X Y) (hD : D = U * 1000000) (hD1 : (1 : Int) ≤ (D : Int)) (hc : 1125899906842624 * D < C) (he : e = .returned (.tuple #[.int .i64 0, errV 5])) (hx : Ext w w') :
    ChargePost n U H least up pr hits bytes e ∧ Ext w w' := by
  refine ⟨⟨0, 5, .inr (.inr (.inr (.inl ⟨hk, h1, b1, hp, ?_, rfl, rfl⟩))), he⟩, hx⟩
  rw [hX, hY, ← hC, Int.toNat_natCast, ← hD]
  have := ceil_iff (a := C) (n := D) (q := 1125899906842624) (by omega)
  omega
theorem chg_fine {n U H X Y D C : Nat} {least c : Int} {up pr : Nat → Int} {hits bytes : Int} {w w' : World} {e : Ending} (hk : okTar n U H least up pr) (h1 : hits ≤ 1099511627776) (b1 : bytes ≤ 1099511627776) (hp : 0 < hits ∨ 0 < bytes)
    (hX : max hits 0 = (X : Int)) (hY : max bytes 0 = (Y : Int)) (hC : C = cost n U H up pr X Y) (hD : D = U * 1000000) (hc : ceilD C D ≤ 1125899906842624) (he : e = .returned (.tuple #[.int .i64 c, .nilIface])) (hcc : c = max ((ceilD C D : Nat) : Int) least) (hx : Ext w w') :
    ChargePost n U H least up pr hits bytes e ∧ Ext w w' := by
  refine ⟨⟨c, 0, .inr (.inr (.inr (.inr ⟨hk, h1, b1, hp, ?_, ?_, rfl⟩))), he⟩, hx⟩ <;> rw [hX, hY, ← hC, Int.toNat_natCast, ← hD]
  · exact hc
  · exact hcc

set_option maxRecDepth 100000 in
set_option maxHeartbeats 4000000 in
theorem charge_main (w : World) (p : Option Addr) (n cap : Nat) (unit hit least : Int) (up pr : Nat → Int) (ht : Tar w p n cap up pr) (hk : okTar n unit hit least up pr) (hits bytes : Int)
    (h1 : hits ≤ 1099511627776) (b1 : bytes ≤ 1099511627776) (hp : 0 < hits ∨ 0 < bytes) :
    Calls Try.prog 15 #[tarV p n cap unit hit least, .int .i64 hits, .int .i64 bytes] w fun e w' => ChargePost n unit hit least up pr hits bytes e ∧ Ext w w' := by
  obtain ⟨X, hX⟩ : ∃ X : Nat, max hits 0 = (X : Int) := ⟨(max hits 0).toNat, by omega⟩
  obtain ⟨Y, hY⟩ : ∃ Y : Nat, max bytes 0 = (Y : Int) := ⟨(max bytes 0).toNat, by omega⟩
  have A1 := Lib.hid (show (X : Int) ≤ 1099511627776 by omega)
  have A2 := Lib.hid (show (Y : Int) ≤ 1099511627776 by omega)
  have X1 : decide (1099511627776 < (X : Int)) = false := by simp; omega
  have Y1 : decide (1099511627776 < (Y : Int)) = false := by simp; omega
  have hz : ((X : Int) == 0) = false ∨ (((X : Int) == 0) = true ∧ ((Y : Int) == 0) = false) := by
    by_cases h : X = 0
    · right; simp; omega
    · left; simp; omega
  have HA := Lib.hid (And.intro h1 (And.intro b1 hp))
  have HX := Lib.hid hX
  have HY := Lib.hid hY
  clear h1 b1 hp
  obtain ⟨H, hH⟩ : ∃ H : Nat, hit = (H : Int) := ⟨hit.toNat, by have := okB_yes hk.2.2.2.2.1; omega⟩
  obtain ⟨U, hU⟩ : ∃ U : Nat, unit = (U : Int) := ⟨unit.toNat, by have := hk.2.2.1; omega⟩
  have HH0 : (H : Int) ≤ 1099511627776 := by have := okB_yes hk.2.2.2.2.1; omega
  have UU0 : (U : Int) ≤ 1048576 := by have := hk.2.2.2.1; omega
  have U1 : (1 : Int) ≤ (U : Int) := by have := hk.2.2.1; omega
  have hcc := cost_bd hk (x := X) (b := Y) (by omega) A2.out (by omega) A1.out
  have hcb := Lib.hid hcc
  subst hH
  subst hU
  obtain ⟨v0, hv0⟩ : ∃ v, v = w.alloc (.cells #[.slice p n cap, .int .i64 U, .int .i64 H, .int .i64 least] 24) := ⟨_, rfl⟩
  have q0 : v0.cell? ⟨w.heap.size, 0, none⟩ = some (.slice p n cap) := by rw [hv0]; simp
  have q1 : v0.cell? ⟨w.heap.size, 1, none⟩ = some (.int .i64 U) := by rw [hv0]; simp
  have q2 : v0.cell? ⟨w.heap.size, 2, none⟩ = some (.int .i64 H) := by rw [hv0]; simp
  have q3 : v0.cell? ⟨w.heap.size, 3, none⟩ = some (.int .i64 least) := by rw [hv0]; simp
  have hwv : Hid (Ext w v0) := Lib.hid (by rw [hv0]; exact (Ext.refl w).alloc _)
  have HV0 := Lib.hid hv0
  have Q0 := Lib.hid q0
  have Q1 := Lib.hid q1
  have Q2 := Lib.hid q2
  have Q3 := Lib.hid q3
  clear q0 q1 q2 q3
  clear hv0
  simp only [Int.toNat_natCast] at hcc
  have hsb : H * X * U < 18446744073709551616 * 18446744073709551616 := by omega
  have hsh : hiN (H * X) < 4294967296 * 4294967296 := by unfold hiN; omega
  have HSB := Lib.hid hsb
  have HSH := Lib.hid hsh
  have HH := Lib.hid HH0
  have UU := Lib.hid UU0
  clear hcc hsb hsh HH0 UU0
  rcases hz with z1 | ⟨z1, z2⟩
  all_goals
    go_enter Try.func15, Try.ntmps15
    go_upto_region 9 with (go_at_call 12; refine (check_any _ _ _ _ _ _ _ _ _ (ht.ext ((Ext.refl w).alloc _))).mono ?_; rintro e w1 ⟨hP, hE⟩; rw [← HV0.out] at hE; obtain rfl := check_yes hk hP; clear hP)
    go_cut [9, 10] (fun s9 s10 wx => ∃ g : Nat, s9 = .pointer (some ⟨g, 0, none⟩) ∧ s10 = .int .i64 0 ∧ RowB wx g 71 [.int .u64 (hiN (H * X * U) : Nat), .int .u64 (loN (H * X * U) : Nat)] ∧ v0.heap.size ≤ g ∧ Ext v0 wx)
    case first =>
      clear X1 Y1
      go_region_held3 (fun w' => w'.cell? ⟨w.heap.size, 1, none⟩ = some (.int .i64 U) ∧ w'.cell? ⟨w.heap.size, 2, none⟩ = some (.int .i64 H)) (first
        | (refine ⟨Ext.cell (w := v0) ?_ Q1.out, Ext.cell (w := v0) ?_ Q2.out⟩ <;> (repeat' (first | assumption | exact Ext.refl _ | refine Ext.drew ?_ | refine Ext.alloc ?_ _ | refine Ext.setCell ?_ (Ext.size (w := v0) ?_) _ | refine Ext.trans ?_ (by assumption)))))
        (first
        | (go_at_call 30; go_must (refine (times_any H X _ (by have := HH.out; omega) (by have := A1.out; omega)).mono ?_); rintro e w2 ⟨rfl, hx2⟩; obtain ⟨hc2, hf2⟩ := hx2.same; have hz2 := hx2.size; (try simp at hz2); (try (have hz2' : w1.heap.size < w2.heap.size := by omega)))
        | (go_at_call 31; refine (scaled_any (H * X) U _ (by have := UU.out; omega) HSB.out HSH.out).mono ?_; rintro e w3 ⟨rfl, hx3⟩; obtain ⟨hc3, hf3⟩ := hx3.same; have hz3 := hx3.size; (try simp at hz3)))
      all_goals go_wp2_with fail
      all_goals go_meet
      all_goals refine ⟨_, rfl, rfl, ?_, ?_, ?_⟩
      all_goals first
        | exact RowB.laid _ _ _
        | exact RowB.laid2 hx3
        | exact RowB.laid2 (w := w1.drew) (hx2.trans hx3)
        | (refine Ext.size (w := v0) ?_; (repeat' (first | assumption | exact Ext.refl _ | refine Ext.drew ?_ | refine Ext.alloc ?_ _ | refine Ext.setCell ?_ (Ext.size (w := v0) ?_) _ | refine Ext.trans ?_ (by assumption))))
        | ((repeat' (first | assumption | exact Ext.refl _ | refine Ext.drew ?_ | refine Ext.alloc ?_ _ | refine Ext.setCell ?_ (Ext.size (w := v0) ?_) _ | refine Ext.trans ?_ (by assumption))); done)
    case rest =>
      obtain ⟨g, rfl, rfl, hR, hg, hX0⟩ := hcut
      clear X1 Y1
      have r0 := hX0.cell Q0.out
      go_wp2_with fail
      go_loopw [10, 49] (fun s10 s49 wr => ∃ k : Nat, ∃ z : Int, k ≤ n ∧ s49 = .int .i64 k ∧ s10 = .int .i64 z ∧ Hid (k < n → z = bel up k) ∧ RowB wr g 71 [.int .u64 (hiN (H * X * U + tierSum n up pr Y k) : Nat), .int .u64 (loN (H * X * U + tierSum n up pr Y k) : Nat)] ∧ Ext v0 wr) (fun _ i _ => n - (intOf i).toNat)
      case atStart => exact ⟨0, 0, by omega, rfl, rfl, Lib.hid (fun _ => rfl), hR, hX0⟩
      case round =>
        obtain ⟨k, z, hkn, rfl, rfl, HZ, hR, hX⟩ := hrel
        by_cases hlt : k < n
        · obtain ⟨a, hp, c1, c2⟩ := ht.cell k hlt
          subst hp
          replace c1 := (hwv.out.trans hX).cell c1
          replace c2 := (hwv.out.trans hX).cell c2
          have hokT := hk.2.2.2.2.2.2 k hlt
          have hzb := HZ.out hlt
          obtain ⟨u, hu⟩ : ∃ u, u = up k := ⟨_, rfl⟩
          obtain ⟨r, hr⟩ : ∃ r : Nat, pr k = (r : Int) := ⟨(pr k).toNat, by have := okB_yes hokT.1; omega⟩
          rw [← hu] at c1
          rw [hr] at c2
          have r0 := hX.cell Q0.out
          have ht2 := Lib.hid ht
          have hk2 := Lib.hid hk
          have UB := Lib.hid (okB_yes hokT.2.1)
          have RB := Lib.hid (okB_yes hokT.1)
          rw [← hu] at UB
          rw [hr] at RB
          have ZB := Lib.hid (bel_ok hk hlt)
          have ZB2 := Lib.hid (bel_le hk hlt)
          have hZU := Lib.hid hokT.2.2.2
          rw [← hzb] at ZB2
          rw [← hzb] at ZB
          rw [← hzb, ← hu] at hZU
          have hi0 := ins_bd n up k Y (bel_ok hk hlt) (by omega)
          obtain ⟨I, hI⟩ : ∃ I : Nat, ins n up k Y = (I : Int) := ⟨(ins n up k Y).toNat, by omega⟩
          have IB : Hid ((I : Int) ≤ 1099511627776) := Lib.hid (by have := A2.out; omega)
          obtain ⟨S, hS⟩ : ∃ S, S = H * X * U + tierSum n up pr Y k := ⟨_, rfl⟩
          have hS2 : H * X * U + tierSum n up pr Y (k + 1) = S + r * I := by
            rw [hS]
            show _ + (_ + (pr k).toNat * (ins n up k Y).toNat) = _
            rw [hr, hI, Int.toNat_natCast, Int.toNat_natCast]
            omega
          have hSb : S + r * I < 18446744073709551616 * 18446744073709551616 := by
            rw [← hS2]
            have h1 := tierSum_bd hk (b := Y) (by omega) A2.out (k + 1) (by omega)
            have h2 := (hcb.out).2.1
            simp only [Int.toNat_natCast] at h2
            have h3 := hk.2.1
            omega
          have HSB2 := Lib.hid hSb
          have HS2 := Lib.hid hS2
          have n1 : (1 : Int) ≤ (n : Int) := by have := hk.1; omega
          have n16 : (n : Int) ≤ 16 := by have := hk.2.1; omega
          rw [← hS] at hR
          have hRm : ∀ m : Wd (wr.alloc (.cells #[.int .i64 u, .int .i64 (r : Nat)] 42)), RowB m.val g 71 [.int .u64 (hiN S : Nat), .int .u64 (loN S : Nat)] := fun m => (hR.ext ((Ext.refl wr).alloc _)).ext m.ext
          have w1 : ∀ m : Wd (wr.alloc (.cells #[.int .i64 u, .int .i64 (r : Nat)] 42)), m.val.cell? ⟨g, 0, none⟩ = some (.int .u64 (hiN S : Nat)) := fun m => (hRm m).cell rfl
          have w2 : ∀ m : Wd (wr.alloc (.cells #[.int .i64 u, .int .i64 (r : Nat)] 42)), m.val.cell? ⟨g, 1, none⟩ = some (.int .u64 (loN S : Nat)) := fun m => (hRm m).cell rfl
          have w3 : ∀ m : Wd (wr.alloc (.cells #[.int .i64 u, .int .i64 (r : Nat)] 42)), m.val.cell? ⟨wr.heap.size, 1, none⟩ = some (.int .i64 (r : Nat)) := fun m => m.ext.cell (by simp)
          have w4 : ∀ m : Wd (wr.alloc (.cells #[.int .i64 u, .int .i64 (r : Nat)] 42)), m.val.frozen? ⟨g, 0, none⟩ = false := fun m => (hRm m).frozen (by simp)
          have w5 : ∀ m : Wd (wr.alloc (.cells #[.int .i64 u, .int .i64 (r : Nat)] 42)), m.val.frozen? ⟨g, 1, none⟩ = false := fun m => (hRm m).frozen (by simp)
          have HRM := Lib.hid hRm
          have HU2 := Lib.hid hu
          have HR2 := Lib.hid hr
          have hsz : w.heap.size < wr.heap.size := World.block_lt_of_cell? wr _ r0
          by_cases hl : k + 1 = n
          · have HL := Lib.hid hl
            have E : max 0 ((Y : Int) - z) = (I : Int) := by rw [← hI, hzb]; unfold ins; rw [if_pos hl]
            have WR := IntWalk.i64_in ((Y : Int) - z) (by have := A2.out; have := ZB.out; have := ZB2.out; omega)
            have hq : ((k : Int) == (n : Int) - 1) = true := by simp; omega
            clear hu hr hS hS2 hSb hI hi0 hzb hl hokT hk ht hRm
            go_upto_region 16 with fail
            refine wp_region_wd_tail 11 (by kernel_rfl) (by kernel_rfl) ?_
            simp only [List.take_succ_cons, List.take_zero, List.drop_succ_cons, List.drop_zero]
            repeat (go_big_quiet_step (first
              | (go_at_call 30; exact Calls.wd_of (times_any r I _ (by have := RB.out; omega) (by have := IB.out; omega)))
              | (go_at_call 32; exact Calls.wd_of (plus_any S (r * I) _ HSB2.out))))
            refine wpQuiet_nil ?_
            rintro _ ⟨nq, rfl⟩
            go_wp2_with fail
            go_roundw
            case rel => exact ⟨k + 1, _, by omega, by go_num, rfl, Lib.hid (fun h => by first | (exfalso; have := HL.out; omega) | (rw [bel_succ, ← HU2.out]; have := hZU.out h; omega)), by rw [HS2.out]; exact ((HRM.out nq).set 0 _ (by simp)).set 1 _ (by simp), (((hX.trans ((Ext.refl wr).alloc _)).trans nq.ext).setCell hg _).setCell hg _⟩
            case measure => simp [intOf]; omega
          · have E : max 0 (min (Y : Int) u - z) = (I : Int) := by rw [← hI, hzb, hu]; unfold ins; rw [if_neg hl]
            have WR := IntWalk.i64_in (min (Y : Int) u - z) (by have := A2.out; have := UB.out; have := ZB.out; have := ZB2.out; omega)
            have hq : ((k : Int) == (n : Int) - 1) = false := by simp; omega
            clear hu hr hS hS2 hSb hI hi0 hzb hokT hk ht hRm
            go_upto_region 16 with fail
            refine wp_region_wd_tail 11 (by kernel_rfl) (by kernel_rfl) ?_
            simp only [List.take_succ_cons, List.take_zero, List.drop_succ_cons, List.drop_zero]
            repeat (go_big_quiet_step (first
              | (go_at_call 30; exact Calls.wd_of (times_any r I _ (by have := RB.out; omega) (by have := IB.out; omega)))
              | (go_at_call 32; exact Calls.wd_of (plus_any S (r * I) _ HSB2.out))))
            refine wpQuiet_nil ?_
            rintro _ ⟨nq, rfl⟩
            go_wp2_with fail
            go_roundw
            case rel => exact ⟨k + 1, _, by omega, by go_num, rfl, Lib.hid (fun h => by first | (exfalso; have := HL.out; omega) | (rw [bel_succ, ← HU2.out]; have := hZU.out h; omega)), by rw [HS2.out]; exact ((HRM.out nq).set 0 _ (by simp)).set 1 _ (by simp), (((hX.trans ((Ext.refl wr).alloc _)).trans nq.ext).setCell hg _).setCell hg _⟩
            case measure => simp [intOf]; omega
        · obtain rfl : k = n := by omega
          obtain ⟨C, hC⟩ : ∃ C, C = cost k U H up pr X Y := ⟨_, rfl⟩
          have hC2 : H * X * U + tierSum k up pr Y k = C := by rw [hC]; unfold cost; simp only [Int.toNat_natCast]
          rw [hC2] at hR
          have hC3 := Lib.hid (hcb.out).2.2
          rw [← hC] at hC3
          have HC := Lib.hid hC
          have hk2 := Lib.hid hk
          have r0 := hX.cell Q0.out
          have r1 := hX.cell Q1.out
          have r3 := hX.cell Q3.out
          have g0 := hR.cell (j := 0) rfl
          have g1 := hR.cell (j := 1) rfl
          obtain ⟨D, hD⟩ : ∃ D : Nat, D = U * 1000000 := ⟨_, rfl⟩
          have hD2 : (U : Int) * 1000000 = (D : Int) := by rw [hD]; simp
          have HD := Lib.hid hD
          have hDb : (D : Int) ≤ 1048576000000 := by have := UU.out; omega
          have hD1 : (1 : Int) ≤ (D : Int) := by omega
          have UU2 := UU.out
          clear hC hC2 hD hR hk ht hlt hkn
          by_cases ca : D ≤ hiN C
          · have ca' : (D : Int) ≤ (hiN C : Int) := by omega
            go_wp2_with fail
            go_ret2
            exact chg_large hk2.out HA.out.1 HA.out.2.1 HA.out.2.2 HX.out HY.out HC.out HD.out hD1 (by have := ca; unfold hiN at this; omega) rfl (hwv.out.trans hX)
          · have ca' : ¬ (D : Int) ≤ (hiN C : Int) := by omega
            obtain ⟨q, hq⟩ : ∃ q, C / D = q := ⟨_, rfl⟩
            obtain ⟨r, hr⟩ : ∃ r, C % D = r := ⟨_, rfl⟩
            have hdm := Nat.div_add_mod C D
            have hmm := Nat.mod_lt C (show 0 < D by omega)
            rw [hq, hr] at hdm
            rw [hr] at hmm
            have HDM := Lib.hid hdm
            have HMM := Lib.hid hmm
            have HQ := Lib.hid hq
            have HR := Lib.hid hr
            have CA := Lib.hid ca
            clear hq hr hdm hmm ca
            rcases Nat.lt_or_ge 1125899906842624 q with cq | cq
            · have cq' : decide ((1125899906842624 : Int) < (q : Int)) = true := by simp; omega
              have CQ := Lib.hid cq
              clear cq
              go_wp2_with (go_at_call 33; refine (div64_c C D q _ _ (by have := CA.out; omega) (by omega) HQ.out HR.out).mono ?_; rintro e w' ⟨rfl, hx4⟩; have r5 := hx4.cell r3)
              go_ret2
              exact chg_large hk2.out HA.out.1 HA.out.2.1 HA.out.2.2 HX.out HY.out HC.out HD.out hD1 (by have h1 := HDM.out; have h2 := Nat.mul_le_mul_left D CQ.out; omega) rfl (hwv.out.trans (hX.trans hx4))
            · have cq' : decide ((1125899906842624 : Int) < (q : Int)) = false := by simp; omega
              have cqi : (q : Int) ≤ 1125899906842624 := by omega
              rcases Nat.eq_zero_or_pos r with cr | cr
              · subst cr
                have HE : Hid (ceilD C D = q) := Lib.hid ((ceil_no (a := C) (n := D) (by omega) HR.out).symm.trans HQ.out)
                have HCQ := Lib.hid cq
                clear cq
                go_wp2_with (go_at_call 33; refine (div64_c C D q _ _ (by have := CA.out; omega) (by omega) HQ.out HR.out).mono ?_; rintro e w' ⟨rfl, hx4⟩; have r5 := hx4.cell r3)
                go_ret2
                exact chg_fine hk2.out HA.out.1 HA.out.2.1 HA.out.2.2 HX.out HY.out HC.out HD.out (by rw [HE.out]; exact HCQ.out) rfl (by rw [HE.out]) (hwv.out.trans (hX.trans hx4))
              · have cr' : (1 : Int) ≤ (r : Int) := by omega
                have CR := Lib.hid cr
                have HE : Hid (ceilD C D = q + 1) := Lib.hid (by rw [← HQ.out]; exact (ceil_yes (a := C) (n := D) (by omega) (by rw [HR.out]; exact cr)).symm)
                clear cr
                by_cases c2 : q = 1125899906842624
                · have cq2 : decide ((1125899906842624 : Int) < (q : Int) + 1) = true := by simp; omega
                  have CQ := Lib.hid (show 1125899906842624 ≤ q by omega)
                  clear cq c2
                  go_wp2_with (go_at_call 33; refine (div64_c C D q _ _ (by have := CA.out; omega) (by omega) HQ.out HR.out).mono ?_; rintro e w' ⟨rfl, hx4⟩; have r5 := hx4.cell r3)
                  go_ret2
                  exact chg_large hk2.out HA.out.1 HA.out.2.1 HA.out.2.2 HX.out HY.out HC.out HD.out hD1 (by have h1 := HDM.out; have h2 := Nat.mul_le_mul_left D CQ.out; have h3 := CR.out; omega) rfl (hwv.out.trans (hX.trans hx4))
                · have cq2 : decide ((1125899906842624 : Int) < (q : Int) + 1) = false := by simp; omega
                  have cqi2 : decide ((1125899906842624 : Int) ≤ (q : Int)) = false := by simp; omega
                  have CQ := Lib.hid (show q + 1 ≤ 1125899906842624 by omega)
                  clear cq c2
                  go_wp2_with (go_at_call 33; refine (div64_c C D q _ _ (by have := CA.out; omega) (by omega) HQ.out HR.out).mono ?_; rintro e w' ⟨rfl, hx4⟩; have r5 := hx4.cell r3)
                  go_ret2
                  exact chg_fine hk2.out HA.out.1 HA.out.2.1 HA.out.2.2 HX.out HY.out HC.out HD.out (by rw [HE.out]; exact CQ.out) rfl (by rw [HE.out, Int.natCast_add]; rfl) (hwv.out.trans (hX.trans hx4))

theorem charge_any (w : World) (p : Option Addr) (n cap : Nat) (unit hit least : Int) (up pr : Nat → Int) (ht : Tar w p n cap up pr) (hits bytes : Int) :
    Calls Try.prog 15 #[tarV p n cap unit hit least, .int .i64 hits, .int .i64 bytes] w fun e w' => ChargePost n unit hit least up pr hits bytes e ∧ Ext w w' := by
  by_cases hk : okTar n unit hit least up pr
  · by_cases h1 : 1099511627776 < hits ∨ 1099511627776 < bytes
    · obtain ⟨X, hX⟩ : ∃ X : Nat, max hits 0 = (X : Int) := ⟨(max hits 0).toNat, by omega⟩
      obtain ⟨Y, hY⟩ : ∃ Y : Nat, max bytes 0 = (Y : Int) := ⟨(max bytes 0).toNat, by omega⟩
      have hz : decide (1099511627776 < (X : Int)) = true ∨ (decide (1099511627776 < (X : Int)) = false ∧ decide (1099511627776 < (Y : Int)) = true) := by simp; omega
      have H1 := Lib.hid h1
      clear h1
      rcases hz with z1 | ⟨z1, z2⟩
      all_goals
        go_enter Try.func15, Try.ntmps15
        go_wp2_with (go_at_call 12; refine (check_any _ _ _ _ _ _ _ _ _ (ht.ext ((Ext.refl w).alloc _))).mono ?_; rintro e w1 ⟨hP, hE⟩; obtain rfl := check_yes hk hP; clear hP)
        go_ret2
        exact ⟨⟨0, 5, .inr (.inl ⟨hk, H1.out, rfl, rfl⟩), rfl⟩, ((Ext.refl w).alloc _).trans hE⟩
    · by_cases hp : 0 < hits ∨ 0 < bytes
      · exact charge_main w p n cap unit hit least up pr ht hk hits bytes (by omega) (by omega) hp
      · have hX : max hits 0 = 0 := by omega
        have hY : max bytes 0 = 0 := by omega
        go_enter Try.func15, Try.ntmps15
        go_wp2_with (go_at_call 12; refine (check_any _ _ _ _ _ _ _ _ _ (ht.ext ((Ext.refl w).alloc _))).mono ?_; rintro e w1 ⟨hP, hE⟩; obtain rfl := check_yes hk hP; clear hP)
        go_ret2
        exact ⟨⟨0, 0, .inr (.inr (.inl ⟨hk, by omega, by omega, rfl, rfl⟩)), rfl⟩, ((Ext.refl w).alloc _).trans hE⟩
  · go_enter Try.func15, Try.ntmps15
    go_wp2_with (go_at_call 12; refine (check_any _ _ _ _ _ _ _ _ _ (ht.ext ((Ext.refl w).alloc _))).mono ?_; rintro e w1 ⟨hP, hE⟩; obtain rfl := check_no hk hP; clear hP)
    go_ret2
    exact ⟨⟨0, 2, .inl ⟨hk, rfl, rfl⟩, rfl⟩, ((Ext.refl w).alloc _).trans hE⟩
end Go.Proofs.Ytepcnpnpjfdfmaa
