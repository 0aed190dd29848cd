/- Walks of package httpdate: texts. -/
import Derived.Test.YtdbheaapeemlmaaDoorHttpA
namespace Go.Proofs.YtdbheaapeemlmaaDoor
open Go.RowKit

def twoS (n : Int) : ByteArray := strOfNums [48 + n / 10, 48 + n % 10]
theorem twoS_size (n : Int) : (twoS n).size = 2 := rfl
set_option maxHeartbeats 400000 in
theorem two_any (n : Int) (w : World) (h0 : 0 ≤ n) (h1 : n ≤ 99) :
    Calls Tryd.prog 25 #[.int .i64 n] w fun e w' => e = .returned (.string (twoS n)) ∧ Ext w w' := by
  have hcv : (convert 45 9 (.slice (some ⟨w.heap.size, 0, none⟩) 2 2)).run Tryd.prog (w.alloc (.cells #[.int .u8 (48 + n / 10), .int .u8 (48 + n % 10)] 5)) = .ok (.string (twoS n)) (w.alloc (.cells #[.int .u8 (48 + n / 10), .int .u8 (48 + n % 10)] 5)) :=
    run_lit_bytes 45 5 9 Tryd.underlying45 Tryd.underlying5 Tryd.underlying9 [48 + n / 10, 48 + n % 10] w
  go_enter Tryd.func25, Tryd.ntmps25
  go_wp2
  go_ret
  exact ⟨rfl, (Ext.refl w).alloc _⟩

/-- the number of two digits -/
def num2 (a b : UInt8) : Int := if 48 ≤ (a.toNat : Int) ∧ (a.toNat : Int) ≤ 57 ∧ 48 ≤ (b.toNat : Int) ∧ (b.toNat : Int) ≤ 57 then 10 * ((a.toNat : Int) - 48) + ((b.toNat : Int) - 48) else -1
def numS (t : ByteArray) : Int := if h : t.size = 2 then num2 (t[0]'(by omega)) (t[1]'(by omega)) else 0
set_option maxHeartbeats 400000 in
theorem number_any (t : ByteArray) (w : World) (hs : t.size = 2) :
    Calls Tryd.prog 32 #[.string t] w fun e w' => e = .returned (.int .i64 (numS t)) ∧ Ext w w' := by
  have hn : numS t = num2 (t[0]'(by omega)) (t[1]'(by omega)) := by unfold numS; rw [dif_pos hs]
  have HN := Lib.hid hn
  clear hn
  go_enter Tryd.func32, Tryd.ntmps32
  go_wp2
  all_goals first
    | (go_quiet (fail)
       go_wp2
       go_ret
       refine ⟨ret_int ?_, (Ext.refl w).drewN _⟩
       rw [HN.out]; unfold num2; rw [if_pos (by omega)])
    | (go_ret
       refine ⟨ret_int ?_, Ext.refl w⟩
       rw [HN.out]; unfold num2; rw [if_neg (by omega)])

/-- the date text, in pieces as the program adds them -/
def fmtS (A B : ByteArray) (y d r : Int) : ByteArray :=
  A ++ ⟨#[44, 32]⟩ ++ twoS d ++ ⟨#[32]⟩ ++ B ++ ⟨#[32]⟩ ++ twoS (y / 100) ++ twoS (y % 100) ++ ⟨#[32]⟩ ++ twoS (r / 3600) ++ ⟨#[58]⟩ ++ twoS (r / 60 % 60) ++ ⟨#[58]⟩ ++ twoS (r % 60) ++ ⟨#[32, 71, 77, 84]⟩

def FormatP (n : Int) (w : World) (e : Ending) (w' : World) : Prop :=
  ∃ y m d : Int, Cal.vldB y m d = true ∧ Cal.num y m d = n / 86400 ∧ e = .returned (.tuple #[.string (fmtS (wdS (wkd (n / 86400)).toNat) (moS (m.toNat - 1)) y d (n % 86400)), .nilIface]) ∧ Ext w w'

theorem wdS_size (k : Nat) : (wdS k).size = 3 := by unfold wdS; split <;> rfl
theorem moS_size (k : Nat) : (moS k).size = 3 := by unfold moS; split <;> rfl

theorem format_no (n : Int) (w : World) (h : n < 0 ∨ 253402300799 < n) :
    Calls Tryd.prog 11 #[.int .i64 n] w fun e w' => e = .returned (.tuple #[.string ⟨#[]⟩, errV 1]) ∧ Ext w w' := by
  rcases h with h | h
  · go_enter Tryd.func11, Tryd.ntmps11
    go_wp2_with fail
    go_ret2
    exact ⟨rfl, Ext.refl w⟩
  · have h' : ¬ n < 0 := by omega
    go_enter Tryd.func11, Tryd.ntmps11
    go_wp2_with fail
    go_ret2
    exact ⟨rfl, Ext.refl w⟩

set_option maxHeartbeats 1000000 in
theorem format_ok (n : Int) (w : World) (hL : Laid w) (h0 : 0 ≤ n) (h1 : n ≤ 253402300799) :
    Calls Tryd.prog 11 #[.int .i64 n] w (FormatP n w) := by
  have hd0 : 0 ≤ n / 86400 := by omega
  have hd1 : n / 86400 ≤ 2932896 := by omega
  go_enter Tryd.func11, Tryd.ntmps11
  go_wp2_with fail
  refine (date_ok (n / 86400) w hL hd0 hd1).mono ?_
  rintro e w' ⟨y, m, d, hv, hnum, rfl, rfl⟩
  obtain ⟨b1, b2, b3, b4, b5, b6⟩ := Cal.vldB_iff.1 hv
  have b7 := Cal.dim_hi y m
  obtain ⟨k1, k2⟩ := wkd_bd (n / 86400)
  have HV := Lib.hid hv
  have HNUM := Lib.hid hnum
  clear hv hnum
  obtain ⟨A, hA⟩ : ∃ A, A = wdS (wkd (n / 86400)).toNat := ⟨_, rfl⟩
  obtain ⟨B, hB⟩ : ∃ B, B = moS (m.toNat - 1) := ⟨_, rfl⟩
  have ha : ∀ x : Wd w, x.val.cell? ⟨0, (wkd (n / 86400)).toNat, none⟩ = some (.string A) := fun x => by rw [hA]; exact (hL.ext x.ext).wd _ (by omega)
  have hb : ∀ x : Wd w, x.val.cell? ⟨1, m.toNat - 1, none⟩ = some (.string B) := fun x => by rw [hB]; exact (hL.ext x.ext).mo _ (by omega)
  have sA : A.size = 3 := by rw [hA]; exact wdS_size _
  have sB : B.size = 3 := by rw [hB]; exact moS_size _
  have s2 := twoS_size
  have HA := Lib.hid hA
  have HB := Lib.hid hB
  clear hA hB
  go_wp2_with fail
  refine wp_region_wd (by kernel_rfl) (by kernel_rfl) ?_
  repeat (go_big_quiet_step (first | (go_at_call 25; exact Calls.wd_of (two_any _ _ (by omega) (by omega))) | (go_at_call 19; exact Calls.wd_of_same (weekday_any _ _))))
  refine wpQuiet_nil ?_
  rintro _ ⟨nq, rfl⟩
  go_wp2
  go_ret2
  refine ⟨y, m, d, HV.out, HNUM.out, ?_, nq.ext⟩
  rw [← HA.out, ← HB.out]
  refine ret_str2 ?_
  unfold fmtS
  rw [show n % 86400 % 60 = n % 60 from by omega]
end Go.Proofs.YtdbheaapeemlmaaDoor
