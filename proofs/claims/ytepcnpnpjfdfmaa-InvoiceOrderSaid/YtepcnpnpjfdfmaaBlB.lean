/- Chapter 53: Bill. -/
import Derived.Test.YtepcnpnpjfdfmaaBlA
namespace Go.Proofs.Ytepcnpnpjfdfmaa
open Go.RowKit Go.Maps
set_option maxRecDepth 100000 in
/-- Bill of no set. -/
theorem bill_none (p : Option Addr) (n cap : Nat) (unit hit least f u : Int) (w : World) :
    Calls Try.prog 22 #[.pointer none, tarV p n cap unit hit least, .int .i64 f, .int .i64 u] w fun e w' => e = .returned (.tuple #[.slice none 0 0, .int .i64 0, errV 3]) ∧ Ext w w' := by
  go_enter Try.func22, Try.ntmps22
  go_wp2_with fail
  go_ret3
  exact ⟨rfl, (Ext.refl w).alloc _⟩
open Classical in
/-- what Bill hands back: the number of the error; the lines and the sum -/
noncomputable def bcode (n : Nat) (unit hit least : Int) (up pr : Nat → Int) (f u : Int) (hh bb : Nat → Int) : Int :=
  if okTar n unit hit least up pr then (if f ≤ u then cdF hh bb (chg n unit hit least up pr) 16 else 7) else 2
def BillPost (n : Nat) (unit hit least : Int) (up pr : Nat → Int) (f u : Int) (hh bb : Nat → Int) (e : Ending) (w' : World) : Prop :=
  (bcode n unit hit least up pr f u hh bb = 0 ∧ ∃ v, e = .returned (.tuple #[v, .int .i64 (smF hh bb (chg n unit hit least up pr) 16), .nilIface]) ∧ LnAt w' v (lns hh bb (chg n unit hit least up pr) 16)) ∨
  (bcode n unit hit least up pr f u hh bb ≠ 0 ∧ e = .returned (.tuple #[.slice none 0 0, .int .i64 0, errV (bcode n unit hit least up pr f u hh bb)]))
theorem bcode_is (n : Nat) (unit hit least : Int) (up pr : Nat → Int) (f u : Int) (hh bb : Nat → Int) :
    (okTar n unit hit least up pr → f ≤ u → bcode n unit hit least up pr f u hh bb = cdF hh bb (chg n unit hit least up pr) 16) ∧ (okTar n unit hit least up pr → ¬ f ≤ u → bcode n unit hit least up pr f u hh bb = 7) ∧
    (¬ okTar n unit hit least up pr → bcode n unit hit least up pr f u hh bb = 2) := by
  unfold bcode
  exact ⟨fun h1 h2 => by rw [if_pos h1, if_pos h2], fun h1 h2 => by rw [if_pos h1, if_neg h2], fun h1 => by rw [if_neg h1]⟩
theorem wrap_small {a : Int} (h : 0 ≤ a) (h2 : a ≤ 4611686018427387904) : wrap64 a = a := by unfold wrap64; omega
set_option maxRecDepth 100000 in
set_option maxHeartbeats 4000000 in
theorem bill_any (p : Option Addr) (n cap : Nat) (unit hit least f u : Int) (up pr : Nat → Int) (w : World) (ht : Tar w p n cap up pr) (q : Nat) {r : List Ent} (hrl : r.length ≤ 1000) (hgd : ∀ x ∈ r, x.good)
    (HLS : ∀ Z, Ext w Z → ListsTo Z (.pointer (some ⟨q, 0, none⟩)) r) :
    Calls Try.prog 22 #[.pointer (some ⟨q, 0, none⟩), tarV p n cap unit hit least, .int .i64 f, .int .i64 u] w fun e w' =>
      BillPost n unit hit least up pr f u (fun t => tot Ent.ht (pB t f u) r) (fun t => tot Ent.by_ (pB t f u) r) e w' ∧ Ext w w' := by
  have HT := Lib.hid ht
  have HL := Lib.hid HLS
  have HRL := Lib.hid (And.intro hrl hgd)
  have HB : Hid (∀ (t : Nat) Z, Ext w Z → Calls Try.prog 23 #[.pointer (some ⟨q, 0, none⟩), .int .i64 t, .int .i64 f, .int .i64 u] Z fun e w' => e = .returned (.tuple #[.int .i64 (tot Ent.ht (pB t f u) r), .int .i64 (tot Ent.by_ (pB t f u) r)]) ∧ Ext Z w') := Lib.hid (fun t Z hZ => between_any hrl hgd t f u Z (HLS Z hZ))
  obtain ⟨hh, hhh⟩ : ∃ hh : Nat → Int, (fun t : Nat => tot Ent.ht (pB t f u) r) = hh := ⟨_, rfl⟩
  obtain ⟨bb, hbb⟩ : ∃ bb : Nat → Int, (fun t : Nat => tot Ent.by_ (pB t f u) r) = bb := ⟨_, rfl⟩
  have HB2 : Hid (∀ (t : Nat) Z, Ext w Z → Calls Try.prog 23 #[.pointer (some ⟨q, 0, none⟩), .int .i64 t, .int .i64 f, .int .i64 u] Z fun e w' => e = .returned (.tuple #[.int .i64 (hh t), .int .i64 (bb t)]) ∧ Ext Z w') := by rw [← hhh, ← hbb]; exact HB
  rw [hhh, hbb]
  clear HB hhh hbb HLS hrl hgd ht
  have hch := chg_bd n unit hit least up pr
  have HCH := Lib.hid (fun W (hW : Ext w W) h b => charge_f W p n cap unit hit least up pr (HT.out.ext hW) h b)
  unfold BillPost
  obtain ⟨ch, hc⟩ : ∃ ch, chg n unit hit least up pr = ch := ⟨_, rfl⟩
  have hbi := bcode_is n unit hit least up pr f u hh bb
  obtain ⟨bc, hbc⟩ : ∃ bc, bcode n unit hit least up pr f u hh bb = bc := ⟨_, rfl⟩
  rw [hbc, hc] at hbi
  have HBC := Lib.hid hbi
  rw [hbc]
  rw [hc] at HCH hch ⊢
  have HSB := Lib.hid (sm_bd hh bb ch hch)
  have HCB := Lib.hid hch
  clear hc hbc hch hbi
  have HCK : Hid (∀ W, Ext w W → Calls Try.prog 12 #[.agg #[.slice p n cap, .int .i64 unit, .int .i64 hit, .int .i64 least]] W fun e w' => ∃ v, e = .returned v ∧ ((okTar n unit hit least up pr ∧ v = .nilIface) ∨ (¬ okTar n unit hit least up pr ∧ v = errV 2)) ∧ Ext W w') := Lib.hid (fun W hW => (check_any W p n cap unit hit least up pr (HT.out.ext hW)).mono (by
    rintro e w' ⟨⟨h1, rfl⟩ | ⟨h1, rfl⟩, hx⟩
    · exact ⟨_, rfl, .inl ⟨h1, rfl⟩, hx⟩
    · exact ⟨_, rfl, .inr ⟨h1, rfl⟩, hx⟩))
  go_enter Try.func22, Try.ntmps22
  obtain ⟨w0, hw0⟩ : ∃ w0, w0 = w.alloc (.cells #[.slice p n cap, .int .i64 unit, .int .i64 hit, .int .i64 least] 24) := ⟨_, rfl⟩
  have X0 : Ext w w0 := by rw [hw0]; exact (Ext.refl w).alloc _
  have HTR : Hid (RowB w0 w.heap.size 24 [.slice p n cap, .int .i64 unit, .int .i64 hit, .int .i64 least]) := Lib.hid (by rw [hw0]; exact row_laid _ _ _)
  go_upto_region 3 with fail
  rw [← hw0]
  clear hw0
  obtain ⟨tb, htb⟩ : ∃ tb, w.heap.size = tb := ⟨_, rfl⟩
  have HTB := Lib.hid htb
  rw [htb] at HTR ⊢
  clear htb
  have c0 := HTR.out.cell (j := 0) rfl
  have c1 := HTR.out.cell (j := 1) rfl
  have c2 := HTR.out.cell (j := 2) rfl
  have c3 := HTR.out.cell (j := 3) rfl
  have HX0 := Lib.hid X0
  clear X0
  go_upto_region 4 with (go_at_call 12; refine (HCK.out _ HX0.out).mono ?_; rintro e w1 ⟨ck, rfl, hck, hx1⟩)
  clear c0 c1 c2 c3
  rcases hck with ⟨hok, rfl⟩ | ⟨hok, rfl⟩
  · have HOK := Lib.hid hok
    by_cases hfu : f ≤ u
    · have HX1 := Lib.hid (HX0.out.trans hx1)
      have HTR1 := Lib.hid (HTR.out.ext hx1)
      obtain ⟨B, hB⟩ : ∃ B, w1.heap.size = B := ⟨_, rfl⟩
      have HBB : Hid (w.heap.size ≤ B ∧ tb < B ∧ w1.heap.size = B) := Lib.hid (by
        have h1 := HX1.out.size
        have h2 := HTR1.out.lt
        omega)
      clear hok hx1 hB
      have HFU := Lib.hid hfu
      go_wp2_with fail
      go_loopw [12, 13, 31] (fun ov sv i wr => ∃ (k : Nat), k ≤ 16 ∧ i = .int .i64 k ∧ sv = .int .i64 (smF hh bb ch k) ∧ Hid (cdF hh bb ch k = 0 ∧ LnOwn wr B ov (lns hh bb ch k) ∧ Ext w1 wr)) (fun _ _ i _ => 16 - (intOf i).toNat)
      case atStart => exact ⟨0, by omega, rfl, rfl, Lib.hid ⟨rfl, LnOwn.nil _ _, Ext.refl _⟩⟩
      case round =>
        obtain ⟨k, hk, rfl, rfl, HR⟩ := hrel
        by_cases hlt : k < 16
        · have hki : (k : Int) < 16 := by omega
          obtain ⟨h, hh0⟩ : ∃ h, hh k = h := ⟨_, rfl⟩
          obtain ⟨b, hb0⟩ : ∃ b, bb k = b := ⟨_, rfl⟩
          have HHB := Lib.hid (And.intro hh0 hb0)
          have HBW : Hid (Calls Try.prog 23 #[.pointer (some ⟨q, 0, none⟩), .int .i64 k, .int .i64 f, .int .i64 u] wr fun e w' => e = .returned (.tuple #[.int .i64 h, .int .i64 b]) ∧ Ext wr w') := Lib.hid (by rw [← hh0, ← hb0]; exact HB2.out k wr (HX1.out.trans HR.out.2.2))
          clear hh0 hb0
          go_upto_region 14 with (go_at_call 23; refine HBW.out.mono ?_; rintro e w3 ⟨rfl, hx3⟩)
          have hu : (h = 0 ∧ b = 0) ∨ ((h = 0 ∧ b ≠ 0) ∨ h ≠ 0) := by omega
          rcases hu with ⟨rfl, rfl⟩ | hu
          · have HUS : Hid (usd hh bb k = false) := Lib.hid (by unfold usd; rw [HHB.out.1, HHB.out.2]; rfl)
            go_wp2_with fail
            go_roundw
            case rel =>
              refine ⟨k + 1, by omega, by go_num, ?_, Lib.hid ⟨?_, ?_, HR.out.2.2.trans hx3⟩⟩
              · rw [sm_succ, HUS.out]; simp
              · rw [cd_succ, HUS.out, if_neg (by rw [HR.out.1]; decide)]; rfl
              · rw [lns_succ, HUS.out]; simpa using HR.out.2.1.kept (hx3.grown none) (fun k e => by cases e)
            case measure => simp [intOf]; omega
          · have HUS : Hid (usd hh bb k = true) := Lib.hid (by unfold usd; rw [HHB.out.1, HHB.out.2]; rcases hu with ⟨h1, h2⟩ | h1 <;> simp [*])
            obtain ⟨c, hc0⟩ : ∃ c, (ch h b).1 = c := ⟨_, rfl⟩
            obtain ⟨code, hd0⟩ : ∃ c, (ch h b).2 = c := ⟨_, rfl⟩
            have HCC := Lib.hid (And.intro hc0 hd0)
            have HCW : Hid (∀ Z, Ext wr Z → Calls Try.prog 15 #[.agg #[.slice p n cap, .int .i64 unit, .int .i64 hit, .int .i64 least], .int .i64 h, .int .i64 b] Z fun e w' => e = .returned (.tuple #[.int .i64 c, errOf code]) ∧ Ext Z w') := Lib.hid (fun Z hZ => by rw [← hc0, ← hd0]; exact HCH.out Z (HX1.out.trans (HR.out.2.2.trans hZ)) h b)
            clear hc0 hd0
            have HX3 := Lib.hid hx3
            have d0 := (HTR1.out.ext (HR.out.2.2.trans hx3)).cell (j := 0) rfl
            have d1 := (HTR1.out.ext (HR.out.2.2.trans hx3)).cell (j := 1) rfl
            have d2 := (HTR1.out.ext (HR.out.2.2.trans hx3)).cell (j := 2) rfl
            have d3 := (HTR1.out.ext (HR.out.2.2.trans hx3)).cell (j := 3) rfl
            have HU := Lib.hid hu
            go_cut [47] (fun v wx => v = .bool false ∧ wx = w3)
            case first =>
              rcases hu with ⟨h1, h2⟩ | h1
              · have h2' : (b == 0) = false := by simpa using h2
                go_wp2_with fail
                go_meet
                exact ⟨rfl, rfl⟩
              · have h1' : (h == 0) = false := by simpa using h1
                go_wp2_with fail
                go_meet
                exact ⟨rfl, rfl⟩
            obtain ⟨rfl, rfl⟩ := hcut
            clear hu
            by_cases hc0 : code = 0
            · subst hc0
              rw [show errOf 0 = Value.nilIface from rfl] at HCW
              go_upto_region 18 with (go_at_call 15; refine (HCW.out _ HX3.out).mono ?_; rintro e w4 ⟨rfl, hx4⟩)
              have hsb := HSB.out k
              have hcb := HCB.out h b
              rw [HCC.out.1] at hcb
              have hwr : wrap64 (smF hh bb ch k + c) = smF hh bb ch k + c := wrap_small (by omega) (by omega)
              have HO4 := HR.out.2.1.kept ((HX3.out.trans hx4).grown none) (fun k e => by cases e)
              have hl := lns_len hh bb ch k
              have HX4 := Lib.hid (HR.out.2.2.trans (HX3.out.trans hx4))
              have hsz : B ≤ w4.heap.size := by have := HBB.out.2.2; have := HX4.out.size; omega
              have HO := Lib.hid HO4
              have HL16 : Hid ((lns hh bb ch k).length ≤ 100000) := Lib.hid (by omega)
              clear hsb hcb d0 d1 d2 d3 HO4 hl
              go_wp2_with (at_builtin; refine wpList_append_line _ rfl _ _ rfl B ⟨k, h, b, c⟩ HO.out rfl rfl rfl HL16.out hsz ?_; intro v' w9 hO9 hB9 hK9)
              go_roundw
              case rel =>
                refine ⟨k + 1, by omega, by go_num, ?_, Lib.hid ⟨?_, ?_, ?_⟩⟩
                · rw [sm_succ, HUS.out, HHB.out.1, HHB.out.2, HCC.out.1]; simp; exact hwr
                · rw [cd_succ, HUS.out, if_neg (by rw [HR.out.1]; decide), HHB.out.1, HHB.out.2]; exact HCC.out.2
                · rw [lns_succ, HUS.out, HHB.out.1, HHB.out.2, HCC.out.1]; exact hO9
                · exact Below.trans HX4.out.below (Below.mono hB9 (by have := HBB.out.2.2; omega))
              case measure => simp [intOf]; omega
            · have HCW2 : Hid (∀ Z, Ext wr Z → Calls Try.prog 15 #[.agg #[.slice p n cap, .int .i64 unit, .int .i64 hit, .int .i64 least], .int .i64 h, .int .i64 b] Z fun e w' => e = .returned (.tuple #[.int .i64 c, errV code]) ∧ Ext Z w') := by
                rw [show errV code = errOf code by unfold errOf; rw [if_neg hc0]]; exact HCW
              have HC0 := Lib.hid hc0
              clear hc0 HCW
              go_wp2_with (go_at_call 15; refine (HCW2.out _ HX3.out).mono ?_; rintro e w4 ⟨rfl, hx4⟩)
              go_ret3
              have hcd : cdF hh bb ch (k + 1) = code := by rw [cd_succ, HUS.out, if_neg (by rw [HR.out.1]; decide), HHB.out.1, HHB.out.2]; exact HCC.out.2
              have hbc : bc = code := by
                rw [HBC.out.1 HOK.out HFU.out]
                have := cd_stays hh bb ch (k := k + 1) (by rw [hcd]; exact HC0.out) (15 - k)
                rw [show k + 1 + (15 - k) = 16 by omega] at this
                rw [this, hcd]
              rw [hbc]
              exact ⟨.inr ⟨HC0.out, rfl⟩, HX1.out.trans (HR.out.2.2.trans (HX3.out.trans hx4))⟩
        · obtain rfl : k = 16 := by omega
          go_wp2_with fail
          go_ret3
          have hbc : bc = 0 := by rw [HBC.out.1 HOK.out HFU.out]; exact HR.out.1
          exact ⟨.inl ⟨hbc, _, rfl, HR.out.2.1.at⟩, HX1.out.trans HR.out.2.2⟩
    · go_wp2_with fail
      go_ret3
      rw [HBC.out.2.1 hok hfu]
      exact ⟨.inr ⟨by decide, rfl⟩, HX0.out.trans hx1⟩
  · go_wp2_with fail
    go_ret3
    rw [HBC.out.2.2 hok]
    exact ⟨.inr ⟨by decide, rfl⟩, HX0.out.trans hx1⟩
end Go.Proofs.Ytepcnpnpjfdfmaa
