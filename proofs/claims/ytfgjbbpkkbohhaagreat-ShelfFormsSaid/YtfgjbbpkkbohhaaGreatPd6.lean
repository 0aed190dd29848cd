/- Chapter 20: Missing where nothing is missing: nil. -/
import Derived.Test.YtfgjbbpkkbohhaaGreatPd4
namespace Go.Proofs.YtfgjbbpkkbohhaaGreat
open Go.RowKit Go.Deep Go.Sort
set_option maxRecDepth 100000 in
set_option maxHeartbeats 4000000 in
theorem missing_none {w : World} {B b l len : Nat} {A : Nat → Prop} {tag : ByteArray} {D : Nat → Option ByteArray} (h : BodyAt w B A b l tag len D) (F T : Int) (f t : Nat) (hl : len ≤ 65536) (hf : (f : Int) = max 0 F) (hF : F ≤ 9223372036854775807) (ht : t = (min T len).toNat) (hg : gaps D (pcs f t) = []) :
    Calls Tryz.prog 57 #[.pointer (some ⟨b, 0, none⟩), rngV F T] w fun e w' => e = .returned (.slice none 0 0) ∧ Ext w w' := by
  have c1 := h.c1
  have hb1 : (w.alloc (.cells #[.int .i64 F, .int .i64 T] 48)).drew.cell? ⟨b, 1, none⟩ = some (.int .i64 len) := (((Ext.refl w).alloc _).drew).cell c1
  have hb2 : (w.alloc (.cells #[.int .i64 F, .int .i64 T] 48)).cell? ⟨b, 1, none⟩ = some (.int .i64 len) := ((Ext.refl w).alloc _).cell c1
  have HP := Lib.hid (fun W => pieces_any F T len f t hl hf hF ht W)
  have HT := Lib.hid (show t ≤ len by omega)
  have HG := Lib.hid hg
  clear hf ht hg
  go_enter Tryz.func57, Tryz.ntmps57
  go_upto_region 4 with fail
  go_cut [15, 16, 17] (fun v n i wx => ∃ A1 cap1, v = .slice A1 (pcs f t).length cap1 ∧ n = .int .i64 (pcs f t).length ∧ i = .int .i64 0 ∧ (pcs f t).length ≤ cap1 ∧ IntsOwn wx w.heap.size (.slice A1 (pcs f t).length cap1) (pcs f t) ∧ Ext w wx)
  case first =>
    go_region_with (go_at_call 106; refine (HP.out _).mono ?_; rintro e w1 ⟨v1, rfl, hx, ho⟩; obtain ⟨A1, cap1, rfl, hcap1, -⟩ := ho.shape)
    all_goals go_wp2_with fail
    all_goals go_meet
    all_goals exact ⟨A1, cap1, rfl, rfl, rfl, hcap1, ho.more (by simp), (((Ext.refl w).alloc _).drew).trans hx⟩
  case rest =>
  obtain ⟨A1, cap1, rfl, rfl, rfl, hcap1, ho, X1⟩ := hcut
  clear hb1 hb2 HP
  go_wp2_with fail
  go_loopw [5, 17] (fun v i wr => ∃ k : Nat, k ≤ (pcs f t).length ∧ i = .int .i64 k ∧ v = .slice none 0 0 ∧ Ext wc wr) (fun _ i _ => (pcs f t).length - (intOf i).toNat)
  case atStart => exact ⟨0, by omega, rfl, rfl, Ext.refl _⟩
  case round =>
    obtain ⟨k, hk, rfl, rfl, hX⟩ := hrel
    by_cases hlt : k < (pcs f t).length
    · obtain ⟨g1, cp1, e1, e2, e3, e4, e5⟩ := ho.cell k hlt
      simp only [Value.slice.injEq, true_and] at e1
      obtain ⟨rfl, rfl⟩ := e1
      obtain ⟨i, hi⟩ : ∃ i, (pcs f t)[k]? = some i := ⟨_, List.getElem?_eq_getElem hlt⟩
      rw [hi] at e5
      simp only [Option.getD_some] at e5
      have hil : i < npc len := pcs_mem (by have := HT.out; omega) (List.mem_of_getElem? hi)
      have e6 : wr.cell? ⟨g1, k, none⟩ = some (.int .i64 (i : Nat)) := hX.cell e5
      have HR := Lib.hid (h.ext (X1.trans hX))
      have hki : (k : Int) < ((pcs f t).length : Int) := by omega
      have hk6 : k ≤ 256 := by have := pcs_length f t (by have := HT.out; omega); omega
      have hD : (D i).isSome = true := by
        obtain ⟨s, hs⟩ := gaps_nil HG.out (List.mem_of_getElem? hi)
        rw [hs]; rfl
      have HD := Lib.hid hD
      clear e5 e3 e4 hi hD
      go_wp2_with (go_at_call 107; refine (has_in HR.out hl i hil).mono ?_; rw [HD.out]; rintro e w' ⟨rfl, rfl⟩)
      go_roundw
      case rel => exact ⟨k + 1, by omega, by go_num, rfl, hX⟩
      case measure => simp [intOf]; omega
    · obtain rfl : k = (pcs f t).length := by omega
      go_wp2_with fail
      go_ret
      exact ⟨rfl, X1.trans hX⟩
end Go.Proofs.YtfgjbbpkkbohhaaGreat
