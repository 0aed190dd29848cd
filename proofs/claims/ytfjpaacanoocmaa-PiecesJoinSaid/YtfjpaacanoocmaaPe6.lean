/- Chapter 20: the reference's Missing. -/
import Derived.Test.YtfjpaacanoocmaaPe5
namespace Go.Proofs.Ytfjpaacanoocmaa
open Go.RowKit Go.Deep Go.Sort
set_option maxRecDepth 100000 in
set_option maxHeartbeats 4000000 in
theorem rmissing_any {w : World} {d tt len : Nat} {tag : ByteArray} {D : Nat → Option ByteArray} (h : RefAt w d tt len D) (F T : Int) (f t : Nat) (hl : len ≤ 65536) (hf : (f : Int) = max 0 F) (ht : t = (min T len).toNat) :
    Calls Try.prog 30 #[refV tag len d tt, rngV F T] w fun e w' => ∃ v, e = .returned v ∧ Ext w w' ∧ IntsOwn w' w.heap.size v (gaps D (pcs f t)) := by
  have HP := Lib.hid (fun W => rpieces_any F T len f t hl hf ht W)
  have HT := Lib.hid (show t ≤ len by omega)
  clear hf ht
  obtain ⟨w0, hw0⟩ : ∃ w0, w0 = (w.alloc (.cells #[.string tag, .int .i64 len, .slice (some ⟨d, 0, none⟩) (npc len) (npc len), .slice (some ⟨tt, 0, none⟩) (npc len) (npc len)] 29)).alloc (.cells #[.int .i64 F, .int .i64 T] 67) := ⟨_, rfl⟩
  have X0 : Ext w w0 := by rw [hw0]; exact ((Ext.refl w).alloc _).alloc _
  have HR0 := Lib.hid (show RowB w0 w.heap.size 29 [.string tag, .int .i64 len, .slice (some ⟨d, 0, none⟩) (npc len) (npc len), .slice (some ⟨tt, 0, none⟩) (npc len) (npc len)] by rw [hw0]; exact (RowB.laid w _ _).ext ((Ext.refl _).alloc _))
  have HR1 := Lib.hid (show RowB w0 (w.heap.size + 1) 67 [.int .i64 F, .int .i64 T] by rw [hw0]; simpa using RowB.laid (w.alloc _) 67 [.int .i64 F, .int .i64 T])
  have hrow : ∀ W, Ext w W → ∀ i, i < npc len → W.cell? ⟨tt, i, none⟩ = some (.bool (D i).isSome) := fun W hW i hi => hW.cell (h.there.cell hi)
  have HH := Lib.hid hrow
  clear hrow h
  have r0 := HR1.out.cell (j := 0) rfl
  have r1 := HR1.out.cell (j := 1) rfl
  have b1 := HR0.out.cell (j := 1) rfl
  go_enter Try.func30, Try.ntmps30
  go_upto_region 1 with fail
  rw [← hw0]
  clear hw0
  go_upto_region 3 with (go_at_call 41; refine (HP.out _).mono ?_; rintro e wc ⟨v1, rfl, hx, ho⟩; obtain ⟨A1, cap1, rfl, hcap1, -⟩ := ho.shape)
  clear r0 r1 b1
  have X1 : Ext w wc := X0.trans hx
  have hBl := X1.size
  have HL := pcs_length f t (by have := HT.out; omega)
  have HHL := Lib.hid HL
  go_wp2_with fail
  go_loopw [5, 14] (fun v i wr => ∃ k : Nat, k ≤ (pcs f t).length ∧ i = .int .i64 k ∧ IntsOwn wr wc.heap.size v (gaps D ((pcs f t).take k)) ∧ Ext wc wr) (fun _ i _ => (pcs f t).length - (intOf i).toNat)
  case atStart => exact ⟨0, by omega, rfl, World.ownsRow_nil _ _ _ _, Ext.refl _⟩
  case round =>
    obtain ⟨k, hk, rfl, hown, hX⟩ := hrel
    by_cases hlt : k < (pcs f t).length
    · obtain ⟨g1, cp1, e1, e2, e3, e4, e5⟩ := ho.cell k hlt
      simp only [Value.slice.injEq, true_and] at e1
      obtain ⟨rfl, rfl⟩ := e1
      obtain ⟨i, hi⟩ : ∃ i, (pcs f t)[k]? = some i := ⟨_, List.getElem?_eq_getElem hlt⟩
      rw [hi] at e5
      simp only [Option.getD_some] at e5
      have hil : i < npc len := pcs_mem (by have := HT.out; omega) (List.mem_of_getElem? hi)
      have hn : npc len ≤ 256 := by unfold npc; omega
      have hi6 : i < 256 := by omega
      have e6 : ∀ q, (wr.drewN q).cell? ⟨g1, k, none⟩ = some (.int .i64 (i : Nat)) := fun q => (hX.drewN q).cell e5
      have e7 : wr.cell? ⟨g1, k, none⟩ = some (.int .i64 (i : Nat)) := hX.cell e5
      have b3 : ∀ q, (wr.drewN q).cell? ⟨w.heap.size, 3, none⟩ = some (.slice (some ⟨tt, 0, none⟩) (npc len) (npc len)) := fun q => ((HR0.out.ext hx).ext (hX.drewN q)).cell (j := 3) rfl
      have b4 : ∀ q, (wr.drewN q).cell? ⟨tt, i, none⟩ = some (.bool (D i).isSome) := fun q => HH.out _ (X1.trans (hX.drewN q)) i hil
      have hg := gaps_take D (pcs f t) k hlt
      rw [hi, Option.getD_some] at hg
      have hsz := hX.size
      have hki : (k : Int) < ((pcs f t).length : Int) := by omega
      have hk6 : k ≤ 256 := by omega
      have hln := Lib.hid (show (gaps D ((pcs f t).take k)).length ≤ 256 from Nat.le_trans (gaps_length D ((pcs f t).take k)) (by rw [List.length_take]; omega))
      have hn2 : decide (npc len ≤ i) = false := by simp; omega
      have hi0 : decide ((i : Int) < 0) = false := by simp
      have hkc : k < cap1 := by omega
      cases hD : (D i).isSome with
      | true =>
        rw [hD, if_pos rfl, List.append_nil] at hg
        rw [hD] at b4
        have HG := Lib.hid hg
        clear hg e5 e3 e4 hi
        go_upto_region 6 with fail
        refine wp_region_quiet_lit (by kernel_rfl) (by kernel_rfl) ?_
        repeat (go_big_quiet_step (fail))
        refine wpQuiet_nil ?_
        rintro _ ⟨nq, rfl⟩
        go_wp2_with fail
        go_roundw
        case rel => exact ⟨k + 1, by omega, by go_num, by rw [HG.out]; exact own_ext hown ((Ext.refl _).drewN _), hX.drewN _⟩
        case measure => simp [intOf]; omega
      | false =>
        rw [hD, if_neg (by simp)] at hg
        rw [hD] at b4
        have HG := Lib.hid hg
        clear hg e5 e3 e4 hi
        go_upto_region 6 with fail
        refine wp_region_quiet_lit (by kernel_rfl) (by kernel_rfl) ?_
        repeat (go_big_quiet_step (fail))
        refine wpQuiet_nil ?_
        rintro _ ⟨nq, rfl⟩
        have hown2 : IntsOwn (wr.drewN nq) wc.heap.size _ (gaps D ((pcs f t).take k)) := own_ext hown ((Ext.refl _).drewN _)
        have hsz2 : wc.heap.size ≤ (wr.drewN nq).heap.size := hsz
        go_wp2_with (at_builtin; refine wpList_append_int (wr.drewN nq) rfl _ _ rfl wc.heap.size i _ hown2 rfl rfl rfl (by have := hln.out; omega) hsz2 ?_)
        intro v' w1 hown' hb
        rw [← HG.out] at hown'
        go_wp2_with fail
        go_roundw
        case rel => exact ⟨k + 1, by omega, by go_num, hown', Below.trans (hX.drewN nq) hb⟩
        case measure => simp [intOf]; omega
    · obtain rfl : k = (pcs f t).length := by omega
      rw [List.take_length] at hown
      go_wp2_with fail
      go_ret
      exact ⟨_, rfl, X1.trans hX, hown.more hBl⟩
end Go.Proofs.Ytfjpaacanoocmaa
