/- Chapter 20: a Put on both bodies. -/
import Derived.Test.YtfjpaacanoocmaaPf5
namespace Go.Proofs.Ytfjpaacanoocmaa
open Go.RowKit Go.Deep Go.Sort
section
variable {w w' w1 w2 W : World} {B b l mb len d t d' t' g : Nat} {tag : ByteArray} {D D' : Nat → Option ByteArray} {G : Nat → Prop}
theorem PSt.step0 (hb : BodyAt w1 B (fun q => q = mb ∨ q = d ∨ q = t ∨ G q) b l tag len D) (hx : Ext w1 w2) (hrow : RowB w1 mb 29 (refC tag len d t)) (hr : RefAt w1 d t len D) (hok : PcOk len D) (hne : d ≠ mb ∧ t ≠ mb) :
    PSt (mSt w2 mb tag len d t) B b l mb len d t tag D G :=
  ⟨(hb.ext hx).kept (mSt_kept _ _ _ _ _ _) (.inl rfl), (hr.ext hx).kept (mSt_kept _ _ _ _ _ _) hne.1 hne.2,
    ((((hrow.ext hx).set 0 (.string tag) (by simp)).set 1 (.int .i64 len) (by simp)).set 2 (.slice (some ⟨d, 0, none⟩) (npc len) (npc len)) (by simp)).set 3 (.slice (some ⟨t, 0, none⟩) (npc len) (npc len)) (by simp), hok, hne⟩
theorem puts_both (h : PSt w B b l mb len d t tag D (fun q => q = g)) (hl : len ≤ 65536) (ii : Int) (hi : okZ ii) (s : ByteArray) (hs : BytesAt w g s) (hz : s.size ≤ 300) (hg : g < w.heap.size) (hdg : d ≠ g ∧ t ≠ g) :
    ∃ (q : Int) (D' : Nat → Option ByteArray),
      (∀ cap, Calls Try.prog 16 #[.pointer (some ⟨b, 0, none⟩), .int .i64 ii, .slice (some ⟨g, 0, none⟩) s.size cap] w fun e w' => ∃ ev, e = .returned ev ∧ Below B w w' ∧ Kept l w w' ∧
        BodyAt w' B (fun q => q = mb ∨ q = d ∨ q = t ∨ q = g) b l tag len D' ∧ ∀ W', Calls Try.prog 20 #[ev] W' fun e w'' => e = .returned (.int .i64 q) ∧ W' = w'') ∧
      (∀ W, BodyAt W B (fun q => q = mb ∨ q = d ∨ q = t ∨ q = g) b l tag len D' → RefAt W d t len D → RowB W mb 29 (refC tag len d t) → g < W.heap.size →
        Calls Try.prog 32 #[refV tag len d t, .int .i64 ii, .string s] W fun e w' => ∃ d' t', e = .returned (.tuple #[refV tag len d' t', .int .i64 q]) ∧ Ext W w' ∧ PSt (mSt w' mb tag len d' t') B b l mb len d' t' tag D' (fun q => q = g) ∧ d' ≠ g ∧ t' ≠ g) := by
  have hA : ∀ k, (k = mb ∨ k = d ∨ k = t ∨ k = g) → k < w.heap.size := by
    have := h.lt
    rintro k (e | e | e | e) <;> omega
  have hBs : B ≤ w.heap.size := by
    obtain ⟨f, hf, _⟩ := h.body.row
    have h1 := hf.lt
    have h2 := h.body.hl
    omega
  by_cases hin : 0 ≤ ii ∧ ii < (npc len : Int)
  · obtain ⟨j, rfl⟩ : ∃ j : Nat, ii = (j : Int) := ⟨ii.toNat, by omega⟩
    have hj : j < npc len := by omega
    have hj2 : j * 256 < len := by unfold npc at hj; omega
    by_cases hsz : s.size = pto j len - j * 256
    · have hok : PcOk len (upd D j (some s)) := h.ok.upd (some s) fun s' hs' => by
        obtain rfl := Option.some.inj hs'
        exact hsz
      cases hD : D j with
      | none =>
        refine ⟨0, upd D j (some s), fun cap => (put_ok h.body hl j hj g cap s hs hsz hD hA).mono ?_, fun W hb hr hrow hgW => (rput_ok hr hl j hj s hsz hD).mono ?_⟩
        · rintro e w' ⟨rfl, h1, h2, h3⟩
          exact ⟨_, rfl, h1, h2, h3, fun W' => num_nil W'⟩
        · rintro e w' ⟨d', t', rfl, hx, hd, hr'⟩
          exact ⟨d', t', rfl, hx, PSt.step hb hx hrow hd hr' hok, by omega, by omega⟩
      | some s' =>
        by_cases hss : s' = s
        · subst hss
          refine ⟨0, upd D j (some s'), fun cap => (put_same h.body hl j hj g cap s' hs hsz hD hA).mono ?_, fun W hb hr hrow hgW => (rput_same hr hl j hj s' hsz hD).mono ?_⟩
          · rintro e w' ⟨rfl, h1, h2, h3⟩
            exact ⟨_, rfl, h1, h2, h3, fun W' => num_nil W'⟩
          · rintro e w' ⟨d', t', rfl, hx, hd, hr'⟩
            exact ⟨d', t', rfl, hx, PSt.step hb hx hrow hd hr' hok, by omega, by omega⟩
        · have hne : (s'.toList == s.toList) = false := by
            rw [beq_eq_false_iff_ne]
            intro e
            rw [ByteArray.toList_eq, ByteArray.toList_eq] at e
            exact hss (ByteArray.ext (Array.toList_inj.1 e))
          refine ⟨20, D, fun cap => (put_mixed h.body hl j hj g cap s s' hs hsz hD hss).mono ?_, fun W hb hr hrow hgW => (rput_mixed hr hl j hj s s' hsz hD hne).mono ?_⟩
          · rintro e w' ⟨rfl, rfl⟩
            exact ⟨_, rfl, Below.refl _ _, Kept.refl _ _, h.body, fun W' => num_err 20 W'⟩
          · rintro e w' ⟨rfl, hx⟩
            exact ⟨d, t, rfl, hx, PSt.step0 hb hx hrow hr h.ok h.ne, hdg⟩
    · refine ⟨2, D, fun cap => (put_form h.body hl j hj _ _ cap (by omega) hsz).mono ?_, fun W hb hr hrow hgW => (rput_form hl j hj2 s hsz (by omega)).mono ?_⟩
      · rintro e w' ⟨rfl, hx⟩
        exact ⟨_, rfl, Below.mono hx hBs, Kept.of_ext _ hx, h.body.ext hx, fun W' => num_err 2 W'⟩
      · rintro e w' ⟨rfl, hx⟩
        exact ⟨d, t, rfl, hx, PSt.step0 hb hx hrow hr h.ok h.ne, hdg⟩
  · have hout : ii < 0 ∨ (npc len : Int) ≤ ii := by omega
    refine ⟨1, D, fun cap => (put_range h.body ii hout _ _ cap).mono ?_, fun W hb hr hrow hgW => (rput_range hl ii (by unfold npc at hout; omega) hi.2 s).mono ?_⟩
    · rintro e w' ⟨rfl, hx⟩
      exact ⟨_, rfl, Below.mono hx hBs, Kept.of_ext _ hx, h.body.ext hx, fun W' => num_err 1 W'⟩
    · rintro e w' ⟨rfl, hx⟩
      exact ⟨d, t, rfl, hx, PSt.step0 hb hx hrow hr h.ok h.ne, hdg⟩
end
/-- a piece of a text, or nothing -/
theorem piece_some (t : ByteArray) (i : Int) (hi : okZ i) (hl : t.size ≤ 65536) : ∃ s : ByteArray, s.size ≤ 300 ∧ ∀ W, Calls Try.prog 14 #[.string t, .int .i64 i] W fun e w' => e = .returned (.string s) ∧ Ext W w' := by
  by_cases hin : 0 ≤ i ∧ i * 256 < (t.size : Int)
  · obtain ⟨j, rfl⟩ : ∃ j : Nat, i = (j : Int) := ⟨i.toNat, by omega⟩
    exact ⟨pcS t j, by rw [pcS_size t j (by omega)]; unfold pto; omega, fun W => piece_any t j hl (by omega) W⟩
  · exact ⟨⟨#[]⟩, by decide, fun W => piece_out t i hl (by omega) hi.2 W⟩
end Go.Proofs.Ytfjpaacanoocmaa
