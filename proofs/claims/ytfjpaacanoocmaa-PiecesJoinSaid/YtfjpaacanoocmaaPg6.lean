/- Chapter 20: both Joins. -/
import Derived.Test.YtfjpaacanoocmaaPg1
import Derived.Test.YtfjpaacanoocmaaPg3
namespace Go.Proofs.Ytfjpaacanoocmaa
open Go.RowKit Go.Deep Go.Sort
theorem joins_both {w : World} {BA BB ba la bb lb d1 s1 d2 s2 m1 m2 lenA lenB : Nat} {T0 T1 : ByteArray} {D E : Nat → Option ByteArray} (hA : BodyAt w BA (fun _ => False) ba la T0 lenA D) (hB : BodyAt w BB (fun q => q = la) bb lb T1 lenB E) (hok : PcOk lenA D) (hokE : PcOk lenB E) (hl : lenA ≤ 65536)
    (r1 : RefAt w d1 s1 lenA D) (r2 : RefAt w d2 s2 lenB E) (k1 : RowB w m1 29 (refL T0 lenA d1 s1)) (k2 : RowB w m2 29 (refL T1 lenB d2 s2)) (ne : d1 ≠ la ∧ s1 ≠ la ∧ m1 ≠ la ∧ d2 ≠ la ∧ s2 ≠ la ∧ m2 ≠ la) :
    ∃ (q : Int) (DA : Nat → Option ByteArray), PcOk lenA DA ∧
      (Calls Try.prog 19 #[.pointer (some ⟨ba, 0, none⟩), .pointer (some ⟨bb, 0, none⟩)] w fun e w' => ∃ ev, e = .returned ev ∧ (∀ W', Calls Try.prog 20 #[ev] W' fun e w'' => e = .returned (.int .i64 q) ∧ W' = w'') ∧ Below BA w w' ∧
        BodyAt w' BA (fun _ => False) ba la T0 lenA DA ∧ BodyAt w' BB (fun q => q = la) bb lb T1 lenB E ∧ RefAt w' d1 s1 lenA D ∧ RefAt w' d2 s2 lenB E ∧ RowB w' m1 29 (refL T0 lenA d1 s1) ∧ RowB w' m2 29 (refL T1 lenB d2 s2)) ∧
      (∀ W, RefAt W d1 s1 lenA D → RefAt W d2 s2 lenB E → Calls Try.prog 34 #[refV T0 lenA d1 s1, refV T1 lenB d2 s2] W fun e w' => ∃ d3 s3, e = .returned (.tuple #[refV T0 lenA d3 s3, .int .i64 q]) ∧ Ext W w' ∧ RefAt w' d3 s3 lenA DA) := by
  have hBs : BA ≤ w.heap.size := by
    obtain ⟨f, hf, _⟩ := hA.row
    have h1 := hf.lt
    have h2 := hA.hl
    omega
  by_cases hq : (T0.toList == T1.toList) = false ∨ T0 = ⟨#[]⟩ ∨ lenA ≠ lenB
  · refine ⟨20, D, hok, (join_head hA hB hq).mono ?_, fun W h1 _ => (rjoin_head hq).mono ?_⟩
    · rintro e w' ⟨rfl, hx⟩
      exact ⟨_, rfl, fun W' => num_err 20 W', Below.mono hx hBs, hA.ext hx, hB.ext hx, r1.ext hx, r2.ext hx, k1.ext hx, k2.ext hx⟩
    · rintro e w' ⟨rfl, hx⟩
      exact ⟨d1, s1, rfl, hx, h1.ext hx⟩
  · have h1 : T0 = T1 := by
      cases h : (T0.toList == T1.toList) with
      | true => exact ba_eq h
      | false => exact absurd (.inl h) hq
    have h2 : lenA = lenB := by
      by_cases h : lenA = lenB
      · exact h
      · exact absurd (.inr (.inr h)) hq
    have h3 : ¬ T0 = ⟨#[]⟩ := fun h => hq (.inr (.inl h))
    subst h1 h2
    have q1 : (T0.toList == []) = false := by
      rw [beq_eq_false_iff_ne]
      intro e
      rw [ByteArray.toList_eq] at e
      exact h3 (ByteArray.ext (Array.toList_inj.1 e))
    by_cases hm : ∃ i s s', i < npc lenA ∧ D i = some s ∧ E i = some s' ∧ s ≠ s'
    · refine ⟨20, D, hok, (join_mixed hA hB hl q1 hm).mono ?_, fun W g1 g2 => (rjoin_any g1 g2 hl q1 hokE).mono ?_⟩
      · rintro e w' ⟨rfl, hx⟩
        exact ⟨_, rfl, fun W' => num_err 20 W', Below.mono hx hBs, hA.ext hx, hB.ext hx, r1.ext hx, r2.ext hx, k1.ext hx, k2.ext hx⟩
      · rintro e w' ⟨hx, ⟨rfl, -⟩ | ⟨d3, s3, -, -, hfit⟩⟩
        · exact ⟨d1, s1, rfl, hx, g1.ext hx⟩
        · obtain ⟨i, s, s', hi, a1, a2, a3⟩ := hm
          exact absurd (hfit i hi s s' a1 a2) a3
    · have hfit : ∀ i, i < npc lenA → ∀ s s', D i = some s → E i = some s' → s = s' := fun i hi s s' a1 a2 => by
        by_cases e : s = s'
        · exact e
        · exact absurd ⟨i, s, s', hi, a1, a2, e⟩ hm
      have hokJ : PcOk lenA (jn D E) := by
        intro i hi s hs
        unfold jn at hs
        cases hE : E i with
        | none => rw [hE] at hs; exact hok i hi s hs
        | some s' =>
          rw [hE] at hs
          obtain rfl := Option.some.inj hs
          exact hokE i hi _ hE
      refine ⟨0, jn D E, hokJ, (join_ok hA hB (fun _ h => h.elim) rfl hl q1 hokE hfit).mono ?_, fun W g1 g2 => (rjoin_any g1 g2 hl q1 hokE).mono ?_⟩
      · rintro e w' ⟨rfl, hbl, hk, hA', hB'⟩
        exact ⟨_, rfl, fun W' => num_nil W', hbl, hA', hB', r1.of_blocks (hk.2 _ r1.data.lt ne.1) (hk.2 _ r1.there.lt ne.2.1), r2.of_blocks (hk.2 _ r2.data.lt ne.2.2.2.1) (hk.2 _ r2.there.lt ne.2.2.2.2.1), k1.kept (hk.2 _ k1.lt ne.2.2.1), k2.kept (hk.2 _ k2.lt ne.2.2.2.2.2)⟩
      · rintro e w' ⟨hx, ⟨rfl, hm'⟩ | ⟨d3, s3, rfl, hr, -⟩⟩
        · exact absurd hm' hm
        · exact ⟨d3, s3, rfl, hx, hr⟩
end Go.Proofs.Ytfjpaacanoocmaa
