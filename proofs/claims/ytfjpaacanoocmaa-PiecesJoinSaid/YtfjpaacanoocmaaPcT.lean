/- Chapter 20: plain facts for PiecesParts. -/
import Derived.Test.YtfjpaacanoocmaaPcS
namespace Go.Proofs.Ytfjpaacanoocmaa
open Go.RowKit Go.Deep Go.Sort

/-- a body of parts of one text -/
def pJ (t : ByteArray) (a b : Nat) (i : Nat) : Option ByteArray := jn (hD t a) (hD t b) i
theorem pJ_at (t : ByteArray) (a b i : Nat) : pJ t a b i = if (a ||| b) / 2 ^ (i % 8) % 2 = 1 then some (pcS t i) else none := by
  have h : ∀ x : Nat, (x / 2 ^ (i % 8) % 2 = 1) ↔ x.testBit (i % 8) = true := fun x => by rw [Nat.testBit_eq_decide_div_mod_eq]; simp
  unfold pJ jn hD
  simp only [h, Nat.testBit_or]
  cases a.testBit (i % 8) <;> cases b.testBit (i % 8) <;> rfl
theorem pJ_comm (t : ByteArray) (a b : Nat) : jn (hD t b) (hD t a) = pJ t a b := by
  funext i
  have h1 : jn (hD t b) (hD t a) i = pJ t b a i := rfl
  rw [h1, pJ_at, pJ_at, Nat.or_comm]
theorem pJ_some {t : ByteArray} {a b i : Nat} {s : ByteArray} (h : pJ t a b i = some s) : s = pcS t i := by
  rw [pJ_at] at h
  split at h
  · exact (Option.some.inj h).symm
  · cases h
theorem pJ_ok {t : ByteArray} {a b m : Nat} (hts : t.size = m) : PcOk m (pJ t a b) := by
  intro i hi s hs
  rw [pJ_some hs, pcS_size t i (by unfold npc at hi; omega), hts]
theorem hD_ok {t : ByteArray} {a m : Nat} (hts : t.size = m) : PcOk m (hD t a) := by
  intro i hi s hs
  unfold hD at hs
  split at hs
  · rw [← Option.some.inj hs, pcS_size t i (by unfold npc at hi; omega), hts]
  · cases hs
theorem hD_fit (t : ByteArray) (a b i : Nat) (s s' : ByteArray) (h : hD t a i = some s) (h' : hD t b i = some s') : s = s' := by
  unfold hD at h h'
  split at h
  · split at h'
    · rw [← Option.some.inj h, ← Option.some.inj h']
    · cases h'
  · cases h
theorem or_u8 (a b : Nat) (ha : a < 256) (hb : b < 256) : Go.bits .or .u8 (a : Int) (b : Int) = ((a ||| b : Nat) : Int) := by
  have hlt : a ||| b < 2 ^ 8 := Nat.or_lt_two_pow (by omega) (by omega)
  show IntKind.u8.wrap (((BitVec.ofInt 8 (a : Int) ||| BitVec.ofInt 8 (b : Int)).toNat : Nat) : Int) = _
  rw [BitVec.toNat_or, BitVec.toNat_ofInt, BitVec.toNat_ofInt, IntKind.wrap_u8]
  have e1 : ((a : Int) % ((2 ^ 8 : Nat) : Int)).toNat = a := by omega
  have e2 : ((b : Int) % ((2 ^ 8 : Nat) : Int)).toNat = b := by omega
  rw [e1, e2]
  omega
/-- what can be read is the text -/
theorem rd_text {t : ByteArray} {a b f u : Nat} (hg : gaps (pJ t a b) (pcs f u) = []) (hu : u ≤ t.size) (hf : f ≤ u) : strOfNums (rdL (pJ t a b) f u) = t.extract f u := by
  have hb : byteIs (t.extract f u) = rdL (pJ t a b) f u := by
    apply List.ext_getElem
    · rw [byteIs_length, rdL_length, ByteArray.size_extract]; omega
    · intro j h1 h2
      rw [rdL_length] at h2
      have hs : j < (t.extract f u).size := by rw [ByteArray.size_extract]; omega
      obtain ⟨s, hs2⟩ := gaps_nil hg (pcs_in (k := f + j) (by omega) (by omega))
      have hsv := pJ_some hs2
      have e1 : (rdL (pJ t a b) f u)[j]'(by rw [rdL_length]; exact h2) = (byteIs s).getD ((f + j) % 256) 0 := by
        unfold rdL
        simp only [List.getElem_map, List.getElem_range', Nat.one_mul]
        rw [hs2, Option.getD_some]
      rw [e1, hsv, pcS_byte t (f + j) (by omega), byteIs_getD (by omega : f + j < t.size)]
      have e2 : (t.extract f u)[j]'hs = t[f + j]'(by omega) := ByteArray.getElem_extract (h := hs)
      have e3 := byteIs_getD hs
      rw [List.getD_eq_getElem?_getD, List.getElem?_eq_getElem h1, e2] at e3
      exact e3
  rw [← hb, strOf_byteIs]
theorem whole_gaps {D : Nat → Option ByteArray} {f u m : Nat} (hu : u ≤ m) (hg : gaps D (pcs f u) ≠ []) : decide (∀ i, i < npc m → (D i).isSome = true) = false := by
  rw [decide_eq_false_iff_not]
  intro h
  apply hg
  unfold gaps
  rw [List.filter_eq_nil_iff]
  intro i hi
  rw [h i (pcs_mem hu hi)]
  simp
end Go.Proofs.Ytfjpaacanoocmaa
