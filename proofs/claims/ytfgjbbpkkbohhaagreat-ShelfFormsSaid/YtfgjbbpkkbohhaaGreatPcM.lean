/- Chapter 20: held. -/
import Derived.Test.YtfgjbbpkkbohhaaGreatPcL
import Derived.Laws.BitsLemmas
namespace Go.Proofs.YtfgjbbpkkbohhaaGreat
open Go.RowKit Go.Deep Go.Sort

/-- the pieces that bits choose -/
def hD (t : ByteArray) (bits i : Nat) : Option ByteArray := if bits / 2 ^ (i % 8) % 2 = 1 then some (pcS t i) else none
def hK (t : ByteArray) (bits k i : Nat) : Option ByteArray := if i < k then hD t bits i else none
theorem bit_test (bits k : Nat) (h : bits < 256) : (Go.bits .and .u8 ((bits : Int) / 2 ^ (k % 8)) 1 == 1) = decide (bits / 2 ^ (k % 8) % 2 = 1) := by
  have e : ((bits : Int) / 2 ^ (k % 8)) = ((bits / 2 ^ (k % 8) : Nat) : Int) := by simp
  have hle : bits / 2 ^ (k % 8) < 256 := Nat.lt_of_le_of_lt (Nat.div_le_self _ _) h
  rw [e]
  generalize bits / 2 ^ (k % 8) = x at hle
  have := bits_mask .u8 8 (by decide) wraps_u8 1 (by decide) (x : Int) (by omega) (by omega)
  have h2 : Go.bits .and .u8 (x : Int) 1 = (x : Int) % 2 := this
  rw [h2]
  by_cases hx : x % 2 = 1
  · rw [decide_eq_true hx, beq_iff_eq]; omega
  · rw [decide_eq_false hx, beq_eq_false_iff_ne]; omega
theorem bytes_of_row {w : World} {g : Nat} {e : TypeId} {s : ByteArray} (h : RowB w g e (s.data.toList.map fun b => Value.int .u8 b.toNat)) : BytesAt w g s := by
  intro i hi
  have hi2 : i < s.data.toList.length := by simpa using hi
  refine h.cell ?_
  rw [List.getElem?_map, List.getElem?_eq_getElem hi2]
  have hi3 : i < (byteIs s).length := by rw [byteIs_length]; exact hi
  rw [List.getD_eq_getElem?_getD, List.getElem?_eq_getElem hi3]
  simp [byteIs]
theorem hK_hit {t : ByteArray} {bits k : Nat} (h : bits / 2 ^ (k % 8) % 2 = 1) : hK t bits (k + 1) = upd (hK t bits k) k (some (pcS t k)) := by
  funext j
  unfold upd hK
  by_cases e : j = k
  · subst e
    rw [if_pos rfl, if_pos (by omega)]
    unfold hD
    rw [if_pos h]
  · rw [if_neg e]
    by_cases e2 : j < k
    · rw [if_pos e2, if_pos (by omega)]
    · rw [if_neg e2, if_neg (by omega)]
theorem hK_miss {t : ByteArray} {bits k : Nat} (h : ¬ bits / 2 ^ (k % 8) % 2 = 1) : hK t bits (k + 1) = hK t bits k := by
  funext j
  unfold hK
  by_cases e : j = k
  · subst e
    rw [if_pos (by omega), if_neg (by omega)]
    unfold hD
    rw [if_neg h]
  · by_cases e2 : j < k
    · rw [if_pos e2, if_pos (by omega)]
    · rw [if_neg e2, if_neg (by omega)]
theorem BodyAt.more {w : World} {B B' b l len : Nat} {A : Nat → Prop} {tag : ByteArray} {D : Nat → Option ByteArray} (h : BodyAt w B A b l tag len D) (hb : B' ≤ B) : BodyAt w B' A b l tag len D := by
  obtain ⟨f, hf, hp⟩ := h.row
  refine ⟨Nat.le_trans hb h.hb, Nat.le_trans hb h.hl, h.ne, h.av, h.c0, h.c1, h.c2, f, hf, fun i hi => ?_⟩
  have := hp i hi
  cases hD : D i with
  | none => rw [hD] at this; exact this
  | some s =>
    rw [hD] at this
    obtain ⟨g, cap, h1, h2, h3, h4, h5, h6⟩ := this
    exact ⟨g, cap, h1, h2, ⟨by omega, h3.2⟩, h4, h5, h6⟩
end Go.Proofs.YtfgjbbpkkbohhaaGreat
