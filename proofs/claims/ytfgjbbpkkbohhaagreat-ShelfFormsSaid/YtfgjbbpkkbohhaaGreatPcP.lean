/- Chapter 20: the bytes of texts and of their pieces. -/
import Derived.Test.YtfgjbbpkkbohhaaGreatPcO
namespace Go.Proofs.YtfgjbbpkkbohhaaGreat
open Go.RowKit Go.Deep Go.Sort

theorem txB_range (salt j : Nat) : 0 ≤ txB salt j ∧ txB salt j < 256 := by
  have h : ∀ n : Int, 0 ≤ IntKind.u8.wrap n ∧ IntKind.u8.wrap n < 256 := fun n => by rw [IntKind.wrap_u8]; omega
  unfold txB bits
  exact h _
theorem txS_size (n salt : Nat) : (txS n salt).size = n := by
  unfold txS strOfNums
  show (List.map _ _).toArray.size = n
  simp
theorem txS_bytes (n salt : Nat) : byteIs (txS n salt) = (List.range n).map (txB salt) := by
  unfold byteIs txS strOfNums
  show List.map _ ((List.map _ _).toArray.toList) = _
  rw [List.map_map, List.map_map]
  apply List.map_congr_left
  intro j _
  have := txB_range salt j
  simp only [Function.comp]
  rw [UInt8.toNat_ofNat']
  omega
theorem byteIs_getD {s : ByteArray} {j : Nat} (h : j < s.size) : (byteIs s).getD j 0 = ((s[j]'h).toNat : Int) := by
  rw [List.getD_eq_getElem?_getD, List.getElem?_eq_getElem (by rw [byteIs_length]; exact h)]
  simp [byteIs]
  rfl
theorem pcS_byte (t : ByteArray) (j : Nat) (h : j < t.size) : (byteIs (pcS t (j / 256))).getD (j % 256) 0 = (byteIs t).getD j 0 := by
  have hs : j % 256 < (pcS t (j / 256)).size := by rw [pcS_size t _ (by omega)]; unfold pto; omega
  rw [byteIs_getD hs, byteIs_getD h]
  have e : (pcS t (j / 256))[j % 256]'hs = t[j / 256 * 256 + j % 256]'(by omega) := ByteArray.getElem_extract (h := hs)
  have e2 : t[j / 256 * 256 + j % 256]'(by omega) = t[j]'h := getElem_congr rfl (by omega) _
  rw [e, e2]
theorem tx_ne (j : Nat) : txB 9 j ≠ txB 10 j := by
  have h : ∀ x : Nat, x < 256 → bits .xor .u8 (x : Int) 9 ≠ bits .xor .u8 (x : Int) 10 := by decide +kernel
  unfold txB
  have := h ((((j : Int) * 7 + (j : Int) / 256) % 256).toNat) (by omega)
  have e : (((((j : Int) * 7 + (j : Int) / 256) % 256).toNat : Nat) : Int) = ((j : Int) * 7 + (j : Int) / 256) % 256 := by omega
  rw [e] at this
  exact this
end Go.Proofs.YtfgjbbpkkbohhaaGreat
