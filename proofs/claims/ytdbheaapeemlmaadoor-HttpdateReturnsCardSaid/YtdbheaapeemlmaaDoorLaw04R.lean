/- The law HttpdateReturns, walked. -/
import Derived.Test.YtdbheaapeemlmaaDoorLaw04
import Derived.Test.YtdbheaapeemlmaaDoorRow
namespace Go.Proofs.YtdbheaapeemlmaaDoor
open Go.RowKit

/-- the bytes of a string as numbers -/
def numsOf (s : ByteArray) : List Int := s.data.toList.map fun b => (b.toNat : Int)
theorem numsOf_cells (s : ByteArray) : (s.data.toList.map fun b => Value.int .u8 b.toNat) = (numsOf s).map (Value.int .u8) := by unfold numsOf; rw [List.map_map]; rfl
theorem numsOf_length (s : ByteArray) : (numsOf s).length = s.size := by unfold numsOf; rw [List.length_map]; rfl
/-- another byte at i: another string -/
theorem strOfNums_set_ne (s : ByteArray) (i : Nat) (t : Int) (hi : i < s.size) (h0 : 0 ≤ t) (h1 : t ≤ 255) (hne : (numsOf s)[i]'(by rw [numsOf_length]; exact hi) ≠ t) : strOfNums ((numsOf s).set i t) ≠ s := by
  intro h
  have h2 : ((numsOf s).set i t).map (fun n => UInt8.ofNat n.toNat) = s.data.toList := by
    have := congrArg (fun b : ByteArray => b.data.toList) h
    rwa [strOfNums_data] at this
  have h3 := congrArg (fun l => l[i]?) h2
  have hl : i < (numsOf s).length := by rw [numsOf_length]; exact hi
  simp only [List.getElem?_map, List.getElem?_set_self hl, Option.map_some] at h3
  have hdl : i < s.data.toList.length := by rw [Array.length_toList]; exact hi
  have hd : s.data.toList[i]? = some (s.data.toList[i]'hdl) := List.getElem?_eq_getElem hdl
  rw [hd] at h3
  have h4 := Option.some.inj h3
  apply hne
  have h5 : (numsOf s)[i]'hl = ((s.data.toList[i]'hdl).toNat : Int) := List.getElem_map _
  rw [h5, ← h4, UInt8.toNat_ofNat']
  have : t.toNat < 256 := by omega
  omega

set_option maxHeartbeats 2000000 in
theorem returns_law (n p t : Int) (w : World) (hL : Laid w) (p0 : 0 ≤ p) (p1 : p ≤ 255) (t0 : 0 ≤ t) (t1 : t ≤ 255) :
    Calls Tryd.prog 9 #[.int .i64 n, .int .u8 p, .int .u8 t] w fun e w' => e = .returned (.bool true) ∧ Ext w w' := by
  go_enter Tryd.func9, Tryd.ntmps9
  go_wp2_with fail
  refine (awake_any w hL).mono ?_
  rintro e w1 ⟨rfl, hx⟩
  go_wp2_with fail
  refine (clip_any _ _ _ _).mono ?_
  rintro e w1 ⟨rfl, rfl⟩
  obtain ⟨k, hk⟩ : ∃ k, k = max 0 (min n 253402300799) := ⟨_, rfl⟩
  have k0 : 0 ≤ k := by omega
  have k1 : k ≤ 253402300799 := by omega
  rw [← hk]
  clear hk
  go_wp2_with fail
  refine (format_q k _ (hL.ext hx) k0 k1).mono ?_
  rintro e w2 ⟨F, hT, hS, rfl, hx2⟩
  replace hx := hx.trans hx2
  clear hx2
  go_wp2_with fail
  refine (parse_any F _ (hL.ext hx)).mono ?_
  rintro e w3 ⟨hx3, hp⟩
  rcases hp with ⟨k', ht, rfl⟩ | ⟨hno, rfl⟩
  case inr => exact absurd hT (hno k)
  obtain rfl := hT.inj ht
  clear ht
  replace hx := hx.trans hx3
  clear hx3
  have hi : (p % 29).toNat < (numsOf F).length := by rw [numsOf_length, hS]; omega
  obtain ⟨b, hb⟩ : ∃ b, (numsOf F)[(p % 29).toNat]'hi = b := ⟨_, rfl⟩
  have hb2 : ((numsOf F).map (Value.int .u8))[(p % 29).toNat]? = some (.int .u8 b) := by rw [List.getElem?_map, List.getElem?_eq_getElem hi, hb]; rfl
  have hi2 : (p % 29).toNat < ((numsOf F).map (Value.int .u8)).length := by rw [List.length_map]; exact hi
  have hset := List.map_set (f := Value.int .u8) (l := numsOf F) (i := (p % 29).toNat) (a := t)
  have HB := Lib.hid hb
  have HB2 := Lib.hid hb2
  have HSET := Lib.hid hset
  have HC := Lib.hid (numsOf_cells F)
  have HLEN : Hid (((numsOf F).set (p % 29).toNat t).length = 29) := Lib.hid (by rw [List.length_set, numsOf_length, hS])
  clear hb hb2 hset
  by_cases hbt : b = t
  · have hbt2 : (b == t) = true := by rw [beq_iff_eq]; exact hbt
    clear hbt
    go_wp2_with ((with_reducible show wpList _ _ _ _ _ _); refine wpList_bytes_of_string _ (o := ⟨some 46, Op.convert 9 45 (Operand.tmp 45), _, _, _, _⟩) rfl 9 45 5 _ rfl Tryd.underlying9 Tryd.underlying45 Tryd.underlying5 F rfl ?_; intro w4 cap hx4 hrow hcap; rw [HC.out] at hrow; have hcell := hrow.cell HB2.out)
    go_ret
    exact ⟨rfl, hx.trans hx4⟩
  · have hbt2 : (b == t) = false := by rw [beq_eq_false_iff_ne]; exact hbt
    have hne := strOfNums_set_ne F (p % 29).toNat t (by rw [← numsOf_length]; exact hi) t0 t1 (by rw [HB.out]; exact hbt)
    clear hbt
    go_wp2_with ((with_reducible show wpList _ _ _ _ _ _); refine wpList_bytes_of_string _ (o := ⟨some 46, Op.convert 9 45 (Operand.tmp 45), _, _, _, _⟩) rfl 9 45 5 _ rfl Tryd.underlying9 Tryd.underlying45 Tryd.underlying5 F rfl ?_; intro w4 cap hx4 hrow hcap; rw [HC.out] at hrow; have hcell := hrow.cell HB2.out; have hfz := hrow.frozen hi2; have hrow2 := hrow.set (p % 29).toNat (.int .u8 t) hi2; rw [← HSET.out] at hrow2; have hcv := hrow2.toString (P := Tryd.prog) (src := 45) (dst := 9) Tryd.underlying45 Tryd.underlying5 Tryd.underlying9 cap; rw [HLEN.out] at hcv)
    have hX : Ext w (w4.setCell ⟨w3.heap.size, (p % 29).toNat, none⟩ (.int .u8 t)) := (hx.trans hx4).setCell hx.size _
    refine (parse_any _ _ (hL.ext hX)).mono ?_
    rintro e w5 ⟨hx5, hp⟩
    rcases hp with ⟨k', ht, rfl⟩ | ⟨hno, rfl⟩
    · have hkk : k' ≠ k := fun e => by subst e; exact hne (ht.uniq hT)
      have hkk2 : (k' != k) = true := by rw [bne_iff_ne]; exact hkk
      go_wp2_with (go_at_call 12; refine (is_nil 2 _ (by omega)).mono ?_; rintro e w' ⟨rfl, rfl⟩)
      go_ret
      exact ⟨rfl, hX.trans hx5⟩
    · clear hno
      go_wp2_with (go_at_call 12; refine (is_err 2 _ (by omega)).mono ?_; rintro e w' ⟨rfl, rfl⟩)
      go_ret
      exact ⟨rfl, hX.trans hx5⟩
end Go.Proofs.YtdbheaapeemlmaaDoor
