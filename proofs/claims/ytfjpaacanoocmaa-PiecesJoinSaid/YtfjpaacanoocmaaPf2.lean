/- Chapter 20: the reference's Read. -/
import Derived.Test.YtfjpaacanoocmaaPe6
namespace Go.Proofs.Ytfjpaacanoocmaa
open Go.RowKit Go.Deep Go.Sort
theorem sn_append (a b : List Int) : strOfNums (a ++ b) = strOfNums a ++ strOfNums b := by
  apply ByteArray.ext
  rw [ByteArray.data_append]
  unfold strOfNums
  simp
theorem sn_byte (s : ByteArray) (j : Nat) (h : j < s.size) : s.extract j (j + 1) = strOfNums [(byteIs s).getD j 0] := by
  apply ByteArray.ext
  apply Array.toList_inj.1
  rw [ByteArray.data_extract, Array.toList_extract, List.extract_eq_take_drop, strOfNums_data]
  have hl : j < s.data.toList.length := by simpa using h
  have e : (byteIs s).getD j 0 = (((s.data.toList[j]'hl).toNat : Nat) : Int) := by
    rw [List.getD_eq_getElem?_getD, List.getElem?_eq_getElem (by rw [byteIs_length]; exact h)]
    simp [byteIs]
  rw [e, show j + 1 - j = 1 by omega, List.drop_eq_getElem_cons hl]
  simp
theorem rdL_next {D : Nat → Option ByteArray} {f k : Nat} {s : ByteArray} (hf : f ≤ k) (hD : D (k / 256) = some s) (h : k % 256 < s.size) : strOfNums (rdL D f (k + 1)) = strOfNums (rdL D f k) ++ s.extract (k % 256) (k % 256 + 1) := by
  rw [sn_byte s _ h, ← sn_append]
  congr 1
  unfold rdL
  rw [show k + 1 - f = (k - f) + 1 by omega, List.range'_concat, List.map_append]
  rw [show f + 1 * (k - f) = k by omega]
  simp [hD]
set_option maxRecDepth 100000 in
set_option maxHeartbeats 4000000 in
theorem rread_bad {w : World} {d tt len : Nat} {tag : ByteArray} (F T : Int) (hb : F < 0 ∨ T < F ∨ (len : Int) < T) :
    Calls Try.prog 29 #[refV tag len d tt, rngV F T] w fun e w' => e = .returned (.tuple #[.string ⟨#[]⟩, .int .i64 1]) ∧ Ext w w' := by
  have X0 : Ext w ((w.alloc (.cells #[.string tag, .int .i64 len, .slice (some ⟨d, 0, none⟩) (npc len) (npc len), .slice (some ⟨tt, 0, none⟩) (npc len) (npc len)] 29)).alloc (.cells #[.int .i64 F, .int .i64 T] 67)) := ((Ext.refl w).alloc _).alloc _
  go_enter Try.func29, Try.ntmps29
  by_cases h1 : F < 0
  · have q1 : decide (F < 0) = true := by simp [h1]
    clear hb
    go_wp2_with fail
    go_returns
    exact ⟨rfl, X0⟩
  · have q1 : decide (F < 0) = false := by simp; omega
    by_cases h2 : T < F
    · have q2 : decide (T < F) = true := by simp [h2]
      clear hb
      go_wp2_with fail
      go_returns
      exact ⟨rfl, X0⟩
    · have q2 : decide (T < F) = false := by simp; omega
      have h3 : (len : Int) < T := by omega
      have q3 : decide ((len : Int) < T) = true := by simp; omega
      clear hb
      go_wp2_with fail
      go_returns
      exact ⟨rfl, X0⟩
set_option maxRecDepth 100000 in
set_option maxHeartbeats 4000000 in
theorem rread_in {w : World} {d tt len : Nat} {tag : ByteArray} {D : Nat → Option ByteArray} (h : RefAt w d tt len D) (hok : PcOk len D) (f t : Nat) (hl : len ≤ 65536) (hft : f ≤ t) (htl : t ≤ len) :
    Calls Try.prog 29 #[refV tag len d tt, rngV f t] w fun e w' => e = .returned (.tuple #[.string (if gaps D (pcs f t) = [] then strOfNums (rdL D f t) else ⟨#[]⟩), .int .i64 (if gaps D (pcs f t) = [] then 0 else 3)]) ∧ Ext w w' := by
  obtain ⟨w0, hw0⟩ : ∃ w0, w0 = (w.alloc (.cells #[.string tag, .int .i64 len, .slice (some ⟨d, 0, none⟩) (npc len) (npc len), .slice (some ⟨tt, 0, none⟩) (npc len) (npc len)] 29)).alloc (.cells #[.int .i64 f, .int .i64 t] 67) := ⟨_, rfl⟩
  have X0 : Ext w w0 := by rw [hw0]; exact ((Ext.refl w).alloc _).alloc _
  have HR0 := Lib.hid (show RowB w0 w.heap.size 29 [.string tag, .int .i64 len, .slice (some ⟨d, 0, none⟩) (npc len) (npc len), .slice (some ⟨tt, 0, none⟩) (npc len) (npc len)] by rw [hw0]; exact (RowB.laid w _ _).ext ((Ext.refl _).alloc _))
  have HR1 := Lib.hid (show RowB w0 (w.heap.size + 1) 67 [.int .i64 f, .int .i64 t] by rw [hw0]; simpa using RowB.laid (w.alloc _) 67 [.int .i64 f, .int .i64 t])
  have HM := Lib.hid (fun W (hW : Ext w W) => rmissing_any (tag := tag) (h.ext hW) f t f t hl (by omega) (by omega))
  have q1 : decide ((f : Int) < 0) = false := by simp
  have q2 : decide (t < f) = false := by simp; omega
  have q3 : decide (len < t) = false := by simp; omega
  have r0 := HR1.out.cell (j := 0) rfl
  have r1 := HR1.out.cell (j := 1) rfl
  have b0 := HR0.out.cell (j := 0) rfl
  have b1 := HR0.out.cell (j := 1) rfl
  have b2 := HR0.out.cell (j := 2) rfl
  have b3 := HR0.out.cell (j := 3) rfl
  have HA := Lib.hid h
  clear h
  by_cases hg : gaps D (pcs f t) = []
  · have HG := Lib.hid hg
    rw [if_pos hg, if_pos hg]
    have HL := Lib.hid (show (gaps D (pcs f t)).length = 0 by rw [hg]; rfl)
    clear hg
    go_enter Try.func29, Try.ntmps29
    go_upto_region 1 with fail
    rw [← hw0]
    clear hw0
    go_upto_region 5 with (go_at_call 30; refine (HM.out _ X0).mono ?_; rintro e w1 ⟨v1, rfl, hx, ho⟩; obtain ⟨A1, cap1, rfl, -, -⟩ := ho.shape; rw [HL.out])
    have X1 := X0.trans hx
    clear b0 b1 b2 b3 r0 r1 ho q1 q2 q3
    have r0 := (HR1.out.ext hx).cell (j := 0) rfl
    go_wp2_with fail
    clear r0
    go_loopw [6, 7] (fun v i wr => ∃ k : Nat, f ≤ k ∧ k ≤ t ∧ i = .int .i64 k ∧ v = .string (strOfNums (rdL D f k)) ∧ Ext w1 wr) (fun _ i _ => t - (intOf i).toNat)
    case atStart => exact ⟨f, by omega, hft, rfl, by unfold rdL; rw [Nat.sub_self]; rfl, Ext.refl _⟩
    case round =>
      obtain ⟨k, hfk, hkt, rfl, rfl, hX⟩ := hrel
      have r1 := (HR1.out.ext (hx.trans hX)).cell (j := 1) rfl
      by_cases hlt : k < t
      · have hki : (k : Int) < (t : Int) := by omega
        obtain ⟨s, hs⟩ := gaps_nil HG.out (pcs_in hfk hlt)
        obtain ⟨q, hq⟩ : ∃ q, q = k / 256 := ⟨_, rfl⟩
        obtain ⟨m, hm⟩ : ∃ m, m = k % 256 := ⟨_, rfl⟩
        have hqn : q < npc len := by unfold npc; omega
        have hss := hok q hqn s (by rw [hq]; exact hs)
        have hms : m < s.size := by unfold pto at hss; omega
        have HNX := Lib.hid (rdL_next (D := D) hfk hs (by rw [← hm]; exact hms))
        rw [← hm] at HNX
        have b2 := (HR0.out.ext (hx.trans hX)).cell (j := 2) rfl
        have hc := (HA.out.ext (X1.trans hX)).data.cell hqn
        rw [hq, hs, ← hq] at hc
        simp only [Option.getD_some] at hc
        have E1 : (k : Int) / 256 = (q : Int) := by omega
        have E2 : (k : Int) % 256 = (m : Int) := by omega
        have hs6 : s.size ≤ 256 := by unfold pto at hss; omega
        have hm6 : m < 256 := by omega
        have hk6 : k ≤ 65536 := by omega
        obtain ⟨o, ho⟩ : ∃ o, o = strOfNums (rdL D f k) := ⟨_, rfl⟩
        have hos : o.size ≤ 65536 := by rw [ho, strOfNums_size, rdL_length]; omega
        obtain ⟨x, hx1⟩ : ∃ x, s.extract m (m + 1) = x := ⟨_, rfl⟩
        have hxs : x.size = 1 := by rw [← hx1, ByteArray.size_extract]; omega
        rw [hx1, ← ho] at HNX
        rw [← ho]
        have hqn2 : npc len ≤ 256 := by unfold npc; omega
        clear hq hm hs hss ho
        go_wp2_with fail
        exact ⟨⟨k + 1, by omega, hlt, by simp, by rw [HNX.out], hX⟩, by simp [intOf]; omega⟩
      · obtain rfl : k = t := by omega
        go_wp2_with fail
        go_returns
        exact ⟨rfl, X1.trans hX⟩
  · have HL := Lib.hid (show 0 < (gaps D (pcs f t)).length from List.length_pos_iff.2 hg)
    rw [if_neg hg, if_neg hg]
    clear hg
    obtain ⟨n, hn⟩ : ∃ n, (gaps D (pcs f t)).length = n := ⟨_, rfl⟩
    rw [hn] at HL
    have hpos := HL.out
    have HN := Lib.hid hn
    clear hn
    go_enter Try.func29, Try.ntmps29
    go_upto_region 1 with fail
    rw [← hw0]
    clear hw0
    go_wp2_with (go_at_call 30; refine (HM.out _ X0).mono ?_; rintro e w1 ⟨v1, rfl, hx, ho⟩; obtain ⟨A1, cap1, rfl, -, -⟩ := ho.shape; rw [HN.out])
    go_returns
    exact ⟨rfl, X0.trans hx⟩
end Go.Proofs.Ytfjpaacanoocmaa
