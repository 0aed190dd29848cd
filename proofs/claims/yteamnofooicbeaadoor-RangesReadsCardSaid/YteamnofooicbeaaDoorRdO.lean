/- Chapter 09: RangesReads: ReadMultipart accepts exactly what has the specified form, and returns its parts. -/
import Derived.Test.YteamnofooicbeaaDoorRdL
import Derived.Test.YteamnofooicbeaaDoorRdI
import Derived.Test.YteamnofooicbeaaDoorRgO
namespace Go.Proofs.YteamnofooicbeaaDoor
open Go.RowKit Go.Deep
set_option maxRecDepth 100000 in
set_option maxHeartbeats 4000000 in
theorem reads_law (b s0 : ByteArray) (w : World) (hb63 : b.data.toList.length ≤ reachBytes) (hs63 : s0.data.toList.length ≤ reachBytes) (hM : MaxL w) (hP : PowT w) :
    Calls Tryd.prog 7 #[.string b, .string s0] w fun e w' => e = .returned (.bool true) ∧ Ext w w' := by
  have HAW := Lib.hid (fun W (hW : Ext w W) => awake_any W (hM.ext hW))
  by_cases hs : b.size + s0.size ≤ 2000
  · have hs' : ¬ (2000 : Int) < (b.size : Int) + (s0.size : Int) := by omega
    have hw1 : wrap64 ((b.size : Int) + (s0.size : Int)) = (b.size : Int) + (s0.size : Int) := by unfold wrap64; omega
    have HM := Lib.hid hM
    have HP := Lib.hid hP
    have hbz : b.size ≤ 3000 := by omega
    have hsz : s0.size ≤ 3000 := by omega
    clear hs hM hP hb63 hs63
    go_enter Tryd.func7, Tryd.ntmps7
    go_upto_region 3 with (go_at_call 12; refine (HAW.out _ (Ext.refl w)).mono ?_; rintro e w1 ⟨rfl, hx1⟩)
    go_upto_region 4 with (first
      | (go_at_call 26; refine HRM.out.mono ?_; rintro e w3 ⟨v3, n3, ev3, rfl, H3, hx3⟩)
      | ((with_reducible show wpList _ _ _ _ _ _); refine wpList_bytes_of_string _ rfl 9 60 5 _ rfl Tryd.underlying9 Tryd.underlying60 Tryd.underlying5 s0 rfl ?_; intro w2 cap2 hx2 hr2 hc2; have HRM := Lib.hid (readm_any b s0 hbz (by omega) (show BytesV w2 0 (.slice (some ⟨w1.heap.size, 0, none⟩) s0.size cap2) s0 from ⟨_, _, rfl, Nat.zero_le _, hr2⟩) (HM.out.ext (hx1.trans hx2)) (HP.out.ext (hx1.trans hx2)))))
    go_upto_region 5 with (go_at_call 27; refine (rreadm_any b s0 hbz hsz _).mono ?_; rintro e w4 ⟨v4, n4, ev4, rfl, H4, hx4⟩)
    have HX := Lib.hid (((hx1.trans hx2).trans hx3).trans hx4)
    clear hx1 hx2 HRM HAW hw1 hs' hr2 hc2
    rcases H4.out with ⟨ps, ⟨hbd, hrd⟩, rfl, hp4, hpl⟩ | ⟨hno, rfl⟩
    · rcases H3.out with ⟨qs, ⟨-, hqd⟩, rfl, hp3, hql⟩ | ⟨hn3, -⟩
      · obtain ⟨rfl, rfl⟩ : ps = qs ∧ n4 = n3 := by
          rw [hrd] at hqd
          have := Option.some.inj hqd
          exact ⟨congrArg Prod.fst this, congrArg Prod.snd this⟩
        obtain ⟨ds, hdl, hp3', hdd⟩ := hp3.ext hx4
        have HD := Lib.hid hdd
        have hzl : ((ps.zip ds).map fun q => (q.1.1, q.1.2.1, q.2)).length = ps.length := by simp [hdl]
        obtain ⟨A3, c3', e3, hc3, hg3⟩ := hp3'.parts
        rw [hzl] at e3 hc3
        subst e3
        obtain ⟨A4, c4', e4, hc4, hg4⟩ := hp4.parts
        rw [rq_length] at e4 hc4
        subst e4
        have HG3 := Lib.hid hg3
        have HG4 := Lib.hid hg4
        have HDL := Lib.hid hdl
        obtain ⟨m, hm⟩ : ∃ m, ps.length = m := ⟨_, rfl⟩
        have HMM := Lib.hid hm
        rw [hm] at hc3 hc4 hpl ⊢
        clear hg3 hg4 hdl hm hdd hp3' hp4 hzl hrd hqd hbd hql H3 H4
        have hnn : (n4 != n4) = false := by simp
        have hmm : ((m : Int) != (m : Int)) = false := by simp
        go_wp2_with fail
        go_loopw [68] (fun i wr => ∃ k : Nat, k ≤ m ∧ i = .int .i64 k ∧ Ext w4 wr) (fun i _ => m - (intOf i).toNat)
        case atStart => exact ⟨0, by omega, rfl, Ext.refl _⟩
        case round =>
          obtain ⟨k, hk, rfl, hX⟩ := hrel
          by_cases hlt : k < m
          · have hki : (k : Int) < (m : Int) := by omega
            have hk6 : (k : Int) < 3001 := by omega
            have hkc3 : k < c3' := by omega
            have hkc4 : k < c4' := by omega
            obtain ⟨⟨f, t, z⟩, hp⟩ : ∃ r, ps[k]? = some r := ⟨_, List.getElem?_eq_getElem (by rw [HMM.out]; exact hlt)⟩
            obtain ⟨dv, hdv⟩ : ∃ r, ds[k]? = some r := ⟨_, List.getElem?_eq_getElem (by rw [HDL.out, HMM.out]; exact hlt)⟩
            have hz3 : ((ps.zip ds).map fun q => (q.1.1, q.1.2.1, q.2))[k]? = some (f, t, dv) := by
              rw [List.getElem?_map, show (ps.zip ds)[k]? = some ((f, t, z), dv) from List.getElem?_zip_eq_some.2 ⟨hp, hdv⟩]; rfl
            have hz4 : (rq ps)[k]? = some (f, t, .string z) := by unfold rq; rw [List.getElem?_map, hp]; rfl
            obtain ⟨g3, rfl, d0, d1, d2⟩ := HG3.out k _ hz3
            obtain ⟨g4, rfl, d3, d4, d5⟩ := HG4.out k _ hz4
            have hBV : BytesV w4 w2.heap.size dv z := HD.out k dv (f, t, z) hdv hp
            obtain ⟨gb, capb, rfl, -, hrb⟩ := hBV
            have e0 := hX.cell d0
            have e1 := hX.cell d1
            have e2 := hX.cell d2
            have HE := Lib.hid (And.intro (hX.cell d3) (And.intro (hX.cell d4) (hX.cell d5)))
            have HRB := Lib.hid (hrb.ext hX)
            clear d0 d1 d2 d3 d4 d5 hz3 hz4 hp hdv hrb
            simp only at e0 e1 e2
            go_upto_region 12 with fail
            obtain ⟨wX, hwX⟩ : ∃ x, x = wr.alloc (.cells #[.int .i64 f, .int .i64 t, .slice (some ⟨gb, 0, none⟩) z.size capb] 65) := ⟨_, rfl⟩
            have XX : Ext wr wX := by rw [hwX]; exact (Ext.refl wr).alloc _
            have hrow : RowB wX wr.heap.size 65 [.int .i64 f, .int .i64 t, .slice (some ⟨gb, 0, none⟩) z.size capb] := by rw [hwX]; exact row_laid wr 65 [.int .i64 f, .int .i64 t, .slice (some ⟨gb, 0, none⟩) z.size capb]
            rw [← hwX]
            clear hwX e0 e1 e2
            have p0 := fun q => ((Ext.refl wX).drewN q).cell (hrow.cell (j := 0) rfl)
            have p1 := fun q => ((Ext.refl wX).drewN q).cell (hrow.cell (j := 1) rfl)
            have p2 := fun q => ((Ext.refl wX).drewN q).cell (hrow.cell (j := 2) rfl)
            have q0 := fun q => (XX.drewN q).cell HE.out.1
            have q1 := fun q => (XX.drewN q).cell HE.out.2.1
            have q2 := fun q => (XX.drewN q).cell HE.out.2.2
            have hcv := fun q => BytesV.conv (w := wX.drewN q) (B := 0) ⟨gb, capb, rfl, Nat.zero_le _, HRB.out.ext (XX.drewN q)⟩
            have hff : (f != f) = false := by simp
            have htt : (t != t) = false := by simp
            have hzz : (z.toList == z.toList) = true := by simp
            have HXX := Lib.hid XX
            clear XX hrow
            simp only at p0 p1 p2 q0 q1 q2
            refine wp_region_quiet_lit (by kernel_rfl) (by kernel_rfl) ?_
            repeat (go_big_quiet_step (fail))
            refine wpQuiet_nil ?_
            rintro _ ⟨nq, rfl⟩
            go_wp2_with fail
            go_roundw
            case rel => exact ⟨k + 1, by omega, by go_num, (hX.trans HXX.out).drewN _⟩
            case measure => simp [intOf]; omega
          · obtain rfl : k = m := by omega
            go_wp2_with fail
            go_ret
            exact ⟨rfl, HX.out.trans hX⟩
      · exact absurd (hn3 hbd) (by rw [hrd]; simp)
    · rcases H3.out with ⟨qs, ⟨hbd, hqd⟩, -, -, -⟩ | ⟨-, rfl, rfl, rfl⟩
      · exact absurd (hno hbd) (by rw [hqd]; simp)
      · clear H3 H4 hno hx3 hx4
        go_wp2_with (go_at_call 18; refine (is_err 2 _ (by decide)).mono ?_; rintro e w5 ⟨rfl, rfl⟩)
        go_ret
        exact ⟨rfl, HX.out⟩
  · have hr := reachBytes_lt
    have hs' : (2000 : Int) < (b.size : Int) + (s0.size : Int) := by omega
    have hw1 : wrap64 ((b.size : Int) + (s0.size : Int)) = (b.size : Int) + (s0.size : Int) := by
      rw [← Lib.size_eq] at hb63 hs63
      unfold wrap64
      omega
    clear hM hP hb63 hs63 hr
    go_enter Tryd.func7, Tryd.ntmps7
    go_upto_region 2 with (go_at_call 12; refine (HAW.out _ (Ext.refl w)).mono ?_; rintro e w1 ⟨rfl, hx1⟩)
    go_wp2_with (go_at_call 12; refine (HAW.out _ hx1).mono ?_; rintro e w2 ⟨rfl, hx2⟩)
    go_ret
    exact ⟨rfl, hx1.trans hx2⟩
end Go.Proofs.YteamnofooicbeaaDoor
