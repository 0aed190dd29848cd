/- Chapter 52: the law Order. -/
import Derived.Test.YtjdbhemojopnlaaMgS2
namespace Go.Proofs.Ytjdbhemojopnlaa
open Go.RowKit Go.Maps
set_option maxRecDepth 100000 in
set_option maxHeartbeats 4000000 in
theorem order_law {v u : Value} {es : List Ent} {ks : List Int} (w : World) (h : EnsArg w v es) (hty : ∀ x ∈ es, x.typed) (h' : IntsArg w .u8 u ks) (hks : ∀ x ∈ ks, 0 ≤ x ∧ x ≤ 255) :
    Calls Try.prog 8 #[v, u] w fun e w' => e = .returned (.bool true) ∧ Ext w w' := by
  obtain ⟨A, cap, rfl, hr⟩ := h
  obtain ⟨A', cap', rfl, hr'⟩ := h'
  obtain ⟨n, hxn⟩ : ∃ n, es.length = n := ⟨_, rfl⟩
  obtain ⟨m, hxm⟩ : ∃ m, ks.length = m := ⟨_, rfl⟩
  have HN := Lib.hid hxn
  have HM := Lib.hid hxm
  have HTY := Lib.hid hty
  have HKS := Lib.hid hks
  rw [hxn] at hr ⊢
  rw [hxm] at hr' ⊢
  clear hxn hxm hty hks
  by_cases hn : n ≤ 60
  · by_cases hm : m ≤ 200
    · go_enter Try.func8, Try.ntmps8
      go_upto_region 3 with (go_at_call 11; refine (awake_any _).mono ?_; rintro e w1 ⟨rfl, hx1⟩)
      obtain ⟨q, hq⟩ : ∃ q, w1.heap.size + 1 = q := ⟨_, rfl⟩
      obtain ⟨b, hb⟩ : ∃ b, w1.heap.size = b := ⟨_, rfl⟩
      have HNEW : Hid (Calls Try.prog 18 #[] w1 fun e w' => e = .returned (.pointer (some ⟨q, 0, none⟩)) ∧ Ext w1 w' ∧ SetAt w' q b []) := Lib.hid (by rw [← hq, ← hb]; exact new_set w1)
      have HB := Lib.hid (show w.heap.size ≤ b by have := hx1.size; omega)
      have HX1 := Lib.hid hx1
      clear hq hb hx1
      go_wp2_with (go_at_call 18; refine HNEW.out.mono ?_; rintro e w2 ⟨rfl, hx2, hS2⟩)
      go_loopw [37] (fun i wr => ∃ (k : Nat) (L : List Ent), k ≤ n ∧ i = .int .i64 k ∧ Hid (Ext w wr ∧ SetAt wr q b L ∧ L.length ≤ k ∧ ∀ z, z ∈ L ↔ z ∈ es.take k)) (fun i _ => n - (intOf i).toNat)
      case atStart => exact ⟨0, [], by omega, rfl, Lib.hid ⟨HX1.out.trans hx2, hS2, by simp, by simp⟩⟩
      case round =>
        obtain ⟨k, L, hk, rfl, HR⟩ := hrel
        by_cases hlt : k < n
        · obtain ⟨ad, rfl, hg⟩ := hr (by omega)
          obtain ⟨x, hx⟩ : ∃ x, es[k]? = some x := ⟨es[k]'(by rw [HN.out]; exact hlt), by simp⟩
          have hki : (k : Int) < (n : Int) := by omega
          have hk6 : (k : Int) < 61 := by omega
          have HXT := Lib.hid (HTY.out x (List.mem_of_getElem? hx))
          have HTK : Hid (es.take (k + 1) = es.take k ++ [x]) := Lib.hid (by rw [List.take_add_one, hx]; rfl)
          obtain ⟨a0, a1, a2, a3, a4, a5, a6⟩ := (hg k x hx).ext HR.out.1
          clear hg hx hr hr'
          go_upto_region 7 with fail
          obtain ⟨wa, hwa⟩ : ∃ wa, wa = wr.alloc (.cells x.cs.toArray 41) := ⟨_, rfl⟩
          have XA : Ext wr wa := by rw [hwa]; exact (Ext.refl wr).alloc _
          have HT : Hid (RowB wa wr.heap.size 41 x.cs) := Lib.hid (by rw [hwa]; exact row_laid _ _ _)
          simp only [Ent.cs] at hwa
          rw [← hwa]
          clear hwa a0 a1 a2 a3 a4 a5 a6
          obtain ⟨t0, t1, t2, t3, t4, t5, t6⟩ := ent_cells HT.out
          have HP : Hid (Calls Try.prog 19 #[.pointer (some ⟨q, 0, none⟩), .agg #[.string x.nd, .int .i64 x.bt, .int .i64 x.sq, .int .i64 x.tn, .int .i64 x.ht, .int .i64 x.by_, .int .i64 x.at_]] wa fun e w' => ∃ is bad, e = .returned (.tuple #[.bool is, bad]) ∧ Ext w w' ∧ SetAt w' q b (putL L x) ∧ ((bad = .nilIface ∧ fitsL L x) ∨ ∃ k, bad = errV k)) := Lib.hid ((put_any q b L x wa (HR.out.2.1.ext XA) HXT.out).mono (by
            rintro e w' ⟨is, bad, rfl, hg, hS, hc⟩
            refine ⟨is, bad, rfl, (HR.out.1.trans XA).grownB hg HB.out, hS, ?_⟩
            rcases hc with ⟨h1, h2⟩ | ⟨-, -, h3⟩
            · exact .inl ⟨h2, h1⟩
            · exact .inr h3))
          clear XA
          go_upto_region 8 with (go_at_call 19; refine HP.out.mono ?_; rintro e w3 ⟨is, bad, rfl, hx3, hS3, hc3⟩)
          rcases hc3 with ⟨rfl, hfit⟩ | ⟨kb, rfl⟩
          · go_wp2_with fail
            go_roundw
            case rel => exact ⟨k + 1, putL L x, by omega, by go_num, Lib.hid ⟨hx3, hS3, by have := putL_len L x; have := HR.out.2.2.1; omega, fun z => by rw [putL_mem hfit, HTK.out, List.mem_append, List.mem_singleton, HR.out.2.2.2]⟩⟩
            case measure => simp [intOf]; omega
          · go_wp2_with fail
            go_ret
            exact ⟨rfl, hx3⟩
        · obtain rfl : k = n := by omega
          obtain ⟨hxr, hS, hLL, hLM⟩ := HR.out
          rw [List.take_of_length_le (by have := HN.out; omega)] at hLM
          have hcoh : Coh es := ⟨fun x hx => hS.ok x ((hLM x).2 hx), fun x hx y hy hk => pair_unique hS.nd ((hLM y).2 hy) ((hLM x).2 hx) hk⟩
          have HC := Lib.hid (And.intro hcoh (And.intro hS.nd (And.intro hLM hLL)))
          have HA := Lib.hid (And.intro hxr hS)
          obtain ⟨g, hg⟩ : ∃ g, w.heap.size = g := ⟨_, rfl⟩
          have HQ := Lib.hid (And.intro hg (wf_of_new hS))
          clear hcoh hLM hxr hS hLL hg
          generalize wr = wo at *
          obtain ⟨qb, hqb⟩ : ∃ q, wo.heap.size + 1 = q := ⟨_, rfl⟩
          obtain ⟨bb, hbb⟩ : ∃ b, wo.heap.size = b := ⟨_, rfl⟩
          have HNB : Hid (Calls Try.prog 18 #[] wo fun e w' => e = .returned (.pointer (some ⟨qb, 0, none⟩)) ∧ Ext wo w' ∧ SetAt w' qb bb []) := Lib.hid (by rw [← hqb, ← hbb]; exact new_set wo)
          have HQB := Lib.hid (And.intro hqb hbb)
          clear hqb hbb
          go_wp2_with (go_at_call 18; refine HNB.out.mono ?_; rintro e w3 ⟨rfl, hx3, hS3⟩)
          obtain ⟨qc, hqc⟩ : ∃ q, w3.heap.size + 1 = q := ⟨_, rfl⟩
          obtain ⟨bc, hbc⟩ : ∃ b, w3.heap.size = b := ⟨_, rfl⟩
          have hwf3 := wf_of_new hS3
          refine (new_set w3).mono ?_
          rintro e w4 ⟨rfl, hx4, hS4⟩
          rw [hqc, hbc] at hS4
          rw [hqc]
          have HD : Hid (TD w q b qb bb qc bc) := Lib.hid (by
            have := HB.out
            have := HQ.out
            have := HQB.out
            have := hx3.size
            have := HA.out.1.size
            exact ⟨by omega, by omega, by omega⟩)
          have HS4 : Hid (TT w w4 q b L qb bb [] qc bc [] es) := Lib.hid ⟨HA.out.1.trans (hx3.trans hx4), HA.out.2.ext (hx3.trans hx4), hS3.ext hx4, hS4, by simp, by simp⟩
          clear hqc hbc hwf3 hx3 hS3 hx4 hS4
          go_upto_block 2 with fail
          go_cut [] (fun wx => ∃ B C, Hid (TT w wx q b L qb bb B qc bc C es ∧ B.length ≤ 200 ∧ C.length ≤ 200))
          case first =>
            clear HX1 HNEW HNB HR
            go_wp2_with fail
            go_loopw [54] (fun i wr => ∃ (j : Nat) (B C : List Ent), j ≤ m ∧ i = .int .i64 j ∧ Hid (TT w wr q b L qb bb B qc bc C es ∧ B.length ≤ j ∧ C.length ≤ j)) (fun i _ => m - (intOf i).toNat)
            case atStart => exact ⟨0, [], [], by omega, rfl, Lib.hid ⟨HS4.out, by simp, by simp⟩⟩
            case round =>
              obtain ⟨j, B, C, hj, rfl, HR⟩ := hrel
              by_cases hlt : j < m
              · obtain ⟨ad, rfl, hg⟩ := hr' (by omega)
                obtain ⟨x, hx⟩ : ∃ x, ks[j]? = some x := ⟨ks[j]'(by rw [HM.out]; exact hlt), by simp⟩
                have hki : (j : Int) < (m : Int) := by omega
                have hk6 : (j : Int) < 201 := by omega
                have hxb := HKS.out x (List.mem_of_getElem? hx)
                have hxc := HR.out.1.x.cell (hg j x hx)
                clear hg hx hr'
                go_upto_region 15 with fail
                rcases Nat.eq_zero_or_pos k with hk0 | hk0
                · have hk0' : (k : Int) = 0 := by omega
                  go_wp2_with fail
                  go_meet
                  exact ⟨B, C, Lib.hid ⟨HR.out.1, by have := HR.out.2; omega, by have := HR.out.2; omega⟩⟩
                · have hk0' : ¬ (k : Int) = 0 := by omega
                  obtain ⟨i, hi⟩ : ∃ i : Nat, x % (k : Int) = i := ⟨(x % (k : Int)).toNat, by have := Int.emod_nonneg x (b := (k : Int)) (by omega); omega⟩
                  have hik : i < k := by have := Int.emod_lt_of_pos x (b := (k : Int)) (by omega); omega
                  obtain ⟨y, hy⟩ : ∃ y, es[i]? = some y := ⟨es[i]'(by rw [HN.out]; exact hik), by simp⟩
                  have hiki : (i : Int) < (k : Int) := by omega
                  rcases Nat.mod_two_eq_zero_or_one j with hj2 | hj2
                  · have hp : (((j : Int) % 2) == 1) = false := by rw [beq_eq_false_iff_ne]; omega
                    go_upto_region 19 with fail
                    obtain ⟨ad7, rfl, hg7⟩ := hr hk0
                    obtain ⟨a0, a1, a2, a3, a4, a5, a6⟩ := (hg7 i y hy).ext HR.out.1.x
                    clear hg7 hr
                    have HP : Hid (Calls Try.prog 19 #[.pointer (some ⟨qb, 0, none⟩), .agg #[.string y.nd, .int .i64 y.bt, .int .i64 y.sq, .int .i64 y.tn, .int .i64 y.ht, .int .i64 y.by_, .int .i64 y.at_]] wr fun e w' => ∃ is, e = .returned (.tuple #[.bool is, .nilIface]) ∧ TT w w' q b L qb bb (putL B y) qc bc C es) := Lib.hid (HR.out.1.putB HD.out HC.out.1 (List.mem_of_getElem? hy) (HTY.out y (List.mem_of_getElem? hy)))
                    go_upto_region 20 with (go_at_call 19; refine HP.out.mono ?_; rintro e w3 ⟨is, rfl, hx3⟩)
                    go_wp2_with fail
                    go_roundw
                    case rel => exact ⟨j + 1, putL B y, C, by omega, by go_num, Lib.hid ⟨hx3, by have := putL_len B y; have := HR.out.2; omega, by have := HR.out.2; omega⟩⟩
                    case measure => simp [intOf]; omega
                  · have hp : (((j : Int) % 2) == 1) = true := by rw [beq_iff_eq]; omega
                    go_upto_region 19 with fail
                    obtain ⟨ad7, rfl, hg7⟩ := hr hk0
                    obtain ⟨a0, a1, a2, a3, a4, a5, a6⟩ := (hg7 i y hy).ext HR.out.1.x
                    clear hg7 hr
                    have HP : Hid (Calls Try.prog 19 #[.pointer (some ⟨qc, 0, none⟩), .agg #[.string y.nd, .int .i64 y.bt, .int .i64 y.sq, .int .i64 y.tn, .int .i64 y.ht, .int .i64 y.by_, .int .i64 y.at_]] wr fun e w' => ∃ is, e = .returned (.tuple #[.bool is, .nilIface]) ∧ TT w w' q b L qb bb B qc bc (putL C y) es) := Lib.hid (HR.out.1.putC HD.out HC.out.1 (List.mem_of_getElem? hy) (HTY.out y (List.mem_of_getElem? hy)))
                    go_upto_region 20 with (go_at_call 19; refine HP.out.mono ?_; rintro e w3 ⟨is, rfl, hx3⟩)
                    go_wp2_with fail
                    go_roundw
                    case rel => exact ⟨j + 1, B, putL C y, by omega, by go_num, Lib.hid ⟨hx3, by have := HR.out.2; omega, by have := putL_len C y; have := HR.out.2; omega⟩⟩
                    case measure => simp [intOf]; omega
              · obtain rfl : j = m := by omega
                go_wp2_with fail
                go_meet
                exact ⟨B, C, Lib.hid ⟨HR.out.1, by have := HR.out.2; omega, by have := HR.out.2; omega⟩⟩
          obtain ⟨B, C, HBC⟩ := hcut
          clear HX1 HNEW HNB HR hx2 hS2 HS4 HKS hr' HQ HQB
          go_wp2_with fail
          go_loopw [85] (fun i wr => ∃ (j : Nat) (C : List Ent), j ≤ k ∧ i = .int .i64 j ∧ Hid (TT w wr q b L qb bb B qc bc C es ∧ C.length ≤ 200 + j ∧ ∀ z ∈ es.take j, z ∈ C)) (fun i _ => k - (intOf i).toNat)
          case atStart => exact ⟨0, C, by omega, rfl, Lib.hid ⟨HBC.out.1, by have := HBC.out.2; omega, by simp⟩⟩
          case round =>
            obtain ⟨j, C', hj, rfl, HR⟩ := hrel
            by_cases hlt : j < k
            · obtain ⟨ad, rfl, hg⟩ := hr (by omega)
              obtain ⟨x, hx⟩ : ∃ x, es[j]? = some x := ⟨es[j]'(by rw [HN.out]; exact hlt), by simp⟩
              have hki : (j : Int) < (k : Int) := by omega
              have hk6 : (j : Int) < 61 := by omega
              have HXT := Lib.hid (And.intro (List.mem_of_getElem? hx) (HTY.out x (List.mem_of_getElem? hx)))
              have HTK : Hid (es.take (j + 1) = es.take j ++ [x]) := Lib.hid (by rw [List.take_add_one, hx]; rfl)
              obtain ⟨a0, a1, a2, a3, a4, a5, a6⟩ := (hg j x hx).ext HR.out.1.x
              clear hg hx hr
              go_upto_region 26 with fail
              obtain ⟨wa, hwa⟩ : ∃ wa, wa = wr.alloc (.cells x.cs.toArray 41) := ⟨_, rfl⟩
              have XA : Ext wr wa := by rw [hwa]; exact (Ext.refl wr).alloc _
              have HT : Hid (RowB wa wr.heap.size 41 x.cs) := Lib.hid (by rw [hwa]; exact row_laid _ _ _)
              simp only [Ent.cs] at hwa
              rw [← hwa]
              clear hwa a0 a1 a2 a3 a4 a5 a6
              obtain ⟨t0, t1, t2, t3, t4, t5, t6⟩ := ent_cells HT.out
              have HP : Hid (Calls Try.prog 19 #[.pointer (some ⟨qc, 0, none⟩), .agg #[.string x.nd, .int .i64 x.bt, .int .i64 x.sq, .int .i64 x.tn, .int .i64 x.ht, .int .i64 x.by_, .int .i64 x.at_]] wa fun e w' => ∃ is, e = .returned (.tuple #[.bool is, .nilIface]) ∧ TT w w' q b L qb bb B qc bc (putL C' x) es) := Lib.hid ((HR.out.1.ext XA).putC HD.out HC.out.1 HXT.out.1 HXT.out.2)
              clear XA
              go_upto_region 27 with (go_at_call 19; refine HP.out.mono ?_; rintro e w3 ⟨is, rfl, hx3⟩)
              have hfit : fitsL C' x := HC.out.1.fits HR.out.1.sc HXT.out.1
              go_wp2_with fail
              go_roundw
              case rel =>
                refine ⟨j + 1, putL C' x, by omega, by go_num, Lib.hid ⟨hx3, by have := putL_len C' x; have := HR.out.2; omega, fun z hz => ?_⟩⟩
                rw [HTK.out, List.mem_append, List.mem_singleton] at hz
                exact (putL_mem hfit z).2 (hz.imp (HR.out.2.2 z) id)
              case measure => simp [intOf]; omega
            · obtain rfl : j = k := by omega
              obtain ⟨hTT, hCl, hCm⟩ := HR.out
              rw [List.take_of_length_le (by have := HN.out; omega)] at hCm
              have hCeq : ∀ z, z ∈ L ↔ z ∈ C' := fun z => ⟨fun h => hCm z ((HC.out.2.2.1 z).1 h), fun h => (HC.out.2.2.1 z).2 (hTT.sc z h)⟩
              have HJ1 : Hid (Calls Try.prog 21 #[.pointer (some ⟨qb, 0, none⟩), .pointer (some ⟨qc, 0, none⟩)] wr fun e w' => e = .returned .nilIface ∧ ∃ B', TT w w' q b L qb bb B' qc bc C' es ∧ ∀ z, z ∈ L ↔ z ∈ B') := Lib.hid ((hTT.joinB HD.out HC.out.1).mono (by
                rintro e w' ⟨rfl, B', hT, hm⟩
                refine ⟨rfl, B', hT, fun z => ⟨fun h => (hm z).2 (.inr ((hCeq z).1 h)), fun h => (HC.out.2.2.1 z).2 (hT.sb z h)⟩⟩))
              clear hTT hCm
              go_wp2_with fail
              refine HJ1.out.mono ?_
              rintro e w5 ⟨rfl, B', hT5, hB5⟩
              obtain ⟨r, hrr⟩ : ∃ r, srtL L = r := ⟨_, rfl⟩
              have hLL : L.length ≤ 1000 := by have := HC.out.2.2.2; omega
              have HRL : Hid (r.length ≤ 1000) := Lib.hid (by rw [← hrr, (srt_tied HC.out.2.1).p.length_eq]; exact hLL)
              have HLA : Hid (∀ Z, Ext w5 Z → ListsTo Z (.pointer (some ⟨q, 0, none⟩)) r) := Lib.hid (fun Z hZ => by rw [← hrr]; exact (hT5.a.ext hZ).lists_of HC.out.2.1 hLL (fun z => Iff.rfl))
              have HLB : Hid (∀ Z, Ext w5 Z → ListsTo Z (.pointer (some ⟨qb, 0, none⟩)) r) := Lib.hid (fun Z hZ => by rw [← hrr]; exact (hT5.b.ext hZ).lists_of HC.out.2.1 hLL hB5)
              have HJ2 : Hid (∀ Z, Ext w5 Z → Calls Try.prog 21 #[.pointer (some ⟨qc, 0, none⟩), .pointer (some ⟨qb, 0, none⟩)] Z fun e w' => e = .returned .nilIface ∧ Ext w w' ∧ ListsTo w' (.pointer (some ⟨q, 0, none⟩)) r ∧ ∀ Y, Ext w' Y → ListsTo Y (.pointer (some ⟨qc, 0, none⟩)) r ∧ ListsTo Y (.pointer (some ⟨q, 0, none⟩)) r) := Lib.hid (fun Z hZ => ((hT5.ext hZ).joinC HD.out HC.out.1).mono (by
                rintro e w' ⟨rfl, C2, hT, hm⟩
                have hm2 : ∀ z, z ∈ L ↔ z ∈ C2 := fun z => by rw [hm z, ← hCeq z, ← hB5 z, or_self]
                refine ⟨rfl, hT.x, ?_, fun Y hY => ⟨?_, ?_⟩⟩
                · rw [← hrr]; exact hT.a.lists_of HC.out.2.1 hLL (fun z => Iff.rfl)
                · rw [← hrr]; exact (hT.c.ext hY).lists_of HC.out.2.1 hLL hm2
                · rw [← hrr]; exact (hT.a.ext hY).lists_of HC.out.2.1 hLL (fun z => Iff.rfl)))
              clear hT5 hB5 hCeq hLL hrr
              go_wp2_with fail
              refine (sets_same (HLA.out w5 (Ext.refl _)) (HLB.out w5 (Ext.refl _)) HRL.out).mono ?_
              rintro e w6 ⟨rfl, hx6⟩
              rw [decide_eq_true rfl]
              go_wp2_with fail
              refine (HJ2.out w6 hx6).mono ?_
              rintro e w7 ⟨rfl, hx7, -, hl7⟩
              have HX7 := Lib.hid hx7
              have HL7 := Lib.hid hl7
              clear hx7 hl7
              go_wp2_with fail
              refine (sets_same (HL7.out w7 (Ext.refl _)).1 (HL7.out w7 (Ext.refl _)).2 HRL.out).mono ?_
              rintro e w8 ⟨rfl, hx8⟩
              rw [decide_eq_true rfl]
              go_wp2_with fail
              refine ((HL7.out w8 hx8).2 w8 (Ext.refl _)).mono ?_
              rintro e w9 ⟨u9, rfl, hu9, hx9, -⟩
              go_wp2_with fail
              refine ((HL7.out w9 (hx8.trans hx9)).1 w9 (Ext.refl _)).mono ?_
              rintro e w10 ⟨u10, rfl, hu10, hx10, -⟩
              go_wp2_with fail
              refine (same_any (hu9.ext hx10) hu10 HRL.out).mono ?_
              rintro e w11 ⟨rfl, hx11⟩
              rw [decide_eq_true rfl]
              go_wp2_with fail
              go_ret
              exact ⟨rfl, HX7.out.trans (((hx8.trans hx9).trans hx10).trans hx11)⟩
    · go_enter Try.func8, Try.ntmps8
      go_wp2_with (go_at_call 11; refine (awake_any _).mono ?_; rintro e w1 ⟨rfl, hx1⟩)
      go_ret
      exact ⟨rfl, hx1⟩
  · go_enter Try.func8, Try.ntmps8
    go_wp2_with (go_at_call 11; refine (awake_any _).mono ?_; rintro e w1 ⟨rfl, hx1⟩)
    go_ret
    exact ⟨rfl, hx1⟩
end Go.Proofs.Ytjdbhemojopnlaa
