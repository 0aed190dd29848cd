/- Chapter 53: the law Order. -/
import Derived.Test.YtepcnpnpjfdfmaaBlD
namespace Go.Proofs.Ytepcnpnpjfdfmaa
open Go.RowKit Go.Maps
set_option maxRecDepth 100000 in
set_option maxHeartbeats 800000 in
theorem order_law53 {A : Option Addr} {cp : Nat} {es : List Ent} (p : Option Addr) (n cap : Nat) (unit hit least f u : Int) (up pr : Nat → Int) (w : World) (x : Int) (hx0 : 0 ≤ x ∧ x ≤ 255)
    (h : EnsArg w (.slice A es.length cp) es) (hty : ∀ x ∈ es, x.typed) (ht : Tar w p n cap up pr) :
    Calls Try.prog 10 #[.agg #[.slice A es.length cp, .slice p n cap, .int .i64 unit, .int .i64 hit, .int .i64 least, .int .i64 f, .int .i64 u], .int .u8 x] w fun e w' => e = .returned (.bool true) ∧ Ext w w' := by
  obtain ⟨m, hm⟩ : ∃ m, es.length = m := ⟨_, rfl⟩
  have HM := Lib.hid hm
  rw [hm] at h ⊢
  have HE := Lib.hid h
  have HTY := Lib.hid hty
  have HT := Lib.hid ht
  clear hm h hty ht
  go_enter Try.func10, Try.ntmps10
  obtain ⟨w0, hw0⟩ : ∃ w0, w0 = w.alloc (.cells #[.slice A m cp, .slice p n cap, .int .i64 unit, .int .i64 hit, .int .i64 least, .int .i64 f, .int .i64 u] 53) := ⟨_, rfl⟩
  have X0 : Ext w w0 := by rw [hw0]; exact (Ext.refl w).alloc _
  have HTR : Hid (RowB w0 w.heap.size 53 [.slice A m cp, .slice p n cap, .int .i64 unit, .int .i64 hit, .int .i64 least, .int .i64 f, .int .i64 u]) := Lib.hid (by rw [hw0]; exact row_laid _ _ _)
  go_upto_region 1 with fail
  rw [← hw0]
  clear hw0
  obtain ⟨tb, htb⟩ : ∃ tb, w.heap.size = tb := ⟨_, rfl⟩
  have HTB := Lib.hid htb
  rw [htb] at HTR ⊢
  clear htb
  have c0 := HTR.out.cell (j := 0) rfl
  have c1 := HTR.out.cell (j := 1) rfl
  have HX0 := Lib.hid X0
  clear X0
  by_cases hm6 : m ≤ 60
  · by_cases hn : n ≤ 100
    · go_upto_region 3 with (go_at_call 11; refine (awake_any _).mono ?_; rintro e w1 ⟨rfl, hx1⟩)
      have HX1 := Lib.hid (HX0.out.trans hx1)
      have HR1 := Lib.hid (HTR.out.ext hx1)
      clear hx1 c0 c1
      have c0 := HR1.out.cell (j := 0) rfl
      obtain ⟨q, hq⟩ : ∃ q, w1.heap.size + 1 = q := ⟨_, rfl⟩
      obtain ⟨b, hb⟩ : ∃ b, w1.heap.size = b := ⟨_, rfl⟩
      obtain ⟨L, hL⟩ : ∃ L, es.foldl putL [] = L := ⟨_, rfl⟩
      have HS : Hid (Calls Try.prog 21 #[.slice A m cp] w1 fun e w' => e = .returned (.pointer (some ⟨q, 0, none⟩)) ∧ Ext w1 w' ∧ SetAt w' q b L) := Lib.hid (by
        have h1 := set_any w1 (v := .slice A m cp) (HE.out.ext HX1.out) HTY.out (by have := HM.out; omega)
        rwa [hq, hb, hL] at h1)
      have HLL : Hid (L.length ≤ 60) := Lib.hid (by rw [← hL]; have := foldp_len es []; have := HM.out; simp at *; omega)
      clear hq hb hL
      go_upto_region 4 with (go_at_call 21; refine HS.out.mono ?_; rintro e w2 ⟨rfl, hx2, hS2⟩)
      clear c0
      have HX2 := Lib.hid (HX1.out.trans hx2)
      have HR2 := Lib.hid (HR1.out.ext hx2)
      obtain ⟨r, hrr⟩ : ∃ r, srtL L = r := ⟨_, rfl⟩
      have HS2 := Lib.hid hS2
      have hnd := hS2.nd
      have hml : L.length ≤ 1000 := by have := HLL.out; omega
      have HLS : Hid (∀ Z, Ext w2 Z → ListsTo Z (.pointer (some ⟨q, 0, none⟩)) r) := Lib.hid (fun Z hZ => by rw [← hrr]; exact (hS2.ext hZ).lists hml)
      have HRG : Hid (r.length ≤ 60 ∧ ∀ x ∈ r, x.good) := Lib.hid (by rw [← hrr]; exact ⟨by rw [hS2.slen]; exact HLL.out, hS2.good⟩)
      have HRT : Hid (∀ x ∈ r, x.typed) := Lib.hid (fun x hx => by
        have h1 := HRG.out.2 x hx
        exact ⟨h1.1.1, by have := h1.2.2.1; unfold okN at *; omega⟩)
      have HCO : Hid (Coh r) := Lib.hid ⟨HRG.out.2, fun x hx y hy hk => by
        have hso : r.Pairwise ltE := by rw [← hrr]; exact hS2.tied.s
        exact sorted_key hso hy hx hk⟩
      have HRW : Hid (∀ {Z : World} {q' b' : Nat} {M : List Ent}, SetAt Z q' b' M → M.length ≤ 1000 → (∀ z, z ∈ r ↔ z ∈ M) → ListsTo Z (.pointer (some ⟨q', 0, none⟩)) r) := Lib.hid (fun hS hN hm => by
        rw [← hrr]
        exact hS.lists_like hnd hN (fun z => by rw [← hm z, ← hrr]; exact (srt_tied hnd).mem.symm))
      clear hrr hS2 hx2 hnd hml
      go_upto_region 5 with (go_at_call 25; refine (HLS.out w2 (Ext.refl _) w2 (Ext.refl _)).mono ?_; rintro e w3 ⟨v3, rfl, hu3, hx3, hf3⟩)
      obtain ⟨A3, cap3, rfl, hle3, hcap3, hpt3⟩ := list_parts hu3 hf3
      have HPT := Lib.hid hpt3
      obtain ⟨m3, hm3⟩ : ∃ m, r.length = m := ⟨_, rfl⟩
      have HM3 := Lib.hid hm3
      have hm60 : m3 ≤ 60 := by rw [← hm3]; exact HRG.out.1
      rw [hm3] at hle3 HPT ⊢
      clear hu3 hm3 hf3 hpt3
      obtain ⟨k, hk⟩ : ∃ k : Nat, x % ((m3 : Int) + 1) = k := ⟨(x % ((m3 : Int) + 1)).toNat, by have := Int.emod_nonneg x (b := (m3 : Int) + 1) (by omega); omega⟩
      have hkm : k ≤ m3 := by have := Int.emod_lt_of_pos x (b := (m3 : Int) + 1) (by omega); omega
      have hx01 := hx0.1
      have hx02 := hx0.2
      go_upto_region 6 with fail
      rw [hk]
      have HK := Lib.hid hk
      clear hk
      obtain ⟨qb, hqb⟩ : ∃ q, w3.heap.size + 1 = q := ⟨_, rfl⟩
      obtain ⟨bb, hbb⟩ : ∃ b, w3.heap.size = b := ⟨_, rfl⟩
      have HSD : Hid (Calls Try.prog 21 #[.slice (if cap3 = k then A3 else A3.map (·.add (k * 7))) (m3 - k) (cap3 - k)] w3 fun e w' => e = .returned (.pointer (some ⟨qb, 0, none⟩)) ∧ Ext w3 w' ∧ ∃ M, SetAt w' qb bb M ∧ M.length ≤ 60 ∧ ∀ z, z ∈ M ↔ z ∈ r.drop k) := Lib.hid (by
        have h1 := (HPT.out w3 (Ext.refl _) k (by omega)).1
        have h2 := set_any w3 h1 (fun x hx => HRT.out x (List.mem_of_mem_drop hx)) (by have := HM3.out; rw [List.length_drop]; omega)
        rw [hqb, hbb] at h2
        refine h2.mono ?_
        rintro e w' ⟨rfl, hx, hS⟩
        refine ⟨rfl, hx, _, hS, ?_, fun z => ?_⟩
        · have := foldp_len (r.drop k) []
          have h3 := HM3.out
          rw [List.length_drop] at this
          simp at this
          omega
        · rw [foldp_mem HCO.out _ _ (fun z hz => List.mem_of_mem_drop hz) (by simp)]
          simp)
      have HQB : Hid (w3.heap.size + 1 = qb ∧ w3.heap.size = bb) := Lib.hid ⟨hqb, hbb⟩
      clear hqb hbb
      go_cut [8] (fun v wx => v = .pointer (some ⟨qb, 0, none⟩) ∧ Ext w3 wx ∧ Hid (∃ M, SetAt wx qb bb M ∧ M.length ≤ 60 ∧ ∀ z, z ∈ M ↔ z ∈ r.drop k))
      case first =>
        by_cases hck : cap3 = k
        · obtain rfl : cap3 = m3 := by omega
          obtain rfl := hck
          rw [if_pos rfl, Nat.sub_self] at HSD
          go_wp2_with (go_at_call 21; refine HSD.out.mono ?_; rintro e w4 ⟨rfl, hx4, hM4⟩)
          go_meet
          exact ⟨rfl, hx4, Lib.hid hM4⟩
        · rw [if_neg hck] at HSD
          go_wp2_with (go_at_call 21; refine HSD.out.mono ?_; rintro e w4 ⟨rfl, hx4, hM4⟩)
          go_meet
          exact ⟨rfl, hx4, Lib.hid hM4⟩
      obtain ⟨rfl, hx4, HM4⟩ := hcut
      have HX3 := Lib.hid hx3
      have HX4 := Lib.hid hx4
      clear hx4 hx3 HSD
      have HST : Hid (∀ (Z : World) (v : Value) (xs : List Ent), Ext w3 Z → EnsArg Z v xs → (∀ z ∈ xs, z ∈ r) → xs.length ≤ 60 → Calls Try.prog 21 #[v] Z fun e w' => e = .returned (.pointer (some ⟨Z.heap.size + 1, 0, none⟩)) ∧ Ext Z w' ∧ ∃ N, SetAt w' (Z.heap.size + 1) Z.heap.size N ∧ ∀ z, z ∈ N ↔ z ∈ xs) := Lib.hid (fun Z v xs hZ hv hs hl => (set_any Z hv (fun x hx => HRT.out x (hs x hx)) (by omega)).mono (by
        rintro e w' ⟨rfl, hx, hS⟩
        exact ⟨rfl, hx, _, hS, fun z => by rw [foldp_mem HCO.out _ _ hs (by simp)]; simp⟩))
      have HJN : Hid (∀ (Z : World) (q2 b2 : Nat) (M N : List Ent), Ext w3 Z → SetAt Z qb bb M → SetAt Z q2 b2 N → (∀ z ∈ M, z ∈ r) → (∀ z ∈ N, z ∈ r) → Calls Try.prog 26 #[.pointer (some ⟨qb, 0, none⟩), .pointer (some ⟨q2, 0, none⟩)] Z fun e w' => e = .returned .nilIface ∧ Ext w3 w' ∧ ∃ C, SetAt w' qb bb C ∧ ∀ z, z ∈ C ↔ z ∈ M ∨ z ∈ N) := Lib.hid (fun Z q2 b2 M N hZ hM hN h1 h2 => (join_any qb bb q2 b2 M N Z hM hN).mono (by
        rintro e w' (⟨hn, -⟩ | ⟨-, rfl, hg, C, hC, hm⟩)
        · exact absurd (HCO.out.both h1 h2) hn
        · exact ⟨rfl, hZ.grownB hg (by have := HQB.out.2; omega), C, hC, hm⟩))
      go_upto_region 7 with fail
      go_cut [62] (fun v wx => v = .bool false ∧ Ext w3 wx ∧ Hid (∃ M, SetAt wx qb bb M ∧ M.length ≤ 1000 ∧ ∀ z, z ∈ r ↔ z ∈ M))
      case first =>
        obtain ⟨M, hM, hMl, hMm⟩ := HM4.out
        have HS1 : Hid (Calls Try.prog 21 #[.slice A3 k cap3] wc fun e w' => e = .returned (.pointer (some ⟨wc.heap.size + 1, 0, none⟩)) ∧ Ext wc w' ∧ SetAt w' qb bb M ∧ ∃ N, SetAt w' (wc.heap.size + 1) wc.heap.size N ∧ ∀ z, z ∈ N ↔ z ∈ r.take k) := Lib.hid ((HST.out wc _ _ HX4.out (HPT.out wc HX4.out k hkm).2 (fun z hz => List.mem_of_mem_take hz) (by rw [List.length_take]; omega)).mono (by
          rintro e w' ⟨rfl, hx, hN⟩
          exact ⟨rfl, hx, hM.ext hx, hN⟩))
        have HMM := Lib.hid (And.intro hMm hMl)
        clear hM hMl hMm
        obtain ⟨k2, hk2⟩ : ∃ k2 : Nat, (k : Int) / 2 = k2 := ⟨k / 2, by omega⟩
        have hk2m : k2 ≤ m3 := by omega
        have HK2 := Lib.hid hk2m
        have HS2' : Hid (∀ Z, Ext w3 Z → Calls Try.prog 21 #[.slice (if cap3 = k2 then A3 else A3.map (·.add (k2 * 7))) (m3 - k2) (cap3 - k2)] Z fun e w' => e = .returned (.pointer (some ⟨Z.heap.size + 1, 0, none⟩)) ∧ Ext Z w' ∧ ∃ N, SetAt w' (Z.heap.size + 1) Z.heap.size N ∧ ∀ z, z ∈ N ↔ z ∈ r.drop k2) := Lib.hid (fun Z hZ => HST.out Z _ _ hZ (HPT.out Z hZ k2 (by omega)).1 (fun z hz => List.mem_of_mem_drop hz) (by rw [List.length_drop]; have := HM3.out; omega))
        have HEND : Hid (∀ (Z : World) (C N D : List Ent), SetAt Z qb bb D → (∀ z, z ∈ C ↔ z ∈ M ∨ z ∈ r.take k) → (∀ z, z ∈ D ↔ z ∈ C ∨ z ∈ N) → (∀ z, z ∈ N ↔ z ∈ r.drop k2) → ∃ M, SetAt Z qb bb M ∧ M.length ≤ 1000 ∧ ∀ z, z ∈ r ↔ z ∈ M) := Lib.hid (fun Z C N D hD h1 h2 h3 => by
          have hm : ∀ z, z ∈ r ↔ z ∈ D := fun z => by
            rw [h2 z, h1 z, h3 z, HMM.out.1 z]
            constructor
            · intro hz
              rw [← List.take_append_drop k r, List.mem_append] at hz
              rcases hz with hz | hz
              · exact .inl (.inr hz)
              · exact .inl (.inl hz)
            · rintro ((hz | hz) | hz)
              · exact List.mem_of_mem_drop hz
              · exact List.mem_of_mem_take hz
              · exact List.mem_of_mem_drop hz
          refine ⟨D, hD, ?_, hm⟩
          have := len_sub (keys_nodup hD.nd) (fun z hz => (hm z).2 hz)
          have := HM3.out
          omega)
        have HMR : Hid (∀ z ∈ M, z ∈ r) := Lib.hid (fun z hz => List.mem_of_mem_drop ((HMM.out.1 z).1 hz))
        go_wp2_with fail
        refine HS1.out.mono ?_
        rintro e w5 ⟨rfl, hx5, hM5, N, hN5, hNm⟩
        have HJ1 : Hid (Calls Try.prog 26 #[.pointer (some ⟨qb, 0, none⟩), .pointer (some ⟨wc.heap.size + 1, 0, none⟩)] w5 fun e w' => e = .returned .nilIface ∧ Ext w3 w' ∧ ∃ C, SetAt w' qb bb C ∧ ∀ z, z ∈ C ↔ z ∈ M ∨ z ∈ r.take k) := Lib.hid ((HJN.out w5 _ _ M N (HX4.out.trans hx5) hM5 hN5 HMR.out (fun z hz => List.mem_of_mem_take ((hNm z).1 hz))).mono (by
          rintro e w' ⟨rfl, hx, C, hC, hm⟩
          exact ⟨rfl, hx, C, hC, fun z => by rw [hm z, hNm z]⟩))
        clear hx5 hM5 hN5 hNm
        by_cases hck : cap3 = k2
        · obtain rfl : k2 = 0 := by omega
          obtain rfl : cap3 = 0 := by omega
          obtain rfl : m3 = 0 := by omega
          obtain rfl : k = 0 := by omega
          rw [if_pos rfl] at HS2'
          go_wp2_with fail
          refine HJ1.out.mono ?_
          rintro e w6 ⟨rfl, hx6, C, hC6, hCm⟩
          go_wp2_with fail
          refine (HS2'.out w6 hx6).mono ?_
          rintro e w7 ⟨rfl, hx7, N2, hN7, hNm⟩
          go_wp2_with fail
          refine (HJN.out w7 _ _ C N2 (hx6.trans hx7) (hC6.ext hx7) hN7 (fun z hz => ((hCm z).1 hz).elim (HMR.out z) List.mem_of_mem_take) (fun z hz => List.mem_of_mem_drop ((hNm z).1 hz))).mono ?_
          rintro e w8 ⟨rfl, hx8, D, hD8, hDm⟩
          go_wp2_with fail
          go_meet
          exact ⟨rfl, hx8, Lib.hid (HEND.out w8 C N2 D hD8 hCm hDm hNm)⟩
        · rw [if_neg hck] at HS2'
          go_wp2_with fail
          refine HJ1.out.mono ?_
          rintro e w6 ⟨rfl, hx6, C, hC6, hCm⟩
          go_wp2_with fail
          refine (HS2'.out w6 hx6).mono ?_
          rintro e w7 ⟨rfl, hx7, N2, hN7, hNm⟩
          go_wp2_with fail
          refine (HJN.out w7 _ _ C N2 (hx6.trans hx7) (hC6.ext hx7) hN7 (fun z hz => ((hCm z).1 hz).elim (HMR.out z) List.mem_of_mem_take) (fun z hz => List.mem_of_mem_drop ((hNm z).1 hz))).mono ?_
          rintro e w8 ⟨rfl, hx8, D, hD8, hDm⟩
          go_wp2_with fail
          go_meet
          exact ⟨rfl, hx8, Lib.hid (HEND.out w8 C N2 D hD8 hCm hDm hNm)⟩
      obtain ⟨rfl, hx6, HM6⟩ := hcut
      have HX6 := Lib.hid hx6
      clear hx6
      have HBI : ∃ (S : Int) (EV : Value) (LS : List Ln) (NC : Int), LS.length ≤ 16 ∧ (∀ Z, Calls Try.prog 17 #[EV] Z fun e w' => e = .returned (.int .i64 NC) ∧ Z = w') ∧
          ∀ Z q', Ext w2 Z → (∀ Y, Ext Z Y → ListsTo Y (.pointer (some ⟨q', 0, none⟩)) r) → Calls Try.prog 22 #[.pointer (some ⟨q', 0, none⟩), .agg #[.slice p n cap, .int .i64 unit, .int .i64 hit, .int .i64 least], .int .i64 f, .int .i64 u] Z fun e w' => ∃ v, e = .returned (.tuple #[v, .int .i64 S, EV]) ∧ LnAt w' v LS ∧ Ext Z w' := by
        have hB := fun Z q' (hZ : Ext w2 Z) (hL : ∀ Y, Ext Z Y → ListsTo Y (.pointer (some ⟨q', 0, none⟩)) r) => bill_any p n cap unit hit least f u up pr Z (HT.out.ext (HX2.out.trans hZ)) q' (by have := HRG.out.1; omega) HRG.out.2 hL
        by_cases hbc : bcode n unit hit least up pr f u (fun t => tot Ent.ht (pB t f u) r) (fun t => tot Ent.by_ (pB t f u) r) = 0
        · refine ⟨smF (fun t => tot Ent.ht (pB t f u) r) (fun t => tot Ent.by_ (pB t f u) r) (chg n unit hit least up pr) 16, .nilIface, lns (fun t => tot Ent.ht (pB t f u) r) (fun t => tot Ent.by_ (pB t f u) r) (chg n unit hit least up pr) 16, 0, lns_len _ _ _ 16, fun Z => num_nil Z, fun Z q' hZ hL => (hB Z q' hZ hL).mono ?_⟩
          rintro e w' ⟨⟨-, v, rfl, hl⟩ | ⟨h1, -⟩, hx⟩
          · exact ⟨v, rfl, hl, hx⟩
          · exact absurd hbc h1
        · refine ⟨0, errV (bcode n unit hit least up pr f u (fun t => tot Ent.ht (pB t f u) r) (fun t => tot Ent.by_ (pB t f u) r)), [], bcode n unit hit least up pr f u (fun t => tot Ent.ht (pB t f u) r) (fun t => tot Ent.by_ (pB t f u) r), by simp, fun Z => num_err _ Z, fun Z q' hZ hL => (hB Z q' hZ hL).mono ?_⟩
          rintro e w' ⟨⟨h1, -⟩ | ⟨-, rfl⟩, hx⟩
          · exact absurd h1 hbc
          · exact ⟨_, rfl, .inl ⟨rfl, rfl⟩, hx⟩
      obtain ⟨S, EV, LS, NC, hLS, hNum, hBill⟩ := HBI
      have HNM := Lib.hid hNum
      have HB1 : Hid (Calls Try.prog 22 #[.pointer (some ⟨q, 0, none⟩), .agg #[.slice p n cap, .int .i64 unit, .int .i64 hit, .int .i64 least], .int .i64 f, .int .i64 u] wc fun e w' => ∃ v, e = .returned (.tuple #[v, .int .i64 S, EV]) ∧ LnAt w' v LS ∧ Ext wc w') := Lib.hid (hBill wc q (HX3.out.trans HX6.out) (fun Y hY => HLS.out Y ((HX3.out.trans HX6.out).trans hY)))
      have HB2 : Hid (∀ Z, Ext wc Z → Calls Try.prog 22 #[.pointer (some ⟨qb, 0, none⟩), .agg #[.slice p n cap, .int .i64 unit, .int .i64 hit, .int .i64 least], .int .i64 f, .int .i64 u] Z fun e w' => ∃ v, e = .returned (.tuple #[v, .int .i64 S, EV]) ∧ LnAt w' v LS ∧ Ext Z w') := Lib.hid (fun Z hZ => by
        obtain ⟨M, hM, hMl, hMm⟩ := HM6.out
        exact hBill Z qb ((HX3.out.trans HX6.out).trans hZ) (fun Y hY => HRW.out ((hM.ext hZ).ext hY) hMl hMm))
      have HLS2 := Lib.hid hLS
      have HR6 := Lib.hid (HR2.out.ext (HX3.out.trans HX6.out))
      clear hBill hNum hLS hle3 hcap3 hkm
      have c1 := HR6.out.cell (j := 1) rfl
      have c2 := HR6.out.cell (j := 2) rfl
      have c3 := HR6.out.cell (j := 3) rfl
      have c4 := HR6.out.cell (j := 4) rfl
      have c5 := HR6.out.cell (j := 5) rfl
      have c6 := HR6.out.cell (j := 6) rfl
      go_upto_region 10 with (go_at_call 22; refine HB1.out.mono ?_; rintro e w7 ⟨v7, rfl, hl7, hx7⟩)
      have HL7 := Lib.hid hl7
      have HX7 := Lib.hid hx7
      clear c1 c2 c3 c4 c5 c6 hl7
      have c1 := (HR6.out.ext hx7).cell (j := 1) rfl
      have c2 := (HR6.out.ext hx7).cell (j := 2) rfl
      have c3 := (HR6.out.ext hx7).cell (j := 3) rfl
      have c4 := (HR6.out.ext hx7).cell (j := 4) rfl
      have c5 := (HR6.out.ext hx7).cell (j := 5) rfl
      have c6 := (HR6.out.ext hx7).cell (j := 6) rfl
      clear hx7
      go_upto_region 11 with (go_at_call 22; refine (HB2.out w7 HX7.out).mono ?_; rintro e w8 ⟨v8, rfl, hl8, hx8⟩)
      clear c1 c2 c3 c4 c5 c6
      have HSA : Hid (Calls Try.prog 24 #[v7, v8] w8 fun e w' => e = .returned (.bool true) ∧ Ext w8 w') := Lib.hid (by
        have h1 := lines_same (HL7.out.ext hx8) hl8 (by have := HLS2.out; omega)
        rwa [decide_eq_true rfl] at h1)
      have HX8 := Lib.hid (((HX2.out.trans HX3.out).trans HX6.out).trans (HX7.out.trans hx8))
      clear hl8 hx8
      have hss : (S == S) = true := by simp
      have hnc : (NC == NC) = true := by simp
      go_wp2_with (first
        | (go_at_call 17; refine (HNM.out _).mono ?_; rintro e w9 ⟨rfl, rfl⟩)
        | (go_at_call 24; refine HSA.out.mono ?_; rintro e w9 ⟨rfl, hx9⟩))
      go_ret
      exact ⟨rfl, HX8.out.trans hx9⟩
    · go_wp2_with (go_at_call 11; refine (awake_any _).mono ?_; rintro e w1 ⟨rfl, hx1⟩)
      go_ret
      exact ⟨rfl, HX0.out.trans hx1⟩
  · go_wp2_with (go_at_call 11; refine (awake_any _).mono ?_; rintro e w1 ⟨rfl, hx1⟩)
    go_ret
    exact ⟨rfl, HX0.out.trans hx1⟩
end Go.Proofs.Ytepcnpnpjfdfmaa
