/- Chapter 23: law FlashlogRoom. -/
import Derived.Test.YtepigkjgjlibcaaHlE
import Derived.Test.YtepigkjgjlibcaaHlD
namespace Go.Proofs.Ytepigkjgjlibcaa
open Go.RowKit Go.Deep Go.Proofs.Ytepigkjgjlibcaa.FL
set_option maxRecDepth 100000
def newK : Bs := [110, 101, 119]
def keyL : List Bs := (List.range 16).map keyF
theorem keyF_mem (k : Nat) : keyF k ∈ keyL := by
  refine List.mem_map.2 ⟨k % 16, List.mem_range.2 (Nat.mod_lt _ (by omega)), ?_⟩
  unfold keyF
  rw [Nat.mod_mod]
theorem keyL_len : ∀ k ∈ keyL, k.length ≠ 3 := by
  intro k hk
  obtain ⟨i, -, rfl⟩ := List.mem_map.1 hk
  unfold keyF
  split
  · simp
  · split
    · simp
    · split
      · simp
      · simp
theorem keysF_few {L : Log} (h : KeysIn L (fun k => k ∈ keyL ∨ k = newK)) {n np : Nat} (hi : MInv L n np) : (keysF L).length ≤ 17 := by
  have h1 : keysF L ⊆ keyL ++ [newK] := fun k hk => by
    obtain ⟨TD, P, er, hs⟩ := hi.sess
    obtain ⟨v, hv⟩ := (hs.keys k).1 hk
    obtain ⟨e, he, -, hek, -, -⟩ := hs.entry hv
    obtain ⟨i, j, b, hb, hbe⟩ := mem_eat hs.core.rep he
    have := h b (List.mem_of_getElem? hb) e (List.mem_of_getElem? hbe)
    simp only at this
    rw [hek] at this
    rcases this with h9 | h9
    · exact List.mem_append_left _ h9
    · exact List.mem_append_right _ (by rw [h9]; simp)
  have h2 := (keysF_nodup L).length_le_of_subset h1
  rw [List.length_append] at h2
  unfold keyL at h2
  simpa using h2
/-- a log on a device, and a slice that lies beside it -/
structure LK (W w0 wr : World) (d l np n : Nat) (v : Value) (L : Log) : Prop where
  ext : Ext W wr
  log : ∃ S, LogOn wr S l d L ∧ (∀ x, S x → W.heap.size ≤ x) ∧ ∀ x, v.ownBlock = some x → ¬ S x
  keep : ∀ x, v.ownBlock = some x → wr.heap[x]? = w0.heap[x]? ∧ x < wr.heap.size
  inv : MInv L n np
theorem LK.lu {W w0 wr : World} {d l np n : Nat} {v : Value} {L : Log} (h : LK W w0 wr d l np n v L) : LU W wr d l np n L := by
  obtain ⟨S, h1, h2, -⟩ := h.log
  exact ⟨h.ext, ⟨S, h1, h2⟩, h.inv⟩
theorem LK.of {W wr w' : World} {d l np n : Nat} {v : Value} {L : Log} {ks : List Bs} (h : LU W wr d l np n L) (hx : Ext wr w') (hk : KsAt w' wr.heap.size v ks) : LK W w' w' d l np n v L := by
  obtain ⟨S, h1, h2⟩ := h.log
  have hb : ∀ x, v.ownBlock = some x → wr.heap.size ≤ x ∧ x < w'.heap.size := fun x hx => World.ownsRow.lt hk x hx
  refine ⟨h.ext.trans hx, ⟨S, h1.ext hx, h2, fun x hv hS => ?_⟩, fun x hv => ⟨rfl, (hb x hv).2⟩, h.inv⟩
  obtain ⟨F, SD, G, -, hl⟩ := h1
  have := Typed.lt hl.ty hS
  have := (hb x hv).1
  omega
theorem LK.delete {W w0 wr : World} {d l np n : Nat} {v : Value} {L : Log} (h : LK W w0 wr d l np n v L) (hn : n ≤ 500) {key : Bs} : Calls Try.prog 12 #[.pointer (some ⟨l, 0, none⟩), .string (st key)] wr fun e w' => e = .returned (codeV (deleteF L key).1) ∧ LK W w0 w' d l np (n + 1) v (deleteF L key).2 := by
  obtain ⟨S, ⟨F, SD, G, hdv, hl⟩, hS, hv⟩ := h.log
  have h0 := delete_any hl h.inv.inv (key := key) (by have := h.inv.pend; omega)
  rw [hdv] at h0
  refine h0.mono ?_
  rintro e w' ⟨rfl, S', h1, h2, h3⟩
  refine ⟨rfl, ⟨ext_step h.ext hS h2, ⟨S', h1, from_step h.ext hS h3, fun x hx h9 => ?_⟩, fun x hx => ?_, minv_delete hn h.inv key⟩⟩
  · rcases h3 x h9 with h8 | h8
    · exact hv x hx h8
    · have := (h.keep x hx).2; omega
  · obtain ⟨h4, h5⟩ := h.keep x hx
    exact ⟨(h2.block x h5 (hv x hx)).trans h4, Nat.lt_of_lt_of_le h5 h2.size⟩
set_option maxHeartbeats 16000000 in
theorem room23_law {W : World} {x y : Nat} (hx : x < 256) (hy : y < 256) {v : Value} {acts : List Act4} (hv : ActsIn W v acts) {b : Act4} (hb : b.ok) :
    Calls Try.prog 4 #[.agg #[.int .u8 x, .int .u8 y], v, .agg #[.int .u8 b.kind, .int .u8 b.key, .int .u8 b.fill, .int .u16 b.many]] W fun e w' => e = .returned (.bool true) ∧ Ext W w' := by
  obtain ⟨bk, by_, bf, bm⟩ := b
  simp only
  have HB := Lib.hid hb
  clear hb
  obtain ⟨A, cap, rfl, hrd⟩ := hv
  obtain ⟨len, hlen⟩ : ∃ z, z = acts.length := ⟨_, rfl⟩
  rw [← hlen] at hrd ⊢
  have HLN := Lib.hid hlen
  have HRD := Lib.hid hrd
  have HAW := Lib.hid (fun w => awake23 w)
  have HMD := Lib.hid (fun w => made23 x y hx hy w)
  clear hrd hlen
  by_cases hl : len ≤ 40
  · have hli : ¬ (40 : Int) < (len : Int) := by omega
    go_enter Try.func4, Try.ntmps4
    go_upto_region 1 with fail
    obtain ⟨wa, hwa⟩ : ∃ z, z = W.alloc (.cells #[.int .u8 x, .int .u8 y] 23) := ⟨_, rfl⟩
    have hwas : wa.heap.size = W.heap.size + 1 := by rw [hwa]; simp
    rw [← hwa, ← hwas]
    obtain ⟨wb, hwb⟩ : ∃ z, z = wa.alloc (.cells #[.int .u8 bk, .int .u8 by_, .int .u8 bf, .int .u16 bm] 36) := ⟨_, rfl⟩
    obtain ⟨ta, hta⟩ : ∃ z, z = W.heap.size := ⟨_, rfl⟩
    obtain ⟨tb, htb⟩ : ∃ z, z = wa.heap.size := ⟨_, rfl⟩
    have HXB := Lib.hid (show Ext W wb by rw [hwb, hwa]; exact ((Ext.refl W).alloc _).alloc _)
    have HRA := Lib.hid (show RowB wb ta 23 [.int .u8 x, .int .u8 y] by rw [hwb, hta]; refine RowB.ext ?_ ((Ext.refl wa).alloc _); rw [hwa]; exact row_laid W _ _)
    have HRB := Lib.hid (show RowB wb tb 36 [.int .u8 bk, .int .u8 by_, .int .u8 bf, .int .u16 bm] by rw [hwb, htb]; exact row_laid wa _ _)
    rw [← hwb, ← hta, ← htb]
    clear hwa hwb hta htb hwas
    have d0 := HRA.out.cell (j := 0) rfl
    have d1 := HRA.out.cell (j := 1) rfl
    go_upto_region 2 with (go_at_call 8; refine (HMD.out _).mono ?_; rintro e w1 ⟨d, S1, G1, rfl, hx1, hd1, hs1⟩; have HX1 := Lib.hid hx1; have HD1 := Lib.hid hd1; have HS1 := Lib.hid hs1; clear hx1 hd1 hs1)
    clear d0 d1
    go_upto_region 4 with (go_at_call 9; refine (HAW.out _).mono ?_; rintro e w2 ⟨rfl, hx2⟩; have HX2 := Lib.hid hx2; clear hx2)
    obtain ⟨L0, hop, hmi, hnone⟩ := MInv.new (n := 3 + x % 3) (m := 1 + y % 8) (by omega) (by omega)
    have HO := Lib.hid (open_any (HD1.out.ext HX2.out) (newDev_ok (n := 3 + x % 3) (m := 1 + y % 8) (by omega) (by omega)).1 (Nat.zero_le _))
    rw [hop] at HO
    have HO2 := Lib.hid (show Calls Try.prog 10 #[.pointer (some ⟨d, 0, none⟩)] w2 (fun e w' => ∃ l S', e = .returned (.tuple #[.pointer (some ⟨l, 0, none⟩), .nilIface]) ∧ LogOn w' S' l d L0 ∧ Mod S1 w2 w' ∧ ∀ x, S' x → S1 x ∨ w2.heap.size ≤ x) from HO.out)
    have hke0 : KeysIn L0 (fun k => k ∈ keyL) := fun b hb e he => by
      obtain ⟨TD, P, er, hs⟩ := hmi.sess
      obtain ⟨j, hj⟩ := List.getElem?_of_mem hb
      obtain ⟨i, hi⟩ := List.getElem?_of_mem he
      have h9 : EAt L0 (j, i, e) := ⟨b, hj, hi⟩
      have hL : L0 = loadF (log0 (newDev (3 + x % 3) (1 + y % 8))) := by
        obtain ⟨L9, q1, q2, -⟩ := newDev_open (n := 3 + x % 3) (m := 1 + y % 8) (by omega) (by omega)
        rw [hop] at q1
        cases q1
        exact q2
      have hf := (newDev_fresh (n := 3 + x % 3) (m := 1 + y % 8) (by omega) (by omega)).load
      rw [← hL] at hf
      have := (eat_mem hf.rep h9).1
      rw [List.append_nil] at this
      cases this
    have HMI := Lib.hid (And.intro hmi hke0)
    clear HO hop hmi hnone hke0
    go_upto_region 7 with (go_at_call 10; refine HO2.out.mono ?_; rintro e w3 ⟨l, S3, rfl, hl3, hm3, hs3⟩; have HL3 := Lib.hid (And.intro hl3 (And.intro hm3 hs3)); clear hl3 hm3 hs3)
    obtain ⟨np, hnp⟩ : ∃ z, z = 1 + y % 8 := ⟨_, rfl⟩
    have HLU := Lib.hid (show LU wb w3 d l np 1 L0 ∧ KeysIn L0 (fun k => k ∈ keyL) by
      have hX12 := HX1.out.trans HX2.out
      have hX3 : Ext wb w3 := ext_step hX12 HS1.out HL3.out.2.1
      refine ⟨⟨hX3, ⟨S3, HL3.out.1, from_step hX12 HS1.out HL3.out.2.2⟩, ?_⟩, HMI.out.2⟩
      rw [hnp]
      exact HMI.out.1)
    clear hnp HL3 HMI HO2 HS1 HD1 HX1 HX2 HMD HAW HRA
    go_wp2_with fail
    go_loopw [10] (fun i wr => ∃ (k : Nat), i = .int .i64 k ∧ k ≤ len ∧ Hid (∃ L, LU wb wr d l np (k + 1) L ∧ KeysIn L (fun k => k ∈ keyL))) (fun i _ => len - (intOf i).toNat)
    case atStart => exact ⟨0, rfl, by omega, Lib.hid ⟨L0, HLU.out⟩⟩
    case round =>
      clear HLU
      obtain ⟨k, rfl, hk, hD⟩ := hrel
      obtain ⟨L, hD⟩ := hD.out
      have HD := Lib.hid hD
      clear hD
      have HKE := Lib.hid (show k + 1 ≤ 500 by omega)
      generalize wr = wo at *
      by_cases hkl : k < len
      · have hki : (k : Int) < (len : Int) := by omega
        obtain ⟨a, ha⟩ : ∃ a, acts[k]? = some a := ⟨_, List.getElem?_eq_getElem (by rw [← HLN.out]; exact hkl)⟩
        obtain ⟨g, o, rfl, hcs⟩ := HRD.out (by omega)
        obtain ⟨hok, hc0, hc1, hc2, hc3⟩ := hcs k a ha
        obtain ⟨ak, ay, af, am⟩ := a
        simp only at hc0 hc1 hc2 hc3
        have HCS := Lib.hid (show ∀ w, Ext wb w → actCells w g (o + k * 4) ⟨ak, ay, af, am⟩ from fun w hX => ⟨(HXB.out.trans hX).cell hc0, (HXB.out.trans hX).cell hc1, (HXB.out.trans hX).cell hc2, (HXB.out.trans hX).cell hc3⟩)
        obtain ⟨c0, c1, c2, c3⟩ := HCS.out _ HD.out.1.ext
        simp only at c0 c1 c2 c3
        have HOK := Lib.hid hok
        clear hc0 hc1 hc2 hc3 hcs ha hok
        have HKY := Lib.hid (fun w => key23 ay HOK.out.2.1 w)
        obtain ⟨ky, hky⟩ : ∃ z, z = keyF ay := ⟨_, rfl⟩
        rw [← hky] at HKY
        have HKL := Lib.hid (show ky.length ≤ 2049 ∧ ky ∈ keyL by rw [hky]; exact ⟨keyF_len ay, keyF_mem ay⟩)
        clear hky
        obtain ⟨r, hr⟩ : ∃ r, r = ak % 5 := ⟨_, rfl⟩
        have er : (ak : Int) % 5 = (r : Nat) := by omega
        clear hr
        by_cases hr1 : r = 1
        · --{A
          subst hr1
          go_wp2_with (first
            | (go_at_call 12; refine (HD5.out.delete HKE.out (key := ky)).mono ?_; rintro e w6 ⟨rfl, hl6⟩; have HL6 := Lib.hid hl6; clear hl6)
            | (go_at_call 11; refine (HKY.out _).mono ?_; rintro e w5 ⟨rfl, hx5⟩; have HD5 := Lib.hid (HD.out.1.grow hx5); clear hx5))
          exact ⟨⟨k + 1, by go_num, by omega, Lib.hid ⟨_, HL6.out, deleteF_keys HD.out.2 HKL.out.2⟩⟩, by simp [intOf]; omega⟩
          --}A
        · --{B
          have i1 : ¬ (r : Int) = 1 := by omega
          have HVL := Lib.hid (fun w => value23 ak ay af am HOK.out.2.2.2 w)
          obtain ⟨vl, hvl⟩ : ∃ z, z = valueF af am := ⟨_, rfl⟩
          rw [← hvl] at HVL
          have HVLL := Lib.hid (show vl.length < 4000 by rw [hvl]; exact valueF_len af am)
          clear hvl
          go_upto_region 12 with fail
          refine wp_region_C (C := fun W => Ext wb W) (by kernel_rfl) ?_
          obtain ⟨wv, hwv⟩ : ∃ z, z = wo.drew := ⟨_, rfl⟩
          rw [← hwv]
          have XE := Lib.hid (show Ext wo wv by rw [hwv]; exact (Ext.refl _).drew)
          have XD := Lib.hid (HD.out.1.ext.trans XE.out)
          clear hwv c0 c1 c2 c3
          refine qC_take (i := 0) (s := some 61) (v := ?v1) rfl rfl (by kernel_rfl) (by kernel_rfl) (by kernel_rfl) (fun _ _ _ h => h) XD.out (by kernel_rfl) ?hy1 ?h1
          case hy1 => intro W hW; obtain ⟨c0, c1, c2, c3⟩ := HCS.out _ hW; simp only at c0 c1 c2 c3; go_simp; exact rfl
          try simp only [Act.put, List.setIfInBounds_toArray, List.set_cons_succ, List.set_cons_zero]
          refine qC_take (i := 1) (s := some 62) (v := ?v2) rfl rfl (by kernel_rfl) (by kernel_rfl) (by kernel_rfl) (fun _ _ _ h => h) XD.out (by kernel_rfl) ?hy2 ?h2
          case hy2 => intro W hW; obtain ⟨c0, c1, c2, c3⟩ := HCS.out _ hW; simp only at c0 c1 c2 c3; go_simp; exact rfl
          try simp only [Act.put, List.setIfInBounds_toArray, List.set_cons_succ, List.set_cons_zero]
          refine qC_take (i := 2) (s := some 63) (v := ?v3) rfl rfl (by kernel_rfl) (by kernel_rfl) (by kernel_rfl) (fun _ _ _ h => h) XD.out (by kernel_rfl) ?hy3 ?h3
          case hy3 => intro W hW; obtain ⟨c0, c1, c2, c3⟩ := HCS.out _ hW; simp only at c0 c1 c2 c3; go_simp; exact rfl
          try simp only [Act.put, List.setIfInBounds_toArray, List.set_cons_succ, List.set_cons_zero]
          refine qC_take (i := 7) (s := some 68) (v := ?v4) rfl rfl (by kernel_rfl) (by kernel_rfl) (by kernel_rfl) (fun _ _ _ h => h) XD.out (by kernel_rfl) ?hy4 ?h4
          case hy4 => intro W hW; obtain ⟨c0, c1, c2, c3⟩ := HCS.out _ hW; simp only at c0 c1 c2 c3; go_simp; exact rfl
          try simp only [Act.put, List.setIfInBounds_toArray, List.set_cons_succ, List.set_cons_zero]
          refine qC_take (i := 8) (s := some 69) (v := ?v5) rfl rfl (by kernel_rfl) (by kernel_rfl) (by kernel_rfl) (fun _ _ _ h => h) XD.out (by kernel_rfl) ?hy5 ?h5
          case hy5 => intro W hW; obtain ⟨c0, c1, c2, c3⟩ := HCS.out _ hW; simp only at c0 c1 c2 c3; go_simp; exact rfl
          try simp only [Act.put, List.setIfInBounds_toArray, List.set_cons_succ, List.set_cons_zero]
          refine qC_take (i := 3) (s := some 64) (v := ?v6) rfl rfl (by kernel_rfl) (by kernel_rfl) (by kernel_rfl) (fun _ _ _ h => h) XD.out (by kernel_rfl) ?hy6 ?h6
          case hy6 => intro W hW; obtain ⟨c0, c1, c2, c3⟩ := HCS.out _ hW; simp only at c0 c1 c2 c3; go_simp; exact rfl
          try simp only [Act.put, List.setIfInBounds_toArray, List.set_cons_succ, List.set_cons_zero]
          refine qC_take (i := 9) (s := some 70) (v := ?v7) rfl rfl (by kernel_rfl) (by kernel_rfl) (by kernel_rfl) (fun _ _ _ h => h) XD.out (by kernel_rfl) ?hy7 ?h7
          case hy7 => intro W hW; obtain ⟨c0, c1, c2, c3⟩ := HCS.out _ hW; simp only at c0 c1 c2 c3; go_simp; exact rfl
          try simp only [Act.put, List.setIfInBounds_toArray, List.set_cons_succ, List.set_cons_zero]
          refine qC_take (i := 4) (s := some 65) (v := ?v8) rfl rfl (by kernel_rfl) (by kernel_rfl) (by kernel_rfl) (fun _ _ _ h => h) XD.out (by kernel_rfl) ?hy8 ?h8
          case hy8 => intro W hW; obtain ⟨c0, c1, c2, c3⟩ := HCS.out _ hW; simp only at c0 c1 c2 c3; go_simp; exact rfl
          try simp only [Act.put, List.setIfInBounds_toArray, List.set_cons_succ, List.set_cons_zero]
          refine qC_take (i := 10) (s := some 71) (v := ?v9) rfl rfl (by kernel_rfl) (by kernel_rfl) (by kernel_rfl) (fun _ _ _ h => h) XD.out (by kernel_rfl) ?hy9 ?h9
          case hy9 => intro W hW; obtain ⟨c0, c1, c2, c3⟩ := HCS.out _ hW; simp only at c0 c1 c2 c3; go_simp; exact rfl
          try simp only [Act.put, List.setIfInBounds_toArray, List.set_cons_succ, List.set_cons_zero]
          refine qC_take (i := 5) (s := some 66) (v := ?v10) rfl rfl (by kernel_rfl) (by kernel_rfl) (by kernel_rfl) (fun _ _ _ h => h) XD.out (by kernel_rfl) ?hy10 ?h10
          case hy10 => intro W hW; obtain ⟨c0, c1, c2, c3⟩ := HCS.out _ hW; simp only at c0 c1 c2 c3; go_simp; exact rfl
          try simp only [Act.put, List.setIfInBounds_toArray, List.set_cons_succ, List.set_cons_zero]
          refine wpAnyC_one 6 (by kernel_rfl) rfl (by kernel_rfl) (fun KK hKK => ?_)
          go_simp
          refine (HKY.out _).mono ?_
          rintro e' w6 ⟨rfl, hx6⟩
          have HX6 := Lib.hid (XE.out.trans hx6)
          have XD6 := Lib.hid (XD.out.trans hx6)
          refine hKK _ _ XD6.out ?_
          clear hKK KK hx6
          try change wpAnyC _ _ _ _ _ _ _ (Act.put _ (some 67) (.string (st ky))) _
          try simp only [Act.put, List.setIfInBounds_toArray, List.set_cons_succ, List.set_cons_zero]
          refine wpAnyC_one 11 (by kernel_rfl) rfl (by kernel_rfl) (fun KK hKK => ?_)
          go_simp
          refine (HVL.out _).mono ?_
          rintro e' w7 ⟨v7, rfl, hx7, hb7⟩
          have HB7 := Lib.hid hb7
          have HX7 := Lib.hid (HX6.out.trans hx7)
          refine hKK _ _ (XD6.out.trans hx7) ?_
          clear hKK KK hx7 hb7
          try change wpAnyC _ _ _ _ _ _ _ (Act.put _ (some 72) (v7)) _
          try simp only [Act.put, List.setIfInBounds_toArray, List.set_cons_succ, List.set_cons_zero]
          have HD8 := Lib.hid (HD.out.1.grow HX7.out)
          refine wpAnyC_one 12 (by kernel_rfl) rfl (by kernel_rfl) (fun KK hKK => ?_)
          go_simp
          refine (HD8.out.put HKE.out (key := ky) (value := vl) (by have := HKL.out.1; omega) (by have := HVLL.out; omega) HB7.out).mono ?_
          rintro e' w8 ⟨rfl, hl8⟩
          have HL8 := Lib.hid hl8
          refine hKK _ _ HL8.out.ext ?_
          clear hKK KK hl8
          refine ⟨by kernel_rfl, ?_⟩
          go_wp2_with fail
          exact ⟨⟨k + 1, by go_num, by omega, Lib.hid ⟨_, HL8.out, putF_keys HD.out.2 vl HKL.out.2⟩⟩, by simp [intOf]; omega⟩
          --}B
      · have hki : (len : Int) ≤ (k : Int) := by omega
        --{C
        go_upto_region 13 with fail
        obtain ⟨n0, hn0⟩ : ∃ z, z = k + 1 := ⟨_, rfl⟩
        rw [← hn0] at HD
        have HN0 := Lib.hid (show n0 ≤ 41 by omega)
        clear hn0 HKE hk hki hkl HRD HLN
        have HVL := Lib.hid (fun w => value23 bk by_ bf bm HB.out.2.2.2 w)
        obtain ⟨vl, hvl⟩ : ∃ z, z = valueF bf bm := ⟨_, rfl⟩
        rw [← hvl] at HVL
        have HVLL := Lib.hid (show vl.length < 4000 by rw [hvl]; exact valueF_len bf bm)
        clear hvl
        have hfr := HD.out.1.inv.fresh (by have := HN0.out; omega) (key := newK) rfl (fun b hb e he h9 => keyL_len _ (HD.out.2 b hb e he) (by rw [h9]; rfl)) (v := vl) (by have := HVLL.out; omega)
        obtain ⟨fb, hfb⟩ : ∃ z, z = freeBytes L := ⟨_, rfl⟩
        rw [← hfb] at hfr
        have HFB := Lib.hid (fun w (hX : Ext wo w) => (HD.out.1.grow hX).freeb)
        simp only [← hfb] at HFB
        obtain ⟨vn, hvn⟩ : ∃ z, z = vl.length := ⟨_, rfl⟩
        rw [← hvn] at hfr
        have HVN := Lib.hid hvn
        have HFR := Lib.hid hfr
        have hv4 : vn < 4000 := by rw [hvn]; exact HVLL.out
        have HNP := Lib.hid HD.out.1.inv.npages
        have hnp32 : np ≤ 32 := HNP.out.2
        have hfb4 : fb ≤ 15360 := by have := HFR.out.2.1; omega
        clear hfr hfb hvn
        refine wp_region_C (C := fun W => Ext wb W) (by kernel_rfl) ?_
        obtain ⟨wv, hwv⟩ : ∃ z, z = wo.drew := ⟨_, rfl⟩
        rw [← hwv]
        have XE := Lib.hid (show Ext wo wv by rw [hwv]; exact (Ext.refl _).drew)
        have XD := Lib.hid (HD.out.1.ext.trans XE.out)
        clear hwv
        refine qC_take (i := 0) (s := some 74) (v := ?v11) rfl rfl (by kernel_rfl) (by kernel_rfl) (by kernel_rfl) (fun _ _ _ h => h) XD.out (by kernel_rfl) ?hy11 ?h11
        case hy11 => intro W hW; have c0 := (HRB.out.ext hW).cell (j := 0) rfl; have c1 := (HRB.out.ext hW).cell (j := 1) rfl; have c2 := (HRB.out.ext hW).cell (j := 2) rfl; have c3 := (HRB.out.ext hW).cell (j := 3) rfl; go_simp; exact rfl
        try simp only [Act.put, List.setIfInBounds_toArray, List.set_cons_succ, List.set_cons_zero]
        refine qC_take (i := 2) (s := some 76) (v := ?v12) rfl rfl (by kernel_rfl) (by kernel_rfl) (by kernel_rfl) (fun _ _ _ h => h) XD.out (by kernel_rfl) ?hy12 ?h12
        case hy12 => intro W hW; have c0 := (HRB.out.ext hW).cell (j := 0) rfl; have c1 := (HRB.out.ext hW).cell (j := 1) rfl; have c2 := (HRB.out.ext hW).cell (j := 2) rfl; have c3 := (HRB.out.ext hW).cell (j := 3) rfl; go_simp; exact rfl
        try simp only [Act.put, List.setIfInBounds_toArray, List.set_cons_succ, List.set_cons_zero]
        refine wpAnyC_one 1 (by kernel_rfl) rfl (by kernel_rfl) (fun KK hKK => ?_)
        go_simp
        refine (HFB.out _ XE.out).mono ?_
        rintro e' w6 ⟨rfl, hx6⟩
        have HX6 := Lib.hid (XE.out.trans hx6)
        have XD6 := Lib.hid (XD.out.trans hx6)
        refine hKK _ _ XD6.out ?_
        clear hKK KK hx6
        try change wpAnyC _ _ _ _ _ _ _ (Act.put _ (some 75) (.int .i64 fb)) _
        try simp only [Act.put, List.setIfInBounds_toArray, List.set_cons_succ, List.set_cons_zero]
        refine wpAnyC_one 3 (by kernel_rfl) rfl (by kernel_rfl) (fun KK hKK => ?_)
        go_simp
        refine (HVL.out _).mono ?_
        rintro e' w7 ⟨v7, rfl, hx7, hb7⟩
        obtain ⟨A7, c7, rfl, -, -⟩ := hb7.slice
        rw [← HVN.out]
        have HX7 := Lib.hid (HX6.out.trans hx7)
        have XD7 := Lib.hid (XD6.out.trans hx7)
        refine hKK _ _ XD7.out ?_
        clear hKK KK hx7 hb7
        try change wpAnyC _ _ _ _ _ _ _ (Act.put _ (some 77) (.slice A7 vn c7)) _
        try simp only [Act.put, List.setIfInBounds_toArray, List.set_cons_succ, List.set_cons_zero]
        refine qC_take (i := 4) (s := some 78) (v := ?v13) rfl rfl (by kernel_rfl) (by kernel_rfl) (by kernel_rfl) (fun _ _ _ h => h) XD7.out (by kernel_rfl) ?hy13 ?h13
        case hy13 => intro W hW; have c0 := (HRB.out.ext hW).cell (j := 0) rfl; have c1 := (HRB.out.ext hW).cell (j := 1) rfl; have c2 := (HRB.out.ext hW).cell (j := 2) rfl; have c3 := (HRB.out.ext hW).cell (j := 3) rfl; go_simp; exact rfl
        try simp only [Act.put, List.setIfInBounds_toArray, List.set_cons_succ, List.set_cons_zero]
        refine qC_take (i := 6) (s := some 11) (v := ?v14) rfl rfl (by kernel_rfl) (by kernel_rfl) (by kernel_rfl) (fun _ _ _ h => h) XD7.out (by kernel_rfl) ?hy14 ?h14
        case hy14 => intro W hW; have c0 := (HRB.out.ext hW).cell (j := 0) rfl; have c1 := (HRB.out.ext hW).cell (j := 1) rfl; have c2 := (HRB.out.ext hW).cell (j := 2) rfl; have c3 := (HRB.out.ext hW).cell (j := 3) rfl; go_simp; exact rfl
        try simp only [Act.put, List.setIfInBounds_toArray, List.set_cons_succ, List.set_cons_zero]
        refine qC_take (i := 5) (s := some 79) (v := ?v15) rfl rfl (by kernel_rfl) (by kernel_rfl) (by kernel_rfl) (fun _ _ _ h => h) XD7.out (by kernel_rfl) ?hy15 ?h15
        case hy15 => intro W hW; have c0 := (HRB.out.ext hW).cell (j := 0) rfl; have c1 := (HRB.out.ext hW).cell (j := 1) rfl; have c2 := (HRB.out.ext hW).cell (j := 2) rfl; have c3 := (HRB.out.ext hW).cell (j := 3) rfl; go_simp; exact rfl
        try simp only [Act.put, List.setIfInBounds_toArray, List.set_cons_succ, List.set_cons_zero]
        refine qC_take (i := 7) (s := some 12) (v := ?v16) rfl rfl (by kernel_rfl) (by kernel_rfl) (by kernel_rfl) (fun _ _ _ h => h) XD7.out (by kernel_rfl) ?hy16 ?h16
        case hy16 => intro W hW; have c0 := (HRB.out.ext hW).cell (j := 0) rfl; have c1 := (HRB.out.ext hW).cell (j := 1) rfl; have c2 := (HRB.out.ext hW).cell (j := 2) rfl; have c3 := (HRB.out.ext hW).cell (j := 3) rfl; go_simp; exact rfl
        try simp only [Act.put, List.setIfInBounds_toArray, List.set_cons_succ, List.set_cons_zero]
        refine ⟨by kernel_rfl, ?_⟩
        have HD7 := Lib.hid (HD.out.1.grow HX7.out)
        have z0 := (HRB.out.ext XD7.out).cell (j := 0) rfl
        have z1 := (HRB.out.ext XD7.out).cell (j := 1) rfl
        have z2 := (HRB.out.ext XD7.out).cell (j := 2) rfl
        have z3 := (HRB.out.ext XD7.out).cell (j := 3) rfl
        have HNE := Lib.hid (show n0 ≤ 500 by have := HN0.out; omega)
        rcases hpf : putF L newK vl with ⟨c, L'⟩
        have HFR2 := Lib.hid HFR.out.2.2
        simp only [hpf] at HFR2
        have HKS := Lib.hid (show KeysIn L' (fun k => k ∈ keyL ∨ k = newK) by
          have := putF_keys (K := fun k => k ∈ keyL ∨ k = newK) (fun b hb e he => .inl (HD.out.2 b hb e he)) vl (key := newK) (.inr rfl)
          rw [hpf] at this
          exact this)
        obtain ⟨cq, hcq⟩ : ∃ z, z = codeV c := ⟨_, rfl⟩
        have HCQ := Lib.hid hcq
        have enew : st newK = ⟨#[110, 101, 119]⟩ := rfl
        have HPU := Lib.hid (fun w v (hX : Ext w7 w) (hb : BS w v vl) => (HD7.out.grow hX).put HNE.out (key := newK) (value := vl) (by simp [newK]) (by have := HVLL.out; omega) hb)
        simp only [hpf, ← hcq, enew] at HPU
        clear hpf hcq enew
        go_upto_region 15 with (first
          | (go_at_call 16; refine (HPU.out _ _ HX8.out HB8.out).mono ?_; rintro e w9 ⟨rfl, hl9⟩; have HL9 := Lib.hid hl9; clear hl9)
          | (go_at_call 14; refine (HVL.out _).mono ?_; rintro e w8 ⟨v8, rfl, hx8, hb8⟩; have HX8 := Lib.hid hx8; have HB8 := Lib.hid hb8; clear hx8 hb8))
        obtain ⟨n9, hn9⟩ : ∃ z, z = 4 + vn := ⟨_, rfl⟩
        have e9 : IntKind.i64.wrap (4 + (vn : Int)) = (n9 : Int) := by rw [IntWalk.i64_in _ (by omega)]; omega
        rw [e9]
        clear e9 z0 z1 z2 z3 HPU HVL HFB
        rw [← hn9] at HFR2
        have em : (fb : Int).tmod 480 = 0 := by have := HFR.out.1; have e := Int.ofNat_tmod fb 480; rw [this] at e; exact e.symm
        have HPG := Lib.hid HL9.out.pages
        have hle : (fb : Int) ≤ 480 * (np : Int) := by have := HFR.out.2.1; omega
        have hp0 : (0 : Int) ≤ np := by omega
        clear hn9
        go_cut [101] (fun v101 wx => v101 = .bool false ∧ wx = w9)
        case first =>
          by_cases hc0 : c = 0
          · obtain rfl : cq = .nilIface := by rw [HCQ.out, hc0]; rfl
            have hn : (n9 : Int) ≤ (fb : Int) := by have := HFR2.out.1.1 hc0; omega
            go_wp2_with (go_at_call 19; refine HPG.out.mono ?_; rintro e wz ⟨rfl, rfl⟩)
            go_meet
            exact ⟨by rw [decide_eq_false (show ¬ 480 * (np : Int) < (fb : Int) by omega)], rfl⟩
          · obtain rfl : cq = errV c := by rw [HCQ.out]; exact codeV_pos hc0
            have hn : ¬ (n9 : Int) ≤ (fb : Int) := fun h9 => hc0 (HFR2.out.1.2 (by omega))
            go_wp2_with (go_at_call 19; refine HPG.out.mono ?_; rintro e wz ⟨rfl, rfl⟩)
            go_meet
            exact ⟨by rw [decide_eq_false (show ¬ 480 * (np : Int) < (fb : Int) by omega), decide_eq_false (show ¬ n9 ≤ fb by omega)]; rfl, rfl⟩
        case rest =>
        obtain ⟨rfl, rfl⟩ := hcut
        generalize wc = w9 at *
        clear em hle
        go_upto_region 17 with fail
        go_cut [120] (fun v120 wx => v120 = .bool false ∧ wx = w9)
        case first =>
          rcases HFR2.out.2 with hc | hc | ⟨hc, hbig⟩
          · obtain rfl : cq = .nilIface := by rw [HCQ.out, hc]; rfl
            go_wp2_with fail
            go_meet
            exact ⟨rfl, rfl⟩
          · obtain rfl : cq = errV 10 := by rw [HCQ.out, hc]; rfl
            have HIG := Lib.hid (fun n w h => is_gen23 10 n w h)
            go_wp2_with (go_at_call 13; refine (HIG.out _ _ (by decide)).mono ?_; rintro e wz ⟨rfl, rfl⟩)
            go_meet
            exact ⟨rfl, rfl⟩
          · obtain rfl : cq = errV 5 := by rw [HCQ.out, hc]; rfl
            have HIG := Lib.hid (fun n w h => is_gen23 5 n w h)
            have hbig2 : ¬ (n9 : Int) ≤ 480 * (np : Int) := by omega
            go_wp2_with (first
              | (go_at_call 13; refine (HIG.out _ _ (by decide)).mono ?_; rintro e wz ⟨rfl, rfl⟩)
              | (go_at_call 19; refine HPG.out.mono ?_; rintro e wz ⟨rfl, rfl⟩))
            go_meet
            exact ⟨by rw [decide_eq_false (show ¬ (n9 : Int) ≤ 480 * (np : Int) by omega)], rfl⟩
        case rest =>
        obtain ⟨rfl, rfl⟩ := hcut
        generalize wc = w9 at *
        --{D
        clear HFR2 HCQ HPG HFR HVN HVLL
        have HKY := Lib.hid HL9.out.keys
        obtain ⟨ks, hks⟩ : ∃ z, z = keysF L' := ⟨_, rfl⟩
        have hfew := keysF_few HKS.out HL9.out.inv
        rw [← hks] at HKY hfew
        obtain ⟨nk, hnk⟩ : ∃ z, z = ks.length := ⟨_, rfl⟩
        rw [← hnk] at hfew
        have HK := Lib.hid (And.intro hks hnk)
        clear hks hnk
        go_wp2_with (go_at_call 17; refine HKY.out.mono ?_; rintro e wA ⟨vA, rfl, hxA, hkA⟩; obtain ⟨AA, cA, rfl⟩ := hkA.slice; rw [← HK.out.2] at hkA; rw [← HK.out.2]; have HLK := Lib.hid (LK.of HL9.out hxA hkA); have HKA := Lib.hid hkA; clear hxA hkA)
        go_loopw [124] (fun i wr => ∃ (j : Nat), i = .int .i64 j ∧ j ≤ nk ∧ Hid (∃ Lj, LK wb wA wr d l np (n0 + 1 + j) (.slice AA nk cA) Lj ∧ ∀ k, valL Lj k = if k ∈ ks.take j then none else valL L' k)) (fun i _ => nk - (intOf i).toNat)
        case atStart => exact ⟨0, rfl, by omega, Lib.hid ⟨L', HLK.out, fun k => by simp⟩⟩
        case round =>
          obtain ⟨j, rfl, hj, hR⟩ := hrel
          obtain ⟨Lj, hR⟩ := hR.out
          have HR := Lib.hid hR
          clear hR
          generalize wr = wo2 at *
          by_cases hjn : j < nk
          · have hji : (j : Int) < (nk : Int) := by omega
            obtain ⟨key, hkey⟩ : ∃ key, ks[j]? = some key := ⟨_, List.getElem?_eq_getElem (by rw [← HK.out.2]; exact hjn)⟩
            obtain ⟨g9, c9, hee, k0⟩ := HKA.out.get HK.out.2 hkey
            cases hee
            have d0 : wo2.cell? ⟨g9, j, none⟩ = some (.string (st key)) := (World.cell?_of_block (HR.out.1.keep g9 rfl).1).trans k0
            have HDE := Lib.hid (HR.out.1.delete (by have := HN0.out; omega) (key := key))
            have hnd : ks.Nodup := by rw [HK.out.1]; exact keysF_nodup L'
            have hjk : j < ks.length := by rw [← HK.out.2]; exact hjn
            have hkj : ks[j] = key := by rw [List.getElem?_eq_getElem hjk] at hkey; exact Option.some.inj hkey
            have hnot : key ∉ ks.take j := fun h9 => by
              obtain ⟨i9, hi9, e9⟩ := List.getElem_of_mem h9
              rw [List.getElem_take] at e9
              have hi9' : i9 < j := by rw [List.length_take] at hi9; omega
              have := (List.pairwise_iff_getElem.1 hnd) i9 j (by omega) hjk hi9'
              exact this (by rw [e9, hkj])
            obtain ⟨vv, hvv⟩ := (HL9.out.inv.keys key).1 (by rw [← HK.out.1]; exact List.mem_of_getElem? hkey)
            have hvj : valL Lj key = some vv := by rw [HR.out.2 key, if_neg hnot]; exact hvv
            rcases hdl : deleteF Lj key with ⟨c, L2⟩
            simp only [hdl] at HDE
            obtain ⟨hc0, hv2⟩ : c = 0 ∧ ∀ k', valL L2 k' = if k' = key then none else valL Lj k' := by
              rcases HR.out.1.inv.delete (by have := HN0.out; omega) hdl with ⟨h0, -, -⟩ | ⟨v9, -, h2, -, h3⟩
              · rw [hvj] at h0; cases h0
              · exact ⟨h2, h3⟩
            rw [hc0, codeV_zero] at HDE
            have HV2 := Lib.hid (show ∀ k, valL L2 k = if k ∈ ks.take (j + 1) then none else valL L' k from fun k => by
              have e9 : ks.take (j + 1) = ks.take j ++ [key] := by rw [List.take_add_one, hkey]; rfl
              rw [hv2 k, e9, HR.out.2 k]
              by_cases hk9 : k = key
              · rw [if_pos hk9, if_pos (by rw [hk9]; simp)]
              · rw [if_neg hk9]
                by_cases hk8 : k ∈ ks.take j
                · rw [if_pos hk8, if_pos (List.mem_append_left _ hk8)]
                · rw [if_neg hk8, if_neg (fun h9 => by rcases List.mem_append.1 h9 with h7 | h7; exact hk8 h7; rw [List.mem_singleton] at h7; exact hk9 h7)])
            clear hkey k0 hnd hkj hnot hvv hvj hdl hc0 hv2
            go_wp2_with (go_at_call 12; refine HDE.out.mono ?_; rintro e w13 ⟨rfl, hl13⟩; have HL13 := Lib.hid hl13; clear hl13)
            exact ⟨⟨j + 1, by go_num, by omega, Lib.hid ⟨L2, HL13.out, HV2.out⟩⟩, by simp [intOf]; omega⟩
          · have hji : (nk : Int) ≤ (j : Int) := by omega
            have hfin := HR.out.1.inv.free_none (by have := HN0.out; omega) (fun k => by
              rw [HR.out.2 k]
              by_cases hk8 : k ∈ ks.take j
              · rw [if_pos hk8]
              · rw [if_neg hk8]
                rw [List.take_of_length_le (by rw [← HK.out.2]; omega)] at hk8
                cases hvk : valL L' k with
                | none => rfl
                | some v9 => exact absurd ((HL9.out.inv.keys k).2 ⟨v9, hvk⟩) (by rw [← HK.out.1]; exact hk8))
            have HFIN := Lib.hid hfin
            have HLU := Lib.hid HR.out.1.lu
            have HKZ := Lib.hid HLU.out.keys
            rw [hfin.2] at HKZ
            have HFZ := Lib.hid (fun w (hX : Ext wo2 w) => (HLU.out.grow hX).freeb)
            simp only [hfin.1] at HFZ
            have HPZ := Lib.hid (fun w (hX : Ext wo2 w) => (HLU.out.grow hX).pages)
            have ecast : ((480 * np : Nat) : Int) = 480 * (np : Int) := by omega
            simp only [ecast] at HFZ
            clear hfin ecast
            go_wp2_with (first
              | (go_at_call 19; refine (HPZ.out _ HX15.out).mono ?_; rintro e w16 ⟨rfl, rfl⟩)
              | (go_at_call 15; refine (HFZ.out _ HX14.out).mono ?_; rintro e w15 ⟨rfl, hx15⟩; have HX15 := Lib.hid (HX14.out.trans hx15); clear hx15)
              | (go_at_call 17; refine HKZ.out.mono ?_; rintro e w14 ⟨v14, rfl, hx14, hk14⟩; obtain ⟨A14, c14, rfl⟩ := hk14.slice; have HX14 := Lib.hid hx14; clear hx14 hk14))
            go_ret
            exact ⟨rfl, HXB.out.trans (HLU.out.ext.trans HX15.out)⟩
        --}D
        --}C
  · have hli : (40 : Int) < (len : Int) := by omega
    go_enter Try.func4, Try.ntmps4
    go_upto_region 2 with (go_at_call 8; refine (HMD.out _).mono ?_; rintro e w1 ⟨d, S1, G1, rfl, hx1, hd1, hs1⟩; have HX1 := Lib.hid (Ext.trans (((Ext.refl W).alloc _).alloc _) hx1); clear hx1 hd1 hs1)
    go_upto_region 3 with (go_at_call 9; refine (HAW.out _).mono ?_; rintro e w2 ⟨rfl, hx2⟩; have HX2 := Lib.hid hx2; clear hx2)
    go_wp2_with (go_at_call 9; refine (HAW.out _).mono ?_; rintro e w3 ⟨rfl, hx3⟩; have HX3 := Lib.hid hx3; clear hx3)
    go_ret
    exact ⟨rfl, (HX1.out.trans HX2.out).trans HX3.out⟩
end Go.Proofs.Ytepigkjgjlibcaa
