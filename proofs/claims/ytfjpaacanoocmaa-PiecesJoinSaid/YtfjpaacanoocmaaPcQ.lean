/- Chapter 20: the law PiecesDrop, walked. -/
import Derived.Test.YtfjpaacanoocmaaPcP
namespace Go.Proofs.Ytfjpaacanoocmaa
open Go.RowKit Go.Deep Go.Sort

theorem drop_out {w : World} {B b l len : Nat} {A : Nat → Prop} {tag : ByteArray} {D : Nat → Option ByteArray} (h : BodyAt w B A b l tag len D) (i : Int) (hi : i < 0 ∨ (npc len : Int) ≤ i) :
    Calls Try.prog 13 #[.pointer (some ⟨b, 0, none⟩), .int .i64 i] w fun e w' => e = .returned (.bool false) ∧ w = w' := by
  go_enter Try.func13, Try.ntmps13
  go_wp2_with (go_at_call 17; refine (has_out h i hi).mono ?_; rintro e w' ⟨rfl, rfl⟩)
  go_ret
  exact ⟨rfl, rfl⟩
/-- '[]byte(s)' behind a guard that is met -/
theorem wpList_bytes_of_string_g {P : Program} (w : World) {ops : Array Oper} {rest : List Oper} {o : Oper} {a : Act} {Q : Exit → Act → World → Prop}
    (src dst e : TypeId) (x : Operand) (ho : o.op = Op.convert src dst x) (hw : Region.wanted o (yielded ops a.tmps) = true) (hs : P.underlying src = some .string) (hd : P.underlying dst = some (.slice e)) (he : P.underlying e = some (.int .u8))
    (s : ByteArray) (hx : a.eval x = .string s)
    (hK : ∀ w' cap, Ext w w' → RowB w' w.heap.size e (s.data.toList.map fun b => Value.int .u8 b.toNat) → s.size ≤ cap → wpList P ops Q rest (a.put o.dst (.slice (some ⟨w.heap.size, 0, none⟩) s.size cap)) w') :
    wpList P ops Q (o :: rest) a w := by
  refine BigFrame.wpList_want hw fun K hK' => ?_
  have hrun := run_bytes_of_string (P := P) w src dst e s hs hd he
  unfold Oper.wp
  simp only [execOp, ho, hx, Sem.run_bind, hrun, Result.andThen]
  refine hK' _ _ (hK _ _ ((Ext.refl w).drew.trans (Ext.alloc (Ext.refl _) _)) ?_ ?_)
  · refine ⟨bytesRow s (grownCap w s.size 0 e), ((bytesRow s (grownCap w s.size 0 e)).size, (bytesRow s (grownCap w s.size 0 e)).size + 1), List.replicate (grownCap w s.size 0 e - s.size) (.int .u8 0), ?_, ?_, ?_⟩
    · show (w.heap.push _)[w.heap.size]? = _
      simp
    · intro j h1 _; exact h1
    · unfold bytesRow
      simp
  · exact grownCap_ge w s.size 0 e
theorem Ext.below' {B : Nat} {w w' : World} (h : Ext w w') (hb : B ≤ w.heap.size) : Below B w w' := Below.mono h hb
theorem BytesOwn.shape {w : World} {B : Nat} {v : Value} {xs : List Int} (h : BytesOwn w B v xs) : ∃ A cap, v = .slice A xs.length cap := by
  rcases h.2 with ⟨rfl, e⟩ | ⟨g, cap, cur, rfl, hb, hh, hl, hm, hc, ht⟩
  · exact ⟨none, 0, by rw [e]⟩
  · exact ⟨_, cap, rfl⟩
theorem BytesOwn.cell {w : World} {B : Nat} {A : Option Addr} {n cap : Nat} {xs : List Int} (h : BytesOwn w B (.slice A n cap) xs) (i : Nat) (hi : i < xs.length) :
    ∃ g, A = some ⟨g, 0, none⟩ ∧ xs.length ≤ cap ∧ B ≤ g ∧ w.cell? ⟨g, i, none⟩ = some (.int .u8 ((xs[i]? ).getD 0)) := by
  rcases h.2 with ⟨_, e⟩ | ⟨g, cap', cur, e, hb, hh, hl, hm, hc, ht⟩
  · omega
  · simp only [Value.slice.injEq] at e
    obtain ⟨rfl, rfl, rfl⟩ := e
    refine ⟨g, rfl, hl, hb, ?_⟩
    rw [cell_of_row w g i cur _ _ hh]
    have h1 : (cur.toList.take (xs.length * 1))[i]? = some (Value.int .u8 ((xs[i]?).getD 0)) := by
      rw [ht, List.getElem?_map, List.getElem?_eq_getElem hi]
      rfl
    rw [List.getElem?_take] at h1
    simpa [hi] using h1
theorem hD_all (t : ByteArray) (i : Nat) : hD t 255 i = some (pcS t i) := by
  unfold hD
  have : ∀ r, r < 8 → 255 / 2 ^ r % 2 = 1 := by decide
  rw [if_pos (this _ (Nat.mod_lt _ (by omega)))]
theorem mk_bytes {w' : World} {e : TypeId} {g : Nat} {s : ByteArray} (h : RowB w' g e (s.data.toList.map fun b => Value.int .u8 b.toNat)) : BytesAt w' g s := bytes_of_row h
def dp (t p : ByteArray) (k : Nat) : Nat → Option ByteArray := upd (upd (upd (hD t 255) k none) k none) k (some p)
theorem dp_at (t p : ByteArray) (k i : Nat) : dp t p k i = some (if i = k then p else pcS t i) := by
  unfold dp upd
  by_cases h : i = k
  · rw [if_pos h, if_pos h]
  · simp only [if_neg h]
    rw [hD_all]
theorem dp_whole (t p : ByteArray) (k m : Nat) : decide (∀ i, i < npc m → (dp t p k i).isSome = true) = true := by
  rw [decide_eq_true_iff]
  intro i _
  rw [dp_at]
  rfl
theorem dp_ok {t p : ByteArray} {k m : Nat} (hts : t.size = m) (hp : p.size = pto k m - k * 256) : PcOk m (dp t p k) := by
  intro i hi s hs
  rw [dp_at] at hs
  obtain rfl := Option.some.inj hs
  by_cases h : i = k
  · rw [if_pos h, h, hp]
  · rw [if_neg h, pcS_size t i (by unfold npc at hi; omega), hts]
theorem dp_gaps (t p : ByteArray) (k m : Nat) : gaps (dp t p k) (pcs 0 m) = [] := by
  unfold gaps
  rw [List.filter_eq_nil_iff]
  intro i _
  rw [dp_at]
  simp
theorem rd_byte {t o p : ByteArray} {k m : Nat} (hts : t.size = m) (hos : o.size = m) (ht : t = txS m 9) (ho : o = txS m 10) (hp : pcS o k = p) (j : Nat) (hj : j < m) :
    ((rdL (dp t p k) 0 m)[j]?).getD 0 = (if j / 256 = k then txB 10 j else txB 9 j) ∧ ∀ h : j < t.size, ((t[j]'h).toNat : Int) = txB 9 j := by
  have h9 : (byteIs t).getD j 0 = txB 9 j := by rw [ht, txS_bytes]; simp [hj]
  have h10 : (byteIs o).getD j 0 = txB 10 j := by rw [ho, txS_bytes]; simp [hj]
  refine ⟨?_, fun h => by rw [← byteIs_getD h, h9]⟩
  have : ((rdL (dp t p k) 0 m)[j]?).getD 0 = (byteIs ((dp t p k (j / 256)).getD ⟨#[]⟩)).getD (j % 256) 0 := by
    unfold rdL
    simp [hj]
  rw [this, dp_at, Option.getD_some]
  by_cases e : j / 256 = k
  · rw [if_pos e, if_pos e, ← hp, ← e, pcS_byte o j (by omega), h10]
  · rw [if_neg e, if_neg e, pcS_byte t j (by omega), h9]
set_option maxRecDepth 100000 in
set_option maxHeartbeats 4000000 in
theorem drop_law (n i : Nat) (hn : n < 65536) (hi : i < 256) (w : World) :
    Calls Try.prog 3 #[.int .u16 n, .int .u8 i] w fun e w' => e = .returned (.bool true) ∧ Ext w w' := by
  obtain ⟨m, hm⟩ : ∃ m, n % 1300 = m := ⟨_, rfl⟩
  have hm2 : m < 1300 := by omega
  have HT9 := Lib.hid (fun W => text_any n 9 hn W)
  have HT10 := Lib.hid (fun W => text_any n 10 hn W)
  rw [hm] at HT9 HT10
  obtain ⟨t, ht⟩ : ∃ t, t = txS m 9 := ⟨_, rfl⟩
  obtain ⟨o, ho⟩ : ∃ o, o = txS m 10 := ⟨_, rfl⟩
  have hts : t.size = m := by rw [ht, txS_size]
  have hos : o.size = m := by rw [ho, txS_size]
  have HTD := Lib.hid ht
  have HOD := Lib.hid ho
  rw [← ht] at HT9
  rw [← ho] at HT10
  have hall : decide (∀ i, i < npc t.size → (hD t 255 i).isSome = true) = true := by
    rw [decide_eq_true_iff]
    intro i _
    rw [hD_all]
    rfl
  have HALL := Lib.hid hall
  have HTS := Lib.hid hts
  have HOS := Lib.hid hos
  clear hm ht ho hos hall
  have hmi : (i : Int) < 256 := by omega
  rcases Nat.eq_zero_or_pos m with h0 | h0
  · subst h0
    go_enter Try.func3, Try.ntmps3
    go_wp2_with (first
      | (go_at_call 9; refine (awake_any _).mono ?_; rintro e w0 ⟨rfl, hx0⟩)
      | (go_at_call 10; refine (HT9.out _).mono ?_; rintro e w1 ⟨rfl, hx1⟩)
      | (go_at_call 11; refine (held_ok _ t 255 (by have := HTS.out; omega) (by omega) _).mono ?_; rintro e w2 ⟨b, l, d, s, rfl, hx2, hB2, hA2, hN2⟩)
      | (go_at_call 12; go_loud (refine (whole_any (hB2.ext ((Ext.refl w2).alloc _)) (by have := HTS.out; omega)).mono ?_; rw [HALL.out]; rintro e w3 ⟨rfl, rfl⟩))
      | (go_at_call 13; go_loud (refine (drop_out (hB2.ext ((Ext.refl w2).alloc _)) 0 (by have := HTS.out; unfold npc; omega)).mono ?_; rintro e w4 ⟨rfl, rfl⟩)))
    go_ret
    exact ⟨rfl, hx0.trans (hx1.trans (hx2.trans ((Ext.refl w2).alloc _)))⟩
  · obtain ⟨k, hk⟩ : ∃ k, k = i % npc m := ⟨_, rfl⟩
    have hnp : 0 < npc m := by unfold npc; omega
    have hkn : k < npc m := by rw [hk]; exact Nat.mod_lt _ hnp
    have hnp2 : npc m ≤ 256 := by unfold npc; omega
    have e1 : ((m : Int) + 256 - 1) / 256 = (npc m : Int) := by unfold npc; omega
    have e2 : (i : Int) % (npc m : Int) = (k : Int) := by rw [hk]; simp
    have hk2 : k * 256 < m := by unfold npc at hkn; omega
    obtain ⟨p, hp⟩ : ∃ p, pcS o k = p := ⟨_, rfl⟩
    have hpz : p.size = pto k m - k * 256 := by rw [← hp, pcS_size o k (by have := HOS.out; omega), HOS.out]
    have hne : ¬ pcS t k = p := by
      rw [← hp]
      intro e
      have h1 := pcS_byte t (k * 256) (by have := HTS.out; omega)
      have h2 := pcS_byte o (k * 256) (by have := HOS.out; omega)
      rw [show k * 256 / 256 = k by omega] at h1 h2
      rw [e, h2, HTD.out, HOD.out, txS_bytes, txS_bytes] at h1
      simp [hk2] at h1
      exact tx_ne _ h1.symm
    have HP := Lib.hid hp
    have HPZ := Lib.hid hpz
    have HNE := Lib.hid hne
    have HK2 := Lib.hid hk2
    have hq : ((m : Int) == 0) = false := by simp; omega
    have hm64 : m ≤ 65536 := by omega
    have hD0 : (hD t 255 k).isSome = true := by rw [hD_all]; rfl
    have HD0 := Lib.hid hD0
    have HD1 := Lib.hid (show (upd (hD t 255) k none k).isSome = false by unfold upd; rw [if_pos rfl]; rfl)
    have hh2 : upd (upd (hD t 255) k none) k none k = none := by unfold upd; rw [if_pos rfl]
    have HH2 := Lib.hid hh2
    have HH := Lib.hid (show (upd (upd (hD t 255) k none) k none k).isSome = false by rw [hh2]; rfl)
    clear hh2
    have HW1 := Lib.hid (show decide (∀ i, i < npc m → (upd (upd (hD t 255) k none) k none i).isSome = true) = false by
      rw [decide_eq_false_iff_not]
      intro h
      have := h k hkn
      unfold upd at this
      rw [if_pos rfl] at this
      cases this)
    have HW2 := Lib.hid (dp_whole t p k m)
    have HOK := Lib.hid (dp_ok (t := t) (p := p) (k := k) HTS.out hpz)
    have HG := Lib.hid (dp_gaps t p k m)
    rw [HTS.out] at HALL
    clear hk hp hpz hne hk2 hD0
    go_enter Try.func3, Try.ntmps3
    go_upto_region 10 with (first
      | (go_at_call 9; refine (awake_any _).mono ?_; rintro e w0 ⟨rfl, hx0⟩)
      | (go_at_call 10; refine (HT9.out _).mono ?_; rintro e w1 ⟨rfl, hx1⟩)
      | (go_at_call 11; refine (held_ok _ t 255 (by have := HTS.out; omega) (by omega) _).mono ?_; rw [HTS.out]; rintro e w2 ⟨b, l, d, s, rfl, hx2, hB2, hA2, hN2⟩)
      | (go_at_call 12; go_loud (refine (whole_any (hB2.ext ((Ext.refl w2).alloc _)) hm64).mono ?_; rw [HALL.out]; rintro e w3 ⟨rfl, rfl⟩)))
    have hBa := hB2.ext ((Ext.refl w2).alloc (.cells #[.string ⟨#[116]⟩, .int .i64 m, .slice (some ⟨d, 0, none⟩) (npc m) (npc m), .slice (some ⟨s, 0, none⟩) (npc m) (npc m)] 29))
    have hXa : Ext w (w2.alloc (.cells #[.string ⟨#[116]⟩, .int .i64 m, .slice (some ⟨d, 0, none⟩) (npc m) (npc m), .slice (some ⟨s, 0, none⟩) (npc m) (npc m)] 29)) := hx0.trans (hx1.trans (hx2.trans ((Ext.refl w2).alloc _)))
    have hB1z : w.heap.size ≤ w1.heap.size := (hx0.trans hx1).size
    clear hB2 hA2 hN2
    go_upto_region 13 with (first
      | (go_at_call 12; refine (whole_any hB9 hm64).mono ?_; rw [show decide (∀ i, i < npc m → (upd (upd (upd (hD t 255) k none) k none) k (some p) i).isSome = true) = true from HW2.out]; rintro e w' ⟨rfl, rfl⟩)
      | (go_at_call 16; refine (put_ok hB8 hm64 k hkn _ _ p (bytes_of_row hr8) HPZ.out HH2.out (fun _ h => h.elim)).mono ?_; rintro e w9 ⟨rfl, hb9, hk9, hB9⟩)
      | (refine wpList_bytes_of_string_g _ 9 38 5 (.tmp 79) rfl (by kernel_rfl) Try.underlying9 Try.underlying38 Try.underlying5 p rfl ?_; intro w8 cap8 hx8 hr8 hc8; have hB8 := hB7.ext hx8)
      | (go_at_call 12; refine (whole_any hB7 hm64).mono ?_; rw [HW1.out]; rintro e w' ⟨rfl, rfl⟩)
      | (go_at_call 17; refine (has_in hB7 hm64 k hkn).mono ?_; rw [show (upd (upd (hD t 255) k none) k none k).isSome = false from HH.out]; rintro e w' ⟨rfl, rfl⟩)
      | (go_at_call 13; refine (drop_in hB6 hm64 k hkn).mono ?_; rw [HD1.out]; rintro e w7 ⟨rfl, hb7, hk7, hB7⟩)
      | (go_at_call 13; refine (drop_in hB5 hm64 k hkn).mono ?_; rw [HD0.out]; rintro e w6 ⟨rfl, hb6, hk6, hB6⟩)
      | (go_at_call 15; refine (is_err 20 _ (by decide)).mono ?_; rintro e w' ⟨rfl, rfl⟩)
      | (go_at_call 16; refine (put_mixed hB5 hm64 k hkn _ _ p (pcS t k) (bytes_of_row hr5) HPZ.out (hD_all t k) HNE.out).mono ?_; rintro e w' ⟨rfl, rfl⟩)
      | (refine wpList_bytes_of_string _ rfl 9 38 5 _ rfl Try.underlying9 Try.underlying38 Try.underlying5 p rfl ?_; intro w5 cap5 hx5 hr5 hc5; have hB5 := hBa.ext (hx3.trans (hx4.trans hx5)))
      | (go_at_call 14; refine (piece_any o k (by have := HOS.out; omega) (by have := HOS.out; have := HK2.out; omega) _).mono ?_; rw [HP.out]; rintro e w4 ⟨rfl, hx4⟩)
      | (go_at_call 10; refine (HT10.out _).mono ?_; rintro e w3 ⟨rfl, hx3⟩))
    have hX9 : Ext w w9 := Below.trans (Below.trans (Below.trans (hXa.trans (hx3.trans (hx4.trans hx5))) (Below.mono hb6 hB1z)) (Below.mono hb7 hB1z)) (Below.trans (Ext.below' hx8 (by have := hXa.size; have := hx3.size; have := hx4.size; have := hx5.size; have := hb6.size; have := hb7.size; omega)) (Below.mono hb9 hB1z))
    clear hb6 hb7 hb9 hk6 hk7 hk9 hB5 hB6 hB7 hB8 hr5 hr8 hx3 hx4 hx5 hx8 hBa hXa hc5 hc8
    go_upto_region 16 with (go_at_call 18; refine (read_ok hB9 HOK.out 0 m hm64 (by omega) (by omega) HG.out).mono ?_; rintro e w10 ⟨v, rfl, hx10, ho10⟩; obtain ⟨A, cap, rfl⟩ := ho10.shape; rw [rdL_length, Nat.sub_zero])
    have hXt := hX9.trans hx10
    have HR := Lib.hid (rd_byte (p := p) (k := k) HTS.out HOS.out HTD.out HOD.out HP.out)
    have HB9 := Lib.hid hB9
    clear hB9 hX9 hx10
    go_wp2_with fail
    go_loopw [108] (fun i wr => ∃ j : Nat, j ≤ m ∧ i = .int .i64 j ∧ Ext w10 wr) (fun i _ => m - (intOf i).toNat)
    case atStart => exact ⟨0, by omega, rfl, Ext.refl _⟩
    case round =>
      obtain ⟨j, hj, rfl, hX⟩ := hrel
      by_cases hlt : j < m
      · obtain ⟨g, rfl, hcp, -, hc⟩ := ho10.cell j (by rw [rdL_length]; omega)
        rw [rdL_length] at hcp
        obtain ⟨hr1, hr2⟩ := HR.out j hlt
        have hjt : j < t.size := by rw [HTS.out]; exact hlt
        change w10.cell? ⟨g, j, none⟩ = some (.int .u8 (((rdL (dp t p k) 0 m)[j]?).getD 0)) at hc
        rw [hr1] at hc
        have hcw : ∀ q, (wr.drewN q).cell? ⟨g, j, none⟩ = some (.int .u8 (if j / 256 = k then txB 10 j else txB 9 j)) := fun q => (hX.drewN q).cell hc
        obtain ⟨q, hq⟩ : ∃ q, q = j / 256 := ⟨_, rfl⟩
        have e3 : (j : Int) / 256 = (q : Int) := by omega
        rw [← hq] at hcw
        have hjc : j < cap := by omega
        have hji : (j : Int) < (m : Int) := by omega
        have hj64 : (j : Int) < 1300 := by omega
        obtain ⟨y, hy⟩ : ∃ y : Int, y = txB 9 j := ⟨_, rfl⟩
        have hty : ((t[j]'hjt).toNat : Int) = y := by rw [hy, ← hr2 hjt]
        by_cases hqk : q = k
        · obtain ⟨x, hx⟩ : ∃ x : Int, x = txB 10 j := ⟨_, rfl⟩
          rw [if_pos hqk, ← hx] at hcw
          have q1 : (x != y) = true := by rw [bne_iff_ne, hx, hy]; exact fun e => tx_ne j e.symm
          have q2 : ((q : Int) == (k : Int)) = true := by simp [hqk]
          clear hqk hq hy hx hc hr1 hr2 hcp
          go_upto_region 19 with fail
          refine wp_region_quiet_lit (by kernel_rfl) (by kernel_rfl) ?_
          repeat (go_big_quiet_step (fail))
          refine wpQuiet_nil ?_
          rintro _ ⟨nq, rfl⟩
          go_wp2_with fail
          go_roundw
          case rel => exact ⟨j + 1, by omega, by go_num, hX.drewN _⟩
          case measure => simp [intOf]; omega
        · rw [if_neg hqk, ← hy] at hcw
          have q1 : (y != y) = false := by simp
          have q2 : ((q : Int) == (k : Int)) = false := by rw [beq_eq_false_iff_ne]; omega
          clear hqk hq hy hc hr1 hr2 hcp
          go_upto_region 19 with fail
          refine wp_region_quiet_lit (by kernel_rfl) (by kernel_rfl) ?_
          repeat (go_big_quiet_step (fail))
          refine wpQuiet_nil ?_
          rintro _ ⟨nq, rfl⟩
          go_wp2_with fail
          go_roundw
          case rel => exact ⟨j + 1, by omega, by go_num, hX.drewN _⟩
          case measure => simp [intOf]; omega
      · obtain rfl : j = m := by omega
        go_wp2_with fail
        go_ret
        exact ⟨rfl, hXt.trans hX⟩
end Go.Proofs.Ytfjpaacanoocmaa
