/- Chapter 20: Read. -/
import Derived.Test.YtfgjbbpkkbohhaaGreatPcI
namespace Go.Proofs.YtfgjbbpkkbohhaaGreat
open Go.RowKit Go.Deep Go.Sort

/-- each piece that is there has its size -/
def PcOk (len : Nat) (D : Nat → Option ByteArray) : Prop := ∀ i, i < npc len → ∀ s, D i = some s → s.size = pto i len - i * 256
/-- the bytes of a range -/
def rdL (D : Nat → Option ByteArray) (f t : Nat) : List Int := (List.range' f (t - f)).map fun j => (byteIs ((D (j / 256)).getD ⟨#[]⟩)).getD (j % 256) 0
theorem rdL_length (D : Nat → Option ByteArray) (f t : Nat) : (rdL D f t).length = t - f := by simp [rdL]
def segL (s : ByteArray) (lo n : Nat) : List Int := (List.range n).map fun j => (byteIs s).getD (lo + j) 0
theorem segL_length (s : ByteArray) (lo n : Nat) : (segL s lo n).length = n := by simp [segL]
theorem rdL_step {D : Nat → Option ByteArray} {f k m q : Nat} {s : ByteArray} (h1 : q * 256 ≤ k) (h2 : k ≤ m) (h3 : m ≤ (q + 1) * 256) (hf : f ≤ k) (hD : D q = some s) : rdL D f m = rdL D f k ++ segL s (k - q * 256) (m - k) := by
  unfold rdL segL
  rw [show m - f = (k - f) + (m - k) by omega, ← List.range'_append_1, List.map_append]
  congr 1
  rw [show f + (k - f) = k by omega]
  apply List.ext_getElem
  · simp
  · intro j h4 h5
    simp only [List.length_map, List.length_range', List.length_range] at h4 h5
    simp only [List.getElem_map, List.getElem_range', List.getElem_range, Nat.one_mul]
    rw [show (k + j) / 256 = q by omega, hD, Option.getD_some, show (k + j) % 256 = k - q * 256 + j by omega]
theorem gaps_nil {D : Nat → Option ByteArray} {l : List Nat} (h : gaps D l = []) {i : Nat} (hi : i ∈ l) : ∃ s, D i = some s := by
  have := List.filter_eq_nil_iff.1 h i hi
  cases hD : D i with
  | none => rw [hD] at this; simp at this
  | some s => exact ⟨s, rfl⟩
theorem pcs_in {f t k : Nat} (h1 : f ≤ k) (h2 : k < t) : k / 256 ∈ pcs f t := by
  unfold pcs
  rw [if_pos (by omega), List.mem_range'_1]
  omega
theorem own_more {w : World} {B B' : Nat} {e : TypeId} {size n : Nat} {v : Value} {xs : List Value} (h : w.ownsRow B e size v n xs) (hb : B' ≤ B) : w.ownsRow B' e size v n xs := by
  refine ⟨h.1, ?_⟩
  rcases h.2 with e | ⟨g, cap, cur, rfl, hg, r⟩
  · exact .inl e
  · exact .inr ⟨g, cap, cur, rfl, by omega, r⟩
def BytesOwn (w : World) (B : Nat) (v : Value) (xs : List Int) : Prop := w.ownsRow B 5 1 v xs.length (xs.map (Value.int .u8))
theorem u8_info : (Tryz.prog.info? 5).map (fun i => (i.zero, i.size, i.bytes)) = some (some (.int .u8 0), 1, 1) := by kernel_rfl
set_option maxRecDepth 100000 in
set_option maxHeartbeats 4000000 in
theorem read_ok {w : World} {B b l len : Nat} {A : Nat → Prop} {tag : ByteArray} {D : Nat → Option ByteArray} (h : BodyAt w B A b l tag len D) (hok : PcOk len D) (f t : Nat) (hl : len ≤ 65536) (hft : f ≤ t) (htl : t ≤ len) (hg : gaps D (pcs f t) = []) :
    Calls Tryz.prog 74 #[.pointer (some ⟨b, 0, none⟩), rngV f t] w fun e w' => ∃ v, e = .returned (.tuple #[v, .nilIface]) ∧ Ext w w' ∧ BytesOwn w' w.heap.size v (rdL D f t) := by
  obtain ⟨i0, hi0, hz0, hz1, hz2⟩ := info_parts u8_info
  have c1 := h.c1
  have hb2 : (w.alloc (.cells #[.int .i64 f, .int .i64 t] 48)).cell? ⟨b, 1, none⟩ = some (.int .i64 len) := ((Ext.refl w).alloc _).cell c1
  have hb1 : (w.alloc (.cells #[.int .i64 f, .int .i64 t] 48)).drew.cell? ⟨b, 1, none⟩ = some (.int .i64 len) := (((Ext.refl w).alloc _).drew).cell c1
  have q1 : decide ((f : Int) < 0) = false := by simp
  have q2 : decide (t < f) = false := by simp; omega
  have q3 : decide (len < t) = false := by simp; omega
  have ha : Ext w (w.alloc (.cells #[.int .i64 f, .int .i64 t] 48)) := (Ext.refl w).alloc _
  have HM := Lib.hid (fun W (hW : BodyAt W B A b l tag len D) => missing_any hW f t f t hl (by omega) (by omega) (by omega))
  have HB := Lib.hid h
  clear h
  go_enter Tryz.func74, Tryz.ntmps74
  go_upto_region 3 with fail
  refine wp_region_quiet_lit (by kernel_rfl) (by kernel_rfl) ?_
  repeat (go_big_quiet_step (fail))
  refine wpQuiet_nil ?_
  rintro _ ⟨nq, rfl⟩
  go_wp2_with (first | (go_at_call 57; refine (HM.out _ (HB.out.ext (ha.drewN _))).mono ?_; rw [hg]; rintro e w1 ⟨v1, rfl, hx, ho⟩; obtain ⟨A1, cap1, rfl, -, -⟩ := ho.shape; have z0 := hx.cell (p := ⟨w.heap.size, 0, none⟩) (v := .int .i64 f) (by simp); have z1 := hx.cell (p := ⟨w.heap.size, 1, none⟩) (v := .int .i64 t) (by simp); have X1 := (ha.drewN _).trans hx) | (at_make; refine wpList_make_own _ rfl _ _ 36 rfl _ 5 i0 (.int .u8 0) 1 Tryz.underlying36 hi0 hz0 hz1 .i64 .i64 _ (t - f) rfl rfl (by omega) (by rw [hz2]; omega) (by simp only [maxLen]; omega) (Nat.le_refl _) ?_))
  intro w2 hown2 hgr2
  have X2 : Ext w1 w2 := Below.grown (Ext.refl w1) hgr2 (Nat.le_refl _) (fun j hj => by cases hj)
  have Z0 := Lib.hid z0
  have Z1 := Lib.hid z1
  have y0 := X2.cell z0
  have y1 := X2.cell z1
  have X12 := X1.trans X2
  have hlo1 := Lib.hid hown2
  have hsz2 := X1.size
  clear hown2 hgr2 z0 z1 hb1 hb2 hx ho
  go_wp2_with fail
  go_loopw [6, 7] (fun v i wr => ∃ k : Nat, f ≤ k ∧ k ≤ t ∧ i = .int .i64 k ∧ BytesOwn wr w1.heap.size v (rdL D f k) ∧ Ext w wr ∧ Below w1.heap.size w1 wr) (fun _ i _ => t - (intOf i).toNat)
  case atStart => exact ⟨f, by omega, hft, rfl, by unfold BytesOwn; rw [rdL_length]; simpa [rdL] using hlo1.out, X12, X2⟩
  case round =>
    obtain ⟨k, hfk, hk, rfl, hown, hX, hY⟩ := hrel
    have x0 : wr.cell? ⟨w.heap.size, 0, none⟩ = some (.int .i64 f) := (Below.cell hY (World.block_lt_of_cell? w1 _ Z0.out)).trans Z0.out
    have x1 : wr.cell? ⟨w.heap.size, 1, none⟩ = some (.int .i64 t) := (Below.cell hY (World.block_lt_of_cell? w1 _ Z1.out)).trans Z1.out
    by_cases hlt : k < t
    · obtain ⟨q, hq⟩ : ∃ q, q = k / 256 := ⟨_, rfl⟩
      obtain ⟨m, hm⟩ : ∃ m, m = min t ((q + 1) * 256) := ⟨_, rfl⟩
      obtain ⟨s, hs⟩ := gaps_nil hg (pcs_in hfk hlt)
      rw [← hq] at hs
      obtain ⟨lo, hlo⟩ : ∃ lo, lo = k - q * 256 := ⟨_, rfl⟩
      obtain ⟨hi, hhi⟩ : ∃ hi, hi = m - q * 256 := ⟨_, rfl⟩
      have hqn : q < npc len := by unfold npc; omega
      have hss := hok q hqn s hs
      have HR := HB.out.ext hX
      have d2 := HR.c2
      obtain ⟨r, hr, hp⟩ := HR.row
      have hc := hr.cell hqn
      obtain ⟨g, cap, e1, e2, e3, e4, e5, e6⟩ := hs ▸ hp q hqn
      rw [e1] at hc
      have E1 : (k : Int) / 256 = (q : Int) := by omega
      have E2 : min (t : Int) (((q : Int) + 1) * 256) = (m : Int) := by omega
      have E3 : (k : Int) - (q : Int) * 256 = (lo : Int) := by omega
      have E4 : (m : Int) - (q : Int) * 256 = (hi : Int) := by omega
      have E5 : hi ≤ cap := by unfold pto at hss; omega
      have E6 : lo < hi := by omega
      have hst := rdL_step (D := D) (f := f) (m := m) (by omega : q * 256 ≤ k) (by omega) (by omega) hfk hs
      have HSS := Lib.hid (show s.size = pto q len - q * 256 ∧ hi ≤ s.size by unfold pto at hss ⊢; omega)
      rw [← hlo] at hst
      clear hp hr e1 hq hm hhi
      have hrd : Reads wr wr.heap.size 1 (some ⟨g, lo, none⟩) (hi - lo) ((segL s lo (hi - lo)).map (Value.int .u8)) := by
        refine ⟨by simp [segL_length], fun _ => ⟨_, rfl, e5, fun j u hu => ?_⟩⟩
        have hj : j < hi - lo := by
          have := (List.getElem?_eq_some_iff.1 hu).1
          simpa [segL_length] using this
        rw [Addr.add_lit, e6 (lo + j) (by have := HSS.out; unfold pto at this; omega), ← hu]
        simp [segL, hj]
      have hone : ∀ v ∈ (segL s lo (hi - lo)).map (Value.int .u8), v.oneCell' = true := by
        intro v hv
        obtain ⟨n, -, rfl⟩ := List.mem_map.1 hv
        rfl
      have hB := Below.size hY
      have HST := Lib.hid hst
      have HRL := Lib.hid (rdL_length D f k)
      have HE := Lib.hid (show hi - lo = m - k by omega)
      have HMT := Lib.hid (show k < m ∧ m ≤ t by omega)
      have E7 : m ≤ 65536 := by omega
      clear hst hss hlo
      go_wp2_with (at_builtin; refine wpList_append_any _ rfl (.tmp 62) (.tmp 78) _ rfl w1.heap.size 5 i0 (.int .u8 0) 1 1 Tryz.underlying36 hi0 hz0 hz1 hz2 rfl (by omega) _ _ _ rfl hown wr.heap.size _ (hi - lo) _ _ rfl hrd hone (by have := HRL.out; simp only [maxLen]; omega) (by have := HRL.out; omega) hB ?_)
      intro v' w3 hown3 hgr3 _
      have hY3 : Below w1.heap.size w1 w3 := Below.grown hY hgr3 hB (own_base hown)
      have hX3 : Ext w w3 := Below.grown hX hgr3 hX.size (fun j hj => Nat.le_trans hsz2 (own_base hown j hj))
      have hown4 : BytesOwn w3 w1.heap.size v' (rdL D f m) := by
        unfold BytesOwn
        rw [HST.out, List.length_append, List.map_append, segL_length, ← HE.out]
        exact hown3
      clear hown3 hgr3
      go_wp2_with fail
      go_roundw
      case rel => exact ⟨m, by have := HMT.out; omega, HMT.out.2, rfl, hown4, hX3, hY3⟩
      case measure => have := HMT.out; simp [intOf]; omega
    · obtain rfl : k = t := by omega
      go_wp2_with fail
      go_returns
      exact ⟨_, rfl, hX, own_more hown hsz2⟩
end Go.Proofs.YtfgjbbpkkbohhaaGreat
