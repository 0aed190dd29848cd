/- Chapter 23: package record: Decode. Chapter 23: the device and the log as plain functions, after the program's text (no program in sight). -/
import Derived.Test.YtepigkjgjlibcaaGAC
import Derived.Test.YtepigkjgjlibcaaGAA
namespace Go.Proofs.Ytepigkjgjlibcaa
open Go.RowKit Go.Deep Go.Proofs.Ytepigkjgjlibcaa.FL
/-! the ways out of decF -/
section
variable {x : UInt8} {r : Bs}
theorem dec_nil : ∃ c, decF [] = .inr c := ⟨_, rfl⟩
theorem dec_kind (h : x.toNat < 1 ∨ 127 < x.toNat) : ∃ c, decF (x :: r) = .inr c := ⟨12, by simp only [decF]; rw [if_pos h]⟩
theorem dec_t (h0 : ¬ (x.toNat < 1 ∨ 127 < x.toNat)) (h : (takeF 6 r 0 0).2 = 0 ∨ (takeF 6 r 0 0).2 < 0 ∨ 1099511627776 < (takeF 6 r 0 0).1) : ∃ c, decF (x :: r) = .inr c := by
  simp only [decF]
  rw [if_neg h0]
  by_cases h1 : (takeF 6 r 0 0).2 = 0
  · exact ⟨_, by rw [if_pos h1]⟩
  · exact ⟨_, by rw [if_neg h1, if_pos (h.resolve_left h1)]⟩
theorem dec_u (h0 : ¬ (x.toNat < 1 ∨ 127 < x.toNat)) (h1 : ¬ (takeF 6 r 0 0).2 = 0) (h2 : ¬ ((takeF 6 r 0 0).2 < 0 ∨ 1099511627776 < (takeF 6 r 0 0).1)) {a : Nat} (ha : a = 1 + (takeF 6 r 0 0).2.toNat)
    (h : (takeF 3 ((x :: r).drop a) 0 0).2 = 0 ∨ (takeF 3 ((x :: r).drop a) 0 0).2 < 0 ∨ 131072 < (takeF 3 ((x :: r).drop a) 0 0).1) : ∃ c, decF (x :: r) = .inr c := by
  simp only [decF]
  rw [if_neg h0, if_neg h1, if_neg h2, ← ha]
  by_cases h3 : (takeF 3 ((x :: r).drop a) 0 0).2 = 0
  · exact ⟨_, by rw [if_pos h3]⟩
  · exact ⟨_, by rw [if_neg h3, if_pos (h.resolve_left h3)]⟩
theorem dec_end (h0 : ¬ (x.toNat < 1 ∨ 127 < x.toNat)) (h1 : ¬ (takeF 6 r 0 0).2 = 0) (h2 : ¬ ((takeF 6 r 0 0).2 < 0 ∨ 1099511627776 < (takeF 6 r 0 0).1)) {a : Nat} (ha : a = 1 + (takeF 6 r 0 0).2.toNat)
    (h3 : ¬ (takeF 3 ((x :: r).drop a) 0 0).2 = 0) (h4 : ¬ ((takeF 3 ((x :: r).drop a) 0 0).2 < 0 ∨ 131072 < (takeF 3 ((x :: r).drop a) 0 0).1)) {b : Nat} (hb : b = a + (takeF 3 ((x :: r).drop a) 0 0).2.toNat) {en : Nat} (hen : en = b + (takeF 3 ((x :: r).drop a) 0 0).1) :
    decF (x :: r) = if (x :: r).length < en + 4 then .inr 30 else if ((x :: r).drop en).take 4 = be4 (sumF ((x :: r).take en)) then .inl ⟨x.toNat, (takeF 6 r 0 0).1, ((x :: r).take en).drop b, en + 4⟩ else .inr 12 := by
  simp only [decF]
  rw [if_neg h0, if_neg h1, if_neg h2, ← ha, if_neg h3, if_neg h4, ← hb, ← hen]
end
theorem BS.take {w : World} {g o n cap : Nat} {l : Bs} (h : BS w (.slice (some ⟨g, o, none⟩) n cap) l) (k : Nat) (hk : k ≤ l.length) : BS w (.slice (some ⟨g, o, none⟩) k cap) (l.take k) := by
  rcases h with ⟨e, -⟩ | ⟨g', o', cap', e, hc, hb, hr⟩
  · cases e
  · cases e
    refine .inr ⟨g, o, cap, by rw [List.length_take, Nat.min_eq_left hk], by rw [List.length_take]; omega, hb, fun i u hu => hr i u ?_⟩
    rw [← hu]
    unfold by8
    rw [List.getElem?_map, List.getElem?_map, List.getElem?_take]
    split
    · rfl
    · exfalso
      have := (List.getElem?_eq_some_iff.1 hu).1
      rw [by8_length, List.length_take] at this
      omega
theorem row_set3 {w : World} {g : Nat} {T : TypeId} {x0 x1 x2 : Value} (h : RowB w g T [x0, x1, x2]) (y0 y1 y2 : Value) :
    RowB (((w.setCell ⟨g, 0, none⟩ y0).setCell ⟨g, 1, none⟩ y1).setCell ⟨g, 2, none⟩ y2) g T [y0, y1, y2] ∧ Mod (fun x => x = g) w (((w.setCell ⟨g, 0, none⟩ y0).setCell ⟨g, 1, none⟩ y1).setCell ⟨g, 2, none⟩ y2) :=
  ⟨(((h.set 0 y0 (by simp)).set 1 y1 (by simp)).set 2 y2 (by simp)), ((((Mod.refl (fun x => x = g) w).setCell (p := ⟨g, 0, none⟩) (.inl rfl) y0).setCell (p := ⟨g, 1, none⟩) (.inl rfl) y1).setCell (p := ⟨g, 2, none⟩) (.inl rfl) y2)⟩
theorem BS.len {w : World} {A : Option Addr} {n cap : Nat} {l : Bs} (h : BS w (.slice A n cap) l) : n = l.length ∧ n ≤ cap := by
  rcases h with ⟨e, rfl⟩ | ⟨g', o', cap', e, hc, -, -⟩
  · cases e
    exact ⟨rfl, Nat.le_refl _⟩
  · cases e
    exact ⟨rfl, hc⟩
theorem BS.drop2 {w : World} {g o n cap : Nat} {l : Bs} (h : BS w (.slice (some ⟨g, o, none⟩) n cap) l) (k : Nat) (hk : k ≤ l.length) : BS w (.slice (if cap = k then some ⟨g, o, none⟩ else some ⟨g, o + k, none⟩) (n - k) (cap - k)) (l.drop k) := by
  split
  · rename_i hc
    have h1 := h.len
    have h2 := h.zero (cap - k)
    rw [show n - k = 0 by omega, List.drop_eq_nil_of_le (by omega)]
    exact h2
  · exact h.drop k hk
theorem shl_or {a b k : Nat} (hb : b < 2 ^ k) : (a * 2 ^ k) ||| b = a * 2 ^ k + b := by
  rw [Nat.mul_comm, Nat.two_pow_add_eq_or_of_lt hb]
/-- four bytes as a number -/
theorem be_u32 {c0 c1 c2 c3 : Nat} (h0 : c0 < 256) (h1 : c1 < 256) (h2 : c2 < 256) (h3 : c3 < 256) :
    bits .or .u32 (bits .or .u32 (bits .or .u32 ((c0 : Int) * 16777216) ((c1 : Int) * 65536)) ((c2 : Int) * 256)) (c3 : Int) = ((c0 * 16777216 + c1 * 65536 + c2 * 256 + c3 : Nat) : Int) := by
  have e1 := u32_or_nat (c0 * 16777216) (c1 * 65536) (by omega) (by omega)
  rw [show (c0 * 16777216 ||| c1 * 65536 : Nat) = c0 * 16777216 + c1 * 65536 from shl_or (a := c0) (b := c1 * 65536) (k := 24) (by omega)] at e1
  have e2 := u32_or_nat (c0 * 16777216 + c1 * 65536) (c2 * 256) (by omega) (by omega)
  rw [show (c0 * 16777216 + c1 * 65536 ||| c2 * 256 : Nat) = c0 * 16777216 + c1 * 65536 + c2 * 256 by
    have h := shl_or (a := c0 * 256 + c1) (b := c2 * 256) (k := 16) (by omega)
    rw [show (c0 * 256 + c1) * 2 ^ 16 = c0 * 16777216 + c1 * 65536 by omega] at h
    exact h] at e2
  have e3 := u32_or_nat (c0 * 16777216 + c1 * 65536 + c2 * 256) c3 (by omega) (by omega)
  rw [show (c0 * 16777216 + c1 * 65536 + c2 * 256 ||| c3 : Nat) = c0 * 16777216 + c1 * 65536 + c2 * 256 + c3 by
    have h := shl_or (a := c0 * 65536 + c1 * 256 + c2) (b := c3) (k := 8) (by omega)
    rw [show (c0 * 65536 + c1 * 256 + c2) * 2 ^ 8 = c0 * 16777216 + c1 * 65536 + c2 * 256 by omega] at h
    exact h] at e3
  rw [show (c0 : Int) * 16777216 = ((c0 * 16777216 : Nat) : Int) by omega, show (c1 : Int) * 65536 = ((c1 * 65536 : Nat) : Int) by omega, show (c2 : Int) * 256 = ((c2 * 256 : Nat) : Int) by omega, e1, e2, e3]
theorem be4_eq {c0 c1 c2 c3 : UInt8} {S : Nat} (hS : S < 4294967296) : [c0, c1, c2, c3] = be4 S ↔ c0.toNat * 16777216 + c1.toNat * 65536 + c2.toNat * 256 + c3.toNat = S := by
  have b0 := c0.toNat_lt
  have b1 := c1.toNat_lt
  have b2 := c2.toNat_lt
  have b3 := c3.toNat_lt
  unfold be4
  simp only [List.cons.injEq, and_true, ← UInt8.toNat_inj, UInt8.toNat_ofNat']
  omega
theorem OB.mod {w w' : World} {B : Nat} {F : Nat → Prop} {v : Value} {l : Bs} (h : OB w B v l) (hm : Mod F w w') (hF : ∀ g, B ≤ g → ¬ F g) : OB w' B v l := by
  refine ⟨h.1, h.2.imp id ?_⟩
  rintro ⟨g, cap, cur, e, h1, h2, h3⟩
  exact ⟨g, cap, cur, e, h1, (hm.block g (Array.getElem?_eq_some_iff.1 h2).1 (hF g h1)).trans h2, h3⟩
theorem take4 {l : Bs} {c0 c1 c2 c3 : UInt8} (h0 : l[0]? = some c0) (h1 : l[1]? = some c1) (h2 : l[2]? = some c2) (h3 : l[3]? = some c3) : l.take 4 = [c0, c1, c2, c3] := by
  match l, h0, h1, h2, h3 with
  | _ :: _ :: _ :: _ :: _, h0, h1, h2, h3 =>
    simp at h0 h1 h2 h3
    simp [h0, h1, h2, h3]
def DecPost (w w' : World) (e : Ending) : Rec ⊕ Nat → Prop
  | .inr _ => ∃ c : Nat, e = .returned (.tuple #[.agg #[.int .i64 0, .int .i64 0, .slice none 0 0], .int .i64 0, errV c])
  | .inl d => ∃ u, e = .returned (.tuple #[.agg #[.int .i64 d.kind, .int .i64 d.number, u], .int .i64 d.size, .nilIface]) ∧ OB w' w.heap.size u d.payload
set_option maxRecDepth 100000 in
set_option maxHeartbeats 4000000 in
theorem decode_any {w : World} {v : Value} {l : Bs} (h : BS w v l) (hl : l.length ≤ 1000000) :
    Calls Try.prog 89 #[v] w fun e w' => Ext w w' ∧ DecPost w w' e (decF l) := by
  obtain ⟨A, cap, rfl, hcap, -⟩ := h.slice
  cases l with
  | nil =>
    clear h hl
    go_enter Try.func89, Try.ntmps89
    go_wp2_with fail
    refine bodyPost_ret (by simp [results, Try.results89, go_sem]; try rfl) rfl ?_
    exact ⟨(Ext.refl w).alloc _, 21, rfl⟩
  | cons x r =>
    obtain ⟨g, o, rfl, hx0⟩ := h.at 0 (by simp)
    simp only [List.getElem_cons_zero, Nat.add_zero] at hx0
    have HDK := Lib.hid (fun h => dec_kind (x := x) (r := r) h)
    obtain ⟨y, hy⟩ : ∃ y, y = x.toNat := ⟨_, rfl⟩
    rw [← hy] at hx0 HDK
    have HB := Lib.hid h
    obtain ⟨N, hN⟩ : ∃ N, N = (x :: r).length := ⟨_, rfl⟩
    have HN := Lib.hid hN
    rw [← hN] at HB hl hcap ⊢
    have hN1 : (1 : Int) ≤ (N : Int) := by rw [hN]; simp; omega
    have HDT := Lib.hid (fun h0 h => dec_t (x := x) (r := r) h0 h)
    have HDU := Lib.hid (fun h0 h1 h2 a ha h => dec_u (x := x) (r := r) h0 h1 h2 (a := a) ha h)
    have HDE := Lib.hid (fun h0 h1 h2 a ha h3 h4 b hb en hen => dec_end (x := x) (r := r) h0 h1 h2 (a := a) ha h3 h4 (b := b) hb (en := en) hen)
    rw [← hy] at HDT HDU HDE
    have HTL := Lib.hid (takeF_le 6 r 0 0)
    obtain ⟨T, hT⟩ : ∃ T, T = takeF 6 r 0 0 := ⟨_, rfl⟩
    have HT := Lib.hid hT
    rw [← hT] at HDT HDU HDE HTL
    obtain ⟨tn, tk⟩ := T
    simp only at HDT HDU HDE HTL
    obtain ⟨a1, ha1⟩ : ∃ z, z = 1 + tk.toNat := ⟨_, rfl⟩
    have HA1 := Lib.hid ha1
    obtain ⟨U, hU⟩ : ∃ U, U = takeF 3 ((x :: r).drop a1) 0 0 := ⟨_, rfl⟩
    have HU := Lib.hid hU
    have HUL := Lib.hid (takeF_le 3 ((x :: r).drop a1) 0 0)
    rw [← hU] at HUL
    obtain ⟨un, uk⟩ := U
    simp only at HUL
    obtain ⟨L, hL⟩ : ∃ L, L = x :: r := ⟨_, rfl⟩
    have HL := Lib.hid hL
    clear h hN hT hU ha1 hL
    by_cases hk : y < 1 ∨ 127 < y
    · obtain ⟨c, hc⟩ := HDK.out hk
      rw [hc]
      have hx1 : (w.alloc (.cells #[.int .i64 0, .int .i64 0, .slice none 0 0] 138)).cell? ⟨g, o, none⟩ = some (.int .u8 y) := Ext.cell ((Ext.refl w).alloc _) hx0
      clear hx0 hl hcap
      by_cases hy1 : y < 1
      · have hyi : (y : Int) < 1 := by omega
        go_enter Try.func89, Try.ntmps89
        go_wp2_with fail
        refine bodyPost_ret (by simp [results, Try.results89, go_sem]; try rfl) rfl ?_
        exact ⟨(Ext.refl w).alloc _, 12, rfl⟩
      · have hyi : (1 : Int) ≤ (y : Int) := by omega
        have hyj : (127 : Int) < (y : Int) := by omega
        go_enter Try.func89, Try.ntmps89
        go_wp2_with fail
        refine bodyPost_ret (by simp [results, Try.results89, go_sem]; try rfl) rfl ?_
        exact ⟨(Ext.refl w).alloc _, 12, rfl⟩
    · have HK := Lib.hid hk
      have hyi : (1 : Int) ≤ (y : Int) := by omega
      have hyj : (y : Int) ≤ 127 := by omega
      obtain ⟨wz, hwz⟩ : ∃ z, z = w.alloc (.cells #[.int .i64 0, .int .i64 0, .slice none 0 0] 138) := ⟨_, rfl⟩
      have HXZ := Lib.hid (show Ext w wz by rw [hwz]; exact (Ext.refl w).alloc _)
      have HRZ : Hid (RowB wz w.heap.size 138 [.int .i64 0, .int .i64 0, .slice none 0 0]) := Lib.hid (by rw [hwz]; exact row_laid w _ _)
      have hx1 : wz.cell? ⟨g, o, none⟩ = some (.int .u8 y) := Ext.cell HXZ.out hx0
      have HX0 := Lib.hid hx0
      clear hk hx0
      go_enter Try.func89, Try.ntmps89
      go_upto_region 1 with fail
      rw [← hwz]
      clear hwz
      go_wp2_with fail
      go_loopw [5, 32] (fun a i wr => ∃ k p0 p1 at_ : Nat, i = .int .i64 k ∧ a = .int .i64 at_ ∧ k ≤ 2 ∧ Hid (Ext w wr ∧ RowB wr w.heap.size 138 [.int .i64 0, .int .i64 0, .slice none 0 0] ∧ RowB wr wz.heap.size 168 [.int .i64 p0, .int .i64 p1] ∧ RowB wr (wz.heap.size + 1) 3 [.int .i64 1099511627776, .int .i64 131072]) ∧
        Hid (k = 0 ∧ at_ = 1 ∨ (¬ tk = 0 ∧ ¬ (tk < 0 ∨ 1099511627776 < tn)) ∧ p0 = tn ∧ (k = 1 ∧ at_ = a1 ∨ k = 2 ∧ (¬ uk = 0 ∧ ¬ (uk < 0 ∨ 131072 < un)) ∧ p1 = un ∧ at_ = a1 + uk.toNat))) (fun _ i _ => 2 - (intOf i).toNat)
      case atStart =>
        refine ⟨0, 0, 0, 1, rfl, rfl, by omega, Lib.hid ⟨(HXZ.out.alloc _).alloc _, (HRZ.out.ext (((Ext.refl _).alloc _).alloc _)), (row_laid wz _ _).ext ((Ext.refl _).alloc _), ?_⟩, Lib.hid (.inl ⟨rfl, rfl⟩)⟩
        have h1 := row_laid (wz.alloc (.cells #[.int .i64 0, .int .i64 0] 168)) 3 [.int .i64 1099511627776, .int .i64 131072]
        rw [show (wz.alloc (.cells #[.int .i64 0, .int .i64 0] 168)).heap.size = wz.heap.size + 1 by simp] at h1
        exact h1
      case round =>
        obtain ⟨k, p0, p1, at_, rfl, rfl, hk2, hW, hP⟩ := hrel
        have HLC := Lib.hid hW.out.2.2.2
        have HPC := Lib.hid hW.out.2.2.1
        have HRC := Lib.hid hW.out.2.1
        have HXW := Lib.hid hW.out.1
        have HBW := Lib.hid (HB.out.ext hW.out.1)
        by_cases hk0 : k = 0
        · subst hk0
          have hat : at_ = 1 := by have := hP.out; omega
          subst hat
          have l0 := HLC.out.cell (j := 0) rfl
          have hb1 := BS.drop2 HBW.out 1 (by simp)
          rw [List.drop_one, List.tail_cons] at hb1
          obtain ⟨A1, hA1⟩ : ∃ A1, (if cap = 1 then some ⟨g, o, none⟩ else some (⟨g, o + 1, none⟩ : Addr)) = A1 := ⟨_, rfl⟩
          rw [hA1] at hb1
          have htk := take_any hb1 6 (by omega) (by have := HN.out; simp at this; omega)
          rw [← HT.out] at htk
          have HTK := Lib.hid htk
          clear hx1 hk2 htk hP hb1
          by_cases ht0 : tk = 0
          · obtain ⟨c, hc⟩ := HDT.out HK.out (.inl ht0)
            have HC := Lib.hid hc
            have e0 := (HRC.out).cell (j := 0) rfl
            have e1 := (HRC.out).cell (j := 1) rfl
            have e2 := (HRC.out).cell (j := 2) rfl
            have q0 := (HRC.out).frozen (j := 0) (by simp)
            have q1 := (HRC.out).frozen (j := 1) (by simp)
            have q2 := (HRC.out).frozen (j := 2) (by simp)
            obtain ⟨hr9, hm9⟩ := row_set3 HRC.out (.int .i64 0) (.int .i64 0) (.slice none 0 0)
            have HR9 := Lib.hid hr9
            have HM9 := Lib.hid (Mod.ext (((Mod.of_ext (fun _ => False) HXW.out).then hm9 (fun i hi => .inr (by omega)))) (fun _ h => h.elim))
            subst ht0
            clear hc hr9 hm9
            go_wp2_with (go_at_call 103; refine HTK.out.mono ?_; rintro e w1 ⟨rfl, rfl⟩)
            have r0 := HR9.out.cell (j := 0) rfl
            have r1 := HR9.out.cell (j := 1) rfl
            have r2 := HR9.out.cell (j := 2) rfl
            refine bodyPost_ret (by simp [results, Try.results89, go_sem, r0, r1, r2]; try rfl) rfl ?_
            exact ⟨HM9.out, by rw [HC.out]; exact ⟨21, rfl⟩⟩
          · have htz : (tk == 0) = false := by rw [beq_eq_false_iff_ne]; exact ht0
            by_cases htb : tk < 0 ∨ 1099511627776 < tn
            · obtain ⟨c, hc⟩ := HDT.out HK.out (.inr htb)
              have HC := Lib.hid hc
              have e0 := (HRC.out).cell (j := 0) rfl
              have e1 := (HRC.out).cell (j := 1) rfl
              have e2 := (HRC.out).cell (j := 2) rfl
              have q0 := (HRC.out).frozen (j := 0) (by simp)
              have q1 := (HRC.out).frozen (j := 1) (by simp)
              have q2 := (HRC.out).frozen (j := 2) (by simp)
              obtain ⟨hr9, hm9⟩ := row_set3 HRC.out (.int .i64 0) (.int .i64 0) (.slice none 0 0)
              have HR9 := Lib.hid hr9
              have HM9 := Lib.hid (Mod.ext (((Mod.of_ext (fun _ => False) HXW.out).then hm9 (fun i hi => .inr (by omega)))) (fun _ h => h.elim))
              clear hc hr9 hm9
              by_cases ht1 : tk < 0
              · go_wp2_with (go_at_call 103; refine HTK.out.mono ?_; rintro e w1 ⟨rfl, rfl⟩)
                have r0 := HR9.out.cell (j := 0) rfl
                have r1 := HR9.out.cell (j := 1) rfl
                have r2 := HR9.out.cell (j := 2) rfl
                refine bodyPost_ret (by simp [results, Try.results89, go_sem, r0, r1, r2]; try rfl) rfl ?_
                exact ⟨HM9.out, by rw [HC.out]; exact ⟨12, rfl⟩⟩
              · have ht2 : 0 ≤ tk := by omega
                have ht3 : (1099511627776 : Int) < (tn : Int) := by omega
                go_wp2_with (go_at_call 103; refine HTK.out.mono ?_; rintro e w1 ⟨rfl, rfl⟩)
                have r0 := HR9.out.cell (j := 0) rfl
                have r1 := HR9.out.cell (j := 1) rfl
                have r2 := HR9.out.cell (j := 2) rfl
                refine bodyPost_ret (by simp [results, Try.results89, go_sem, r0, r1, r2]; try rfl) rfl ?_
                exact ⟨HM9.out, by rw [HC.out]; exact ⟨12, rfl⟩⟩
            · obtain ⟨m, hm⟩ := Int.eq_ofNat_of_zero_le (show 0 ≤ tk by omega)
              have ht2 : 0 ≤ tk := by omega
              have ht3 : (tn : Int) ≤ 1099511627776 := by omega
              have ht4 : tk ≤ 1000000 := by have := HTL.out; have := HN.out; simp at *; omega
              have hw : IntKind.i64.wrap (1 + tk) = 1 + tk := IntWalk.i64_in (1 + tk) (by omega)
              have HTO := Lib.hid (And.intro ht0 htb)
              have HA2 := Lib.hid (show (1 + tk) = (a1 : Int) by rw [HA1.out]; omega)
              have p0c := HPC.out.cell (j := 0) rfl
              have p0f := HPC.out.frozen (j := 0) (by simp)
              clear hm htb ht0
              have HWB := Lib.hid (show w.heap.size < wz.heap.size by have := HRZ.out.lt; exact this)
              have HP2 := Lib.hid (HPC.out.set 0 (.int .i64 tn) (by simp))
              have HM2 := Lib.hid (mod_set wr wz.heap.size 0 (.int .i64 tn))
              have HX2 := Lib.hid (HXW.out.setCell (p := ⟨wz.heap.size, 0, none⟩) (by have := HXZ.out.size; exact this) (.int .i64 tn))
              go_wp2_with (go_at_call 103; refine HTK.out.mono ?_; rintro e w1 ⟨rfl, rfl⟩)
              exact ⟨⟨1, tn, p1, a1, rfl, by rw [HA2.out], by omega, Lib.hid ⟨HX2.out, HM2.out.rowB HRC.out (by have := HWB.out; omega), HP2.out, HM2.out.rowB HLC.out (by omega)⟩, Lib.hid (.inr ⟨HTO.out, rfl, .inl ⟨rfl, rfl⟩⟩)⟩, by simp [intOf]⟩
        · by_cases hk1 : k = 1
          · subst hk1
            have hP1 := hP.out
            have HTO : Hid (¬ tk = 0 ∧ ¬ (tk < 0 ∨ 1099511627776 < tn)) := Lib.hid (by omega)
            have HP0 : Hid (p0 = tn) := Lib.hid (by omega)
            have hat : at_ = a1 := by omega
            subst hat
            have HDU1 : Hid (uk = 0 ∨ uk < 0 ∨ 131072 < un → ∃ c, decF (x :: r) = .inr c) := Lib.hid (by
              have h := HDU.out HK.out HTO.out.1 HTO.out.2 at_ HA1.out
              rw [← HU.out] at h
              exact h)
            have l0 := HLC.out.cell (j := 1) rfl
            clear hP1
            have HLA := Lib.hid (show at_ ≤ N by have := HTL.out; have := HA1.out; have := HN.out; simp at *; omega)
            have hb1 := BS.drop2 HBW.out at_ (by rw [← HN.out]; exact HLA.out)
            obtain ⟨A1, hA1⟩ : ∃ A1, (if cap = at_ then some ⟨g, o, none⟩ else some (⟨g, o + at_, none⟩ : Addr)) = A1 := ⟨_, rfl⟩
            have haN : (at_ : Int) ≤ (N : Int) := by have := HLA.out; omega
            have haC : (at_ : Int) ≤ (cap : Int) := by omega
            rw [hA1] at hb1
            have htk := take_any hb1 3 (by omega) (by rw [List.length_drop, ← HN.out]; omega)
            rw [← HU.out] at htk
            have HTK := Lib.hid htk
            clear hx1 hk2 htk hP hb1
            by_cases ht0 : uk = 0
            · obtain ⟨c, hc⟩ := HDU1.out (.inl ht0)
              have HC := Lib.hid hc
              have e0 := (HRC.out).cell (j := 0) rfl
              have e1 := (HRC.out).cell (j := 1) rfl
              have e2 := (HRC.out).cell (j := 2) rfl
              have q0 := (HRC.out).frozen (j := 0) (by simp)
              have q1 := (HRC.out).frozen (j := 1) (by simp)
              have q2 := (HRC.out).frozen (j := 2) (by simp)
              obtain ⟨hr9, hm9⟩ := row_set3 HRC.out (.int .i64 0) (.int .i64 0) (.slice none 0 0)
              have HR9 := Lib.hid hr9
              have HM9 := Lib.hid (Mod.ext (((Mod.of_ext (fun _ => False) HXW.out).then hm9 (fun i hi => .inr (by omega)))) (fun _ h => h.elim))
              subst ht0
              clear hc hr9 hm9
              go_wp2_with (go_at_call 103; refine HTK.out.mono ?_; rintro e w1 ⟨rfl, rfl⟩)
              have r0 := HR9.out.cell (j := 0) rfl
              have r1 := HR9.out.cell (j := 1) rfl
              have r2 := HR9.out.cell (j := 2) rfl
              refine bodyPost_ret (by simp [results, Try.results89, go_sem, r0, r1, r2]; try rfl) rfl ?_
              exact ⟨HM9.out, by rw [HC.out]; exact ⟨21, rfl⟩⟩
            · have htz : (uk == 0) = false := by rw [beq_eq_false_iff_ne]; exact ht0
              by_cases htb : uk < 0 ∨ 131072 < un
              · obtain ⟨c, hc⟩ := HDU1.out (.inr htb)
                have HC := Lib.hid hc
                have e0 := (HRC.out).cell (j := 0) rfl
                have e1 := (HRC.out).cell (j := 1) rfl
                have e2 := (HRC.out).cell (j := 2) rfl
                have q0 := (HRC.out).frozen (j := 0) (by simp)
                have q1 := (HRC.out).frozen (j := 1) (by simp)
                have q2 := (HRC.out).frozen (j := 2) (by simp)
                obtain ⟨hr9, hm9⟩ := row_set3 HRC.out (.int .i64 0) (.int .i64 0) (.slice none 0 0)
                have HR9 := Lib.hid hr9
                have HM9 := Lib.hid (Mod.ext (((Mod.of_ext (fun _ => False) HXW.out).then hm9 (fun i hi => .inr (by omega)))) (fun _ h => h.elim))
                clear hc hr9 hm9
                by_cases ht1 : uk < 0
                · go_wp2_with (go_at_call 103; refine HTK.out.mono ?_; rintro e w1 ⟨rfl, rfl⟩)
                  have r0 := HR9.out.cell (j := 0) rfl
                  have r1 := HR9.out.cell (j := 1) rfl
                  have r2 := HR9.out.cell (j := 2) rfl
                  refine bodyPost_ret (by simp [results, Try.results89, go_sem, r0, r1, r2]; try rfl) rfl ?_
                  exact ⟨HM9.out, by rw [HC.out]; exact ⟨12, rfl⟩⟩
                · have ht2 : 0 ≤ uk := by omega
                  have ht3 : (131072 : Int) < (un : Int) := by omega
                  go_wp2_with (go_at_call 103; refine HTK.out.mono ?_; rintro e w1 ⟨rfl, rfl⟩)
                  have r0 := HR9.out.cell (j := 0) rfl
                  have r1 := HR9.out.cell (j := 1) rfl
                  have r2 := HR9.out.cell (j := 2) rfl
                  refine bodyPost_ret (by simp [results, Try.results89, go_sem, r0, r1, r2]; try rfl) rfl ?_
                  exact ⟨HM9.out, by rw [HC.out]; exact ⟨12, rfl⟩⟩
              · obtain ⟨m, hm⟩ := Int.eq_ofNat_of_zero_le (show 0 ≤ uk by omega)
                have ht2 : 0 ≤ uk := by omega
                have ht3 : (un : Int) ≤ 131072 := by omega
                have ht4 : uk ≤ 1000000 := by have := HUL.out; rw [List.length_drop, ← HN.out] at this; omega
                have hw : IntKind.i64.wrap ((at_ : Int) + uk) = (at_ : Int) + uk := IntWalk.i64_in ((at_ : Int) + uk) (by have := HLA.out; omega)
                have HUO := Lib.hid (And.intro ht0 htb)
                have HA2 := Lib.hid (show ((at_ : Int) + uk) = ((at_ + uk.toNat : Nat) : Int) by omega)
                have p0c := HPC.out.cell (j := 1) rfl
                have p0f := HPC.out.frozen (j := 1) (by simp)
                clear hm htb ht0
                have HWB := Lib.hid (show w.heap.size < wz.heap.size by have := HRZ.out.lt; exact this)
                have HP2 := Lib.hid (HPC.out.set 1 (.int .i64 un) (by simp))
                have HM2 := Lib.hid (mod_set wr wz.heap.size 1 (.int .i64 un))
                have HX2 := Lib.hid (HXW.out.setCell (p := ⟨wz.heap.size, 1, none⟩) (by have := HXZ.out.size; exact this) (.int .i64 un))
                go_wp2_with (go_at_call 103; refine HTK.out.mono ?_; rintro e w1 ⟨rfl, rfl⟩)
                exact ⟨⟨2, p0, un, at_ + uk.toNat, rfl, by rw [HA2.out], by omega, Lib.hid ⟨HX2.out, HM2.out.rowB HRC.out (by have := HWB.out; omega), HP2.out, HM2.out.rowB HLC.out (by omega)⟩, Lib.hid (.inr ⟨HTO.out, HP0.out, .inr ⟨rfl, HUO.out, rfl, rfl⟩⟩)⟩, by simp [intOf]⟩
          · have hP1 := hP.out
            obtain rfl : k = 2 := by omega
            have HTO : Hid (¬ tk = 0 ∧ ¬ (tk < 0 ∨ 1099511627776 < tn)) := Lib.hid (by omega)
            have HUO : Hid (¬ uk = 0 ∧ ¬ (uk < 0 ∨ 131072 < un)) := Lib.hid (by omega)
            have HP0 : Hid (p0 = tn) := Lib.hid (by omega)
            obtain rfl : p1 = un := by omega
            have HAT : Hid (at_ = a1 + uk.toNat) := Lib.hid (by omega)
            obtain ⟨en, hen⟩ : ∃ z, z = at_ + p1 := ⟨_, rfl⟩
            have HEN := Lib.hid hen
            have HDE1 : Hid (decF (x :: r) = if N < en + 4 then .inr 30 else if ((x :: r).drop en).take 4 = be4 (sumF ((x :: r).take en)) then .inl ⟨y, tn, ((x :: r).take en).drop at_, en + 4⟩ else .inr 12) := Lib.hid (by
              have h := HDE.out HK.out HTO.out.1 HTO.out.2 a1 HA1.out
              rw [← HU.out] at h
              rw [h HUO.out.1 HUO.out.2 at_ HAT.out en hen, ← HN.out])
            have HLA := Lib.hid (show at_ ≤ N by
              have h1 := HTL.out
              have h2 := HA1.out
              have h3 := HN.out
              have h4 := HUL.out
              have h5 := HAT.out
              rw [List.length_drop, ← HN.out] at h4
              simp at h3
              omega)
            have l1 := HPC.out.cell (j := 1) rfl
            have hei : (at_ : Int) + (p1 : Int) = (en : Int) := by omega
            have hew : IntKind.i64.wrap (en : Int) = (en : Int) := IntWalk.i64_in (en : Int) (by have := HLA.out; have := HUO.out; omega)
            have hew4 : IntKind.i64.wrap ((en : Int) + 4) = (en : Int) + 4 := IntWalk.i64_in ((en : Int) + 4) (by have := HLA.out; have := HUO.out; omega)
            clear hP1 hP hk0 hk1 hen
            by_cases hs : N < en + 4
            · have hsi : (N : Int) < (en : Int) + 4 := by omega
              have HC := HDE1.out
              rw [if_pos hs] at HC
              have HC := Lib.hid HC
              have e0 := (HRC.out).cell (j := 0) rfl
              have e1 := (HRC.out).cell (j := 1) rfl
              have e2 := (HRC.out).cell (j := 2) rfl
              have q0 := (HRC.out).frozen (j := 0) (by simp)
              have q1 := (HRC.out).frozen (j := 1) (by simp)
              have q2 := (HRC.out).frozen (j := 2) (by simp)
              obtain ⟨hr9, hm9⟩ := row_set3 HRC.out (.int .i64 0) (.int .i64 0) (.slice none 0 0)
              have HR9 := Lib.hid hr9
              have HM9 := Lib.hid (Mod.ext (((Mod.of_ext (fun _ => False) HXW.out).then hm9 (fun i hi => .inr (by omega)))) (fun _ h => h.elim))
              clear hr9 hm9 hs hx1
              go_wp2_with fail
              have r0 := HR9.out.cell (j := 0) rfl
              have r1 := HR9.out.cell (j := 1) rfl
              have r2 := HR9.out.cell (j := 2) rfl
              refine bodyPost_ret (by simp [results, Try.results89, go_sem, r0, r1, r2]; try rfl) rfl ?_
              exact ⟨HM9.out, by rw [HC.out]; exact ⟨21, rfl⟩⟩
            · have hsi : (en : Int) + 4 ≤ (N : Int) := by omega
              have HC := HDE1.out
              rw [if_neg hs] at HC
              have HC := Lib.hid HC
              have HS := Lib.hid (sum23_any (HBW.out.take en (by rw [← HN.out]; omega)) (by rw [List.length_take, ← HN.out]; omega))
              obtain ⟨S, hS⟩ : ∃ S, S = sumF ((x :: r).take en) := ⟨_, rfl⟩
              rw [← hS] at HS HC
              have HSL := Lib.hid (show S < 4294967296 by rw [hS]; unfold sumF; omega)
              have HCB : ∀ j, j < 4 → Hid (∃ c : UInt8, ((x :: r).drop en)[j]? = some c ∧ wr.cell? ⟨g, o + (en + j), none⟩ = some (.int .u8 (c.toNat : Nat))) := fun j hj => Lib.hid (by
                obtain ⟨g', o', e1, e2⟩ := HBW.out.at (en + j) (by rw [← HN.out]; omega)
                cases e1
                exact ⟨_, by rw [List.getElem?_drop, List.getElem?_eq_getElem (by rw [← HN.out]; omega)], e2⟩)
              obtain ⟨c0, d0, m0⟩ := (HCB 0 (by omega)).out
              obtain ⟨c1, d1, m1⟩ := (HCB 1 (by omega)).out
              obtain ⟨c2, d2, m2⟩ := (HCB 2 (by omega)).out
              obtain ⟨c3, d3, m3⟩ := (HCB 3 (by omega)).out
              rw [Nat.add_zero] at m0
              have n0 : (c0.toNat : Int) % 4294967296 = c0.toNat := by have := c0.toNat_lt; omega
              have n1 : (c1.toNat : Int) % 4294967296 = c1.toNat := by have := c1.toNat_lt; omega
              have n2 : (c2.toNat : Int) % 4294967296 = c2.toNat := by have := c2.toNat_lt; omega
              have n3 : (c3.toNat : Int) % 4294967296 = c3.toNat := by have := c3.toNat_lt; omega
              have k0 : (c0.toNat : Int) * 16777216 % 4294967296 = (c0.toNat : Int) * 16777216 := by have := c0.toNat_lt; omega
              have k1 : (c1.toNat : Int) * 65536 % 4294967296 = (c1.toNat : Int) * 65536 := by have := c1.toNat_lt; omega
              have k2 : (c2.toNat : Int) * 256 % 4294967296 = (c2.toNat : Int) * 256 := by have := c2.toNat_lt; omega
              have hbv := be_u32 c0.toNat_lt c1.toNat_lt c2.toNat_lt c3.toNat_lt
              obtain ⟨V, hV⟩ : ∃ V, V = c0.toNat * 16777216 + c1.toNat * 65536 + c2.toNat * 256 + c3.toNat := ⟨_, rfl⟩
              rw [← hV] at hbv
              have HVB := Lib.hid (be4_eq (c0 := c0) (c1 := c1) (c2 := c2) (c3 := c3) HSL.out)
              rw [← hV, ← take4 d0 d1 d2 d3] at HVB
              clear hS hs hx1 hV d0 d1 d2 d3
              by_cases hv : V = S
              · have hvi : ((V : Int) != (S : Int)) = false := by rw [hv]; simp
                have HC2 := HC.out
                rw [if_pos (HVB.out.2 hv)] at HC2
                have HC2 := Lib.hid HC2
                clear hv
                go_upto_region 22 with (go_at_call 96; refine HS.out.mono ?_; rintro e w1 ⟨rfl, rfl⟩)
                go_region
                go_upto_region 24 with fail
                have HXD := Lib.hid (show Mod (fun x => x = w.heap.size) wr wr.drew.drew from Mod.of_ext _ (Ext.refl _).drew.drew)
                have HGB := Lib.hid (show g < w.heap.size from World.block_lt_of_cell? w _ HX0.out)
                have HGW := Lib.hid (show w.heap.size < wz.heap.size by have := HRZ.out.lt; exact this)
                have HX9 := Lib.hid (HXW.out.cell HX0.out)
                have p0c := HPC.out.cell (j := 0) rfl
                obtain ⟨A2, hA2⟩ : ∃ A2, (if cap = at_ then some ⟨g, o, none⟩ else some (⟨g, o + at_, none⟩ : Addr)) = A2 := ⟨_, rfl⟩
                have HPL : Hid (BS wr (.slice A2 (en - at_) (cap - at_)) (((x :: r).take en).drop at_)) := Lib.hid (by
                  have h1 := (HBW.out.take en (by rw [← HN.out]; omega)).drop2 at_ (by rw [List.length_take, ← HN.out]; have := HEN.out; omega)
                  rw [hA2] at h1
                  exact h1)
                have HNC := Lib.hid hcap
                have hec : en ≤ cap := by omega
                have hae : at_ ≤ en := by have := HEN.out; omega
                have hxw : IntKind.i64.wrap (x.toNat : Int) = (x.toNat : Int) := IntWalk.i64_in _ (by omega)
                clear n0 n1 n2 n3 k0 k1 k2 m0 m1 m2 m3 hbv hvi l1 hei hew hcap hsi
                refine wp_region_C (C := fun W => Mod (fun x => x = w.heap.size) wr W) (by kernel_rfl) ?_
                refine qC_take (i := 0) (s := some 117) (v := ?v1) rfl rfl (by kernel_rfl) (by kernel_rfl) (by kernel_rfl) (fun _ _ _ h => h) HXD.out (by kernel_rfl) ?hy1 ?h1
                case hy1 => intro W hW; have e4 := hew4; have hg0 := HGB.out; have hg1 := HGW.out; have l0 := hW.cell HX9.out (by show ¬ _ = _; simp only; omega); have l1 := hW.cell p0c (by show ¬ _ = _; simp only; omega); go_simp; exact rfl
                try simp only [Act.put, List.setIfInBounds_toArray, List.set_cons_succ, List.set_cons_zero]
                refine qC_take (i := 1) (s := some 118) (v := ?v2) rfl rfl (by kernel_rfl) (by kernel_rfl) (by kernel_rfl) (fun _ _ _ h => h) HXD.out (by kernel_rfl) ?hy2 ?h2
                case hy2 => intro W hW; have e4 := hew4; have hg0 := HGB.out; have hg1 := HGW.out; have l0 := hW.cell HX9.out (by show ¬ _ = _; simp only; omega); have l1 := hW.cell p0c (by show ¬ _ = _; simp only; omega); go_simp; exact rfl
                try simp only [Act.put, List.setIfInBounds_toArray, List.set_cons_succ, List.set_cons_zero]
                refine qC_take (i := 2) (s := some 119) (v := ?v3) rfl rfl (by kernel_rfl) (by kernel_rfl) (by kernel_rfl) (fun _ _ _ h => h) HXD.out (by kernel_rfl) ?hy3 ?h3
                case hy3 => intro W hW; have e4 := hew4; have hg0 := HGB.out; have hg1 := HGW.out; have l0 := hW.cell HX9.out (by show ¬ _ = _; simp only; omega); have l1 := hW.cell p0c (by show ¬ _ = _; simp only; omega); go_simp; exact rfl
                try simp only [Act.put, List.setIfInBounds_toArray, List.set_cons_succ, List.set_cons_zero]
                refine qC_take (i := 3) (s := some 120) (v := ?v4) rfl rfl (by kernel_rfl) (by kernel_rfl) (by kernel_rfl) (fun _ _ _ h => h) HXD.out (by kernel_rfl) ?hy4 ?h4
                case hy4 => intro W hW; have e4 := hew4; have hg0 := HGB.out; have hg1 := HGW.out; have l0 := hW.cell HX9.out (by show ¬ _ = _; simp only; omega); have l1 := hW.cell p0c (by show ¬ _ = _; simp only; omega); go_simp; exact rfl
                try simp only [Act.put, List.setIfInBounds_toArray, List.set_cons_succ, List.set_cons_zero]
                refine qC_take (i := 4) (s := some 121) (v := ?v5) rfl rfl (by kernel_rfl) (by kernel_rfl) (by kernel_rfl) (fun _ _ _ h => h) HXD.out (by kernel_rfl) ?hy5 ?h5
                case hy5 => intro W hW; have e4 := hew4; have hg0 := HGB.out; have hg1 := HGW.out; have l0 := hW.cell HX9.out (by show ¬ _ = _; simp only; omega); have l1 := hW.cell p0c (by show ¬ _ = _; simp only; omega); go_simp; exact rfl
                try simp only [Act.put, List.setIfInBounds_toArray, List.set_cons_succ, List.set_cons_zero]
                refine qC_take (i := 5) (s := some 122) (v := ?v6) rfl rfl (by kernel_rfl) (by kernel_rfl) (by kernel_rfl) (fun _ _ _ h => h) HXD.out (by kernel_rfl) ?hy6 ?h6
                case hy6 => intro W hW; have e4 := hew4; have hg0 := HGB.out; have hg1 := HGW.out; have l0 := hW.cell HX9.out (by show ¬ _ = _; simp only; omega); have l1 := hW.cell p0c (by show ¬ _ = _; simp only; omega); go_simp; exact rfl
                try simp only [Act.put, List.setIfInBounds_toArray, List.set_cons_succ, List.set_cons_zero]
                refine qC_take (i := 7) (s := some 124) (v := ?v7) rfl rfl (by kernel_rfl) (by kernel_rfl) (by kernel_rfl) (fun _ _ _ h => h) HXD.out (by kernel_rfl) ?hy7 ?h7
                case hy7 => intro W hW; have e4 := hew4; have hg0 := HGB.out; have hg1 := HGW.out; have l0 := hW.cell HX9.out (by show ¬ _ = _; simp only; omega); have l1 := hW.cell p0c (by show ¬ _ = _; simp only; omega); go_simp; exact rfl
                try simp only [Act.put, List.setIfInBounds_toArray, List.set_cons_succ, List.set_cons_zero]
                refine qC_take (i := 8) (s := some 125) (v := ?v8) rfl rfl (by kernel_rfl) (by kernel_rfl) (by kernel_rfl) (fun _ _ _ h => h) HXD.out (by kernel_rfl) ?hy8 ?h8
                case hy8 => intro W hW; have e4 := hew4; have hg0 := HGB.out; have hg1 := HGW.out; have l0 := hW.cell HX9.out (by show ¬ _ = _; simp only; omega); have l1 := hW.cell p0c (by show ¬ _ = _; simp only; omega); go_simp; exact rfl
                try simp only [Act.put, List.setIfInBounds_toArray, List.set_cons_succ, List.set_cons_zero]
                refine qC_take (i := 9) (s := some 126) (v := ?v9) rfl rfl (by kernel_rfl) (by kernel_rfl) (by kernel_rfl) (fun _ _ _ h => h) HXD.out (by kernel_rfl) ?hy9 ?h9
                case hy9 => intro W hW; have e4 := hew4; have hg0 := HGB.out; have hg1 := HGW.out; have l0 := hW.cell HX9.out (by show ¬ _ = _; simp only; omega); have l1 := hW.cell p0c (by show ¬ _ = _; simp only; omega); go_simp; exact rfl
                try simp only [Act.put, List.setIfInBounds_toArray, List.set_cons_succ, List.set_cons_zero]
                refine qC_take (i := 10) (s := some 127) (v := ?v10) rfl rfl (by kernel_rfl) (by kernel_rfl) (by kernel_rfl) (fun _ _ _ h => h) HXD.out (by kernel_rfl) ?hy10 ?h10
                case hy10 => intro W hW; have e4 := hew4; have hg0 := HGB.out; have hg1 := HGW.out; have l0 := hW.cell HX9.out (by show ¬ _ = _; simp only; omega); have l1 := hW.cell p0c (by show ¬ _ = _; simp only; omega); go_simp; exact rfl
                try simp only [Act.put, List.setIfInBounds_toArray, List.set_cons_succ, List.set_cons_zero]
                refine qC_take (i := 13) (s := some 130) (v := ?v11) rfl rfl (by kernel_rfl) (by kernel_rfl) (by kernel_rfl) (fun _ _ _ h => h) HXD.out (by kernel_rfl) ?hy11 ?h11
                case hy11 => intro W hW; have e4 := hew4; have hg0 := HGB.out; have hg1 := HGW.out; have l0 := hW.cell HX9.out (by show ¬ _ = _; simp only; omega); have l1 := hW.cell p0c (by show ¬ _ = _; simp only; omega); go_simp; exact rfl
                try simp only [Act.put, List.setIfInBounds_toArray, List.set_cons_succ, List.set_cons_zero]
                refine qC_take (i := 14) (s := some 131) (v := ?v12) rfl rfl (by kernel_rfl) (by kernel_rfl) (by kernel_rfl) (fun _ _ _ h => h) HXD.out (by kernel_rfl) ?hy12 ?h12
                case hy12 => intro W hW; have e4 := hew4; have hg0 := HGB.out; have hg1 := HGW.out; have l0 := hW.cell HX9.out (by show ¬ _ = _; simp only; omega); have l1 := hW.cell p0c (by show ¬ _ = _; simp only; omega); go_simp; exact rfl
                try simp only [Act.put, List.setIfInBounds_toArray, List.set_cons_succ, List.set_cons_zero]
                refine wpAnyC_one 6 (by kernel_rfl) rfl (by kernel_rfl) (fun KK hKK => ?_)
                go_simp
                obtain ⟨wb, hwb⟩ : ∃ z, z = (wr.alloc (.cells #[] 5)).drew.drew := ⟨_, rfl⟩
                have X6 : Hid (Ext wr wb) := Lib.hid (by rw [hwb]; exact ((Ext.refl wr).alloc _).drew.drew)
                have O6 : Hid (OB wb wr.heap.size (.slice (some ⟨wr.heap.size, 0, none⟩) 0 0) []) := Lib.hid (by
                  rw [hwb]
                  have h1 : OB (wr.alloc (.cells #[] 5)) wr.heap.size (.slice (some ⟨wr.heap.size, 0, none⟩) 0 0) [] := ⟨rfl, .inr ⟨wr.heap.size, 0, #[], rfl, Nat.le_refl _, heap_alloc_new wr _, Nat.le_refl _, by simp only [maxLen]; omega, rfl, rfl⟩⟩
                  exact h1.ext (Ext.refl _).drew.drew)
                try rw [← hwb]
                refine hKK _ _ (Mod.of_ext _ X6.out) ?_
                clear hKK KK hwb
                try simp only [Act.put, List.setIfInBounds_toArray, List.set_cons_succ, List.set_cons_zero]
                refine wpAnyC_one 11 (by kernel_rfl) rfl (by kernel_rfl) (fun KK hKK => ?_)
                refine opwp_append_ob (w0 := wr) _ _ (.tmp 123) (.tmp 127) 42 Try.underlying42 rfl _ [] rfl X6.out O6.out _ _ _ _ rfl (HPL.out.ext X6.out) (by simp; omega) ?_
                intro v7 w7 HO7 HX7
                obtain ⟨A7, c7, rfl, -, -⟩ := HO7.out.bs.slice
                refine hKK _ _ (Mod.of_ext _ HX7.out) ?_
                clear hKK KK
                change wpAnyC _ _ _ _ _ _ _ (Act.put _ (some 128) (.slice A7 _ c7)) _
                try simp only [Act.put, List.setIfInBounds_toArray, List.set_cons_succ, List.set_cons_zero]
                refine qC_take (i := 12) (s := some 129) (v := ?v13) rfl rfl (by kernel_rfl) (by kernel_rfl) (by kernel_rfl) (fun _ _ _ h => h) (Mod.of_ext _ HX7.out) (by kernel_rfl) ?hy13 ?h13
                case hy13 => intro W hW; skip; go_simp; exact rfl
                try simp only [Act.put, List.setIfInBounds_toArray, List.set_cons_succ, List.set_cons_zero]
                have HR7 := Lib.hid (HRC.out.ext HX7.out)
                have e0 := (HR7.out).cell (j := 0) rfl
                have e1 := (HR7.out).cell (j := 1) rfl
                have e2 := (HR7.out).cell (j := 2) rfl
                have q0 := (HR7.out).frozen (j := 0) (by simp)
                have q1 := (HR7.out).frozen (j := 1) (by simp)
                have q2 := (HR7.out).frozen (j := 2) (by simp)
                refine wpAnyC_one 15 (by kernel_rfl) rfl (by kernel_rfl) (fun KK hKK => ?_)
                go_simp
                obtain ⟨hr9, hm9⟩ := row_set3 HR7.out (.int .i64 x.toNat) (.int .i64 p0) (.slice A7 (min en (r.length + 1) - at_) c7)
                have HR9 := Lib.hid hr9
                have HM9 := Lib.hid (Mod.ext (((Mod.of_ext (fun _ => False) (HXW.out.trans HX7.out)).then hm9 (fun i hi => .inr (by omega)))) (fun _ h => h.elim))
                have HO9 := Lib.hid (HO7.out.mod hm9 (fun g hg e => by have := HXW.out.size; have := HPC.out.lt; have := HGW.out; omega))
                have HM8 := Lib.hid ((Mod.of_ext (fun x => x = w.heap.size) HX7.out).trans hm9)
                refine hKK _ _ HM8.out ?_
                clear hKK KK hr9 hm9
                try simp only [Act.put, List.setIfInBounds_toArray, List.set_cons_succ, List.set_cons_zero]
                refine qC_take (i := 16) (s := some 3) (v := ?v14) rfl rfl (by kernel_rfl) (by kernel_rfl) (by kernel_rfl) (fun _ _ _ h => h) HM8.out (by kernel_rfl) ?hy14 ?h14
                case hy14 => intro W hW; skip; go_simp; exact rfl
                try simp only [Act.put, List.setIfInBounds_toArray, List.set_cons_succ, List.set_cons_zero]
                refine qC_take (i := 17) (s := some 4) (v := ?v15) rfl rfl (by kernel_rfl) (by kernel_rfl) (by kernel_rfl) (fun _ _ _ h => h) HM8.out (by kernel_rfl) ?hy15 ?h15
                case hy15 => intro W hW; skip; go_simp; exact rfl
                try simp only [Act.put, List.setIfInBounds_toArray, List.set_cons_succ, List.set_cons_zero]
                refine ⟨by kernel_rfl, ?_⟩
                go_wp2_with fail
                have r0 := HR9.out.cell (j := 0) rfl
                have r1 := HR9.out.cell (j := 1) rfl
                have r2 := HR9.out.cell (j := 2) rfl
                refine bodyPost_ret (by simp [results, Try.results89, go_sem, r0, r1, r2]; try rfl) rfl ?_
                refine ⟨HM9.out, ?_⟩
                rw [HC2.out]
                have hb := HO9.out.any (show w.heap.size ≤ wr.heap.size from HXW.out.size)
                rw [List.nil_append] at hb
                refine ⟨.slice A7 (min en (r.length + 1) - at_) c7, ?_, by rw [show (((x :: r).take en).drop at_).length = min en (r.length + 1) - at_ by simp] at hb; exact hb⟩
                simp only [hy, HP0.out]
                simp
              · have hvi : ((V : Int) != (S : Int)) = true := by rw [bne_iff_ne]; omega
                have HC2 := HC.out
                rw [if_neg (fun h => hv (HVB.out.1 h))] at HC2
                have HC2 := Lib.hid HC2
                have e0 := (HRC.out).cell (j := 0) rfl
                have e1 := (HRC.out).cell (j := 1) rfl
                have e2 := (HRC.out).cell (j := 2) rfl
                have q0 := (HRC.out).frozen (j := 0) (by simp)
                have q1 := (HRC.out).frozen (j := 1) (by simp)
                have q2 := (HRC.out).frozen (j := 2) (by simp)
                obtain ⟨hr9, hm9⟩ := row_set3 HRC.out (.int .i64 0) (.int .i64 0) (.slice none 0 0)
                have HR9 := Lib.hid hr9
                have HM9 := Lib.hid (Mod.ext (((Mod.of_ext (fun _ => False) HXW.out).then hm9 (fun i hi => .inr (by omega)))) (fun _ h => h.elim))
                clear hr9 hm9 hv
                go_upto_region 22 with (go_at_call 96; refine HS.out.mono ?_; rintro e w1 ⟨rfl, rfl⟩)
                go_region
                go_wp2_with fail
                have r0 := HR9.out.cell (j := 0) rfl
                have r1 := HR9.out.cell (j := 1) rfl
                have r2 := HR9.out.cell (j := 2) rfl
                refine bodyPost_ret (by simp [results, Try.results89, go_sem, r0, r1, r2]; try rfl) rfl ?_
                exact ⟨HM9.out.drew, by rw [HC2.out]; exact ⟨12, rfl⟩⟩
end Go.Proofs.Ytepigkjgjlibcaa
namespace Go.Proofs.Ytepigkjgjlibcaa.FL
/-! package device -/
def filled (d : Bs) : Bs := d ++ List.replicate (512 - d.length) 255
def wrp (x : Int) : Int := (x + 9223372036854775808) % 18446744073709551616 - 9223372036854775808
structure Blk where
  pages : List (Option Bs)
  worn : Int
def nextF (b : Blk) : Nat := b.pages.findIdx (fun p => p.isNone)
structure Oper where
  block : Nat
  page : Nat
  data : Option Bs
structure Dev where
  durable : List Blk
  now : List Blk
  pending : List Oper
  off : Bool
  planned : Bool
  left : Nat
def newDev (blocks pages : Nat) : Dev := ⟨List.replicate blocks ⟨List.replicate pages none, 0⟩, List.replicate blocks ⟨List.replicate pages none, 0⟩, [], false, false, 0⟩
def Dev.npages (d : Dev) : Nat := match d.now with | [] => 0 | b :: _ => b.pages.length
/-- power: whether there is power, and the device behind the call -/
def powerF (d : Dev) : Bool × Dev :=
  let d1 := if d.planned ∧ d.left = 0 then { d with off := true, planned := false } else d
  if d1.off then (false, d1) else (true, if d1.planned then { d1 with left := d1.left - 1 } else d1)
def setPage (b : Blk) (p : Nat) (x : Option Bs) : Blk := { b with pages := b.pages.set p x }
def eraseB (b : Blk) : Blk := ⟨List.replicate b.pages.length none, wrp (b.worn + 1)⟩
def setB (l : List Blk) (i : Nat) (f : Blk → Blk) : List Blk := match l[i]? with | none => l | some b => l.set i (f b)
/-- Program: the code (0: no error) and the device -/
def programD (d : Dev) (block page : Int) (data : Bs) : Nat × Dev :=
  if block < 0 ∨ d.now.length ≤ block then (1, d) else if page < 0 ∨ d.npages ≤ page then (1, d) else
  if 512 < data.length then (5, d) else
  match d.now[block.toNat]? with
  | none => (1, d)
  | some b => if (nextF b : Int) ≠ page then (6, d) else
    match powerF d with
    | (false, d1) => (11, d1)
    | (true, d1) => (0, { d1 with now := setB d1.now block.toNat (fun b => setPage b page.toNat (some (filled data))), pending := d1.pending ++ [⟨block.toNat, page.toNat, some (filled data)⟩] })
def eraseD (d : Dev) (block : Int) : Nat × Dev :=
  if block < 0 ∨ d.now.length ≤ block then (1, d) else
  match powerF d with
  | (false, d1) => (11, d1)
  | (true, d1) => (0, { d1 with now := setB d1.now block.toNat eraseB, pending := d1.pending ++ [⟨block.toNat, 0, none⟩] })
def syncD (d : Dev) : Nat × Dev :=
  match powerF d with
  | (false, d1) => (11, d1)
  | (true, d1) => (0, { d1 with durable := d1.now, pending := [] })
def failD (d : Dev) (n : Int) : Dev := if d.off then d else { d with planned := true, left := n.toNat }
/-- one pending operation at a crash -/
def crashOp (s : List Blk × List Bool) (o : Oper) (k : Int) : List Blk × List Bool :=
  if s.2.getD o.block false then s else
  match o.data with
  | none => if 0 < k then (setB s.1 o.block eraseB, s.2) else (s.1, s.2.set o.block true)
  | some x => if 0 < k then (setB s.1 o.block (fun b => setPage b o.page (some (filled (x.take (min k 512).toNat)))), s.2) else s
def crashOps : List Oper → List Int → List Blk × List Bool → List Blk × List Bool
  | [], _, s => s
  | o :: r, ks, s => crashOps r ks.tail (crashOp s o (ks.headD 0))
/-- pages below a programmed one are blank -/
def fillBelow (l : List (Option Bs)) : List (Option Bs) :=
  l.zipIdx.map fun p => match p.1 with | some x => some x | none => if (l.drop p.2).any (·.isSome) then some (filled []) else none
def crashD (d : Dev) (keep : List Int) : Dev :=
  let l := (crashOps d.pending keep (d.durable, List.replicate d.durable.length false)).1.map fun b => { b with pages := fillBelow b.pages }
  ⟨l, l, [], false, false, 0⟩
/-! package flashlog -/
structure Pg where
  kind : Nat
  number : Nat
  segment : Nat
  part : Nat
  parts : Nat
  data : Bs
structure Ent where
  kind : Nat
  number : Nat
  segment : Nat
  pages : Nat
  key : Bs
  value : Bs
structure LB where
  next : Nat
  segment : Nat
  number : Nat
  entries : List Ent
structure Log where
  d : Dev
  blocks : List LB
  open_ : Int
  number : Nat
  segment : Nat
  cleaned : Int
  broken : Bool
def readF (b : Bs) : Option Pg :=
  match decF b with
  | .inr _ => none
  | .inl r =>
    if b.length ≠ 512 ∨ b.length ≤ r.size ∨ (r.kind ≠ 1 ∧ r.kind ≠ 2) then none else
    if (b.drop r.size).any (· ≠ 0) then none else
    let s := uintF (some r.payload)
    let p := uintF s.2
    let q := uintF p.2
    match q.2 with
    | none => none
    | some left => if 1099511627776 < s.1 ∨ q.1 < 1 ∨ q.1 ≤ p.1 then none else some ⟨r.kind, r.number, s.1, p.1, q.1, left⟩
/-- the page at an index of a list that is to be one entry -/
def fitsF (f : Pg) (n i : Nat) (p : Pg) : Bool :=
  decide (p.kind = f.kind ∧ p.number = f.number ∧ p.segment = f.segment ∧ p.parts = n ∧ p.part = i) && !(decide (i + 1 < n ∧ p.data.length ≠ 480)) && decide (1 ≤ p.data.length ∧ p.data.length ≤ 480)
def joinF (list : List Pg) : Option Ent :=
  match list with
  | [] => none
  | f :: _ =>
    if list.zipIdx.all (fun p => fitsF f list.length p.2 p.1) then
      match textF (some (list.flatMap (·.data))) with
      | (_, none) => none
      | (k, some v) => if k.length < 1 ∨ 2048 < k.length ∨ (f.kind = 2 ∧ v ≠ []) then none else some ⟨f.kind, f.number, f.segment, list.length, k, v⟩
    else none
def atF (pages : List (Option Pg)) (k : Nat) : Option Ent :=
  match pages[k]? with
  | some (some p) => if pages.length - k < p.parts ∨ ((pages.drop k).take p.parts).any (·.isNone) then none else joinF (((pages.drop k).take p.parts).filterMap id)
  | _ => none
def entriesF (pages : List (Option Pg)) : Nat → Nat → List Ent
  | 0, _ => []
  | f + 1, k => if pages.length ≤ k then [] else match atF pages k with
    | some e => e :: entriesF pages f (k + e.pages)
    | none => entriesF pages f (k + 1)
def maxL (l : List Nat) : Nat := l.foldl max 0
def scanF (b : Blk) : LB :=
  let pg := b.pages.map fun p => readF (match p with | none => filled [] | some x => x)
  ⟨nextF b, maxL (pg.map fun p => match p with | some p => p.segment | none => 0), maxL (pg.map fun p => match p with | some p => p.number | none => 0), entriesF pg b.pages.length 0⟩
def loadF (l : Log) : Log :=
  let bs := l.d.now.map scanF
  { l with blocks := bs, open_ := -1, number := bs.foldl (fun n b => max n (b.number + 1)) 1, segment := bs.foldl (fun n b => max n (b.segment + 1)) 1 }
def freeF (l : Log) : List Nat := (List.range l.blocks.length).filter fun i => match l.blocks[i]? with | some b => decide (b.next = 0) | none => false
/-- every entry with its block and its index -/
def allEnts (l : Log) : List (Nat × Nat × Ent) := (l.blocks.zipIdx.flatMap fun b => b.1.entries.zipIdx.map fun e => (b.2, e.2, e.1))
def elsewhereF (l : Log) (i : Nat) (kind number : Nat) (key : Bs) (exact_ : Bool) : Bool := (allEnts l).any fun x => decide (x.1 ≠ i ∧ x.2.2.key = key ∧ x.2.2.kind = kind) && (!exact_ || decide (x.2.2.number = number))
def segOf (l : Log) (i : Nat) : Nat := match l.blocks[i]? with | some b => b.segment | none => 0
def newer (l : Log) (x y : Nat × Nat × Ent) : Bool := decide (y.2.2.number < x.2.2.number ∨ x.2.2.number = y.2.2.number ∧ segOf l y.1 < segOf l x.1)
def newestF (l : Log) (key : Bs) : Option (Nat × Nat × Ent) := (allEnts l).foldl (fun b x => if x.2.2.key = key then (match b with | none => some x | some y => if newer l x y then some x else b) else b) none
def liveF (l : Log) (i k : Nat) (e : Ent) : Bool :=
  match newestF l e.key with
  | none => false
  | some y => decide (y.1 = i ∧ y.2.1 = k) && (decide (e.kind = 1) || elsewhereF l i 1 e.number e.key false)
def livesF (l : Log) (i : Nat) (key : Bs) : List Ent := match l.blocks[i]? with
  | none => []
  | some b => (b.entries.zipIdx.filter fun p => decide (p.1.key ≠ key) && liveF l i p.2 p.1).map (·.1)
def pagesOf (l : List Ent) : Nat := (l.map (·.pages)).sum
def spareCount (l : Log) (i : Nat) (b : LB) : Nat := pagesOf ((b.entries.zipIdx.filter fun p => liveF l i p.2 p.1 && !elsewhereF l i p.1.kind p.1.number p.1.key true).map (·.1))
def spareStep (l : Log) (s : Option Nat × Nat) (p : LB × Nat) : Option Nat × Nat :=
  let best := if (decide (spareCount l p.2 p.1 = 0) && (match s.1 with | none => true | some b => decide (p.1.segment < segOf l b))) = true then some p.2 else s.1
  (best, if segOf l s.2 < p.1.segment then p.2 else s.2)
def spareF (l : Log) : Nat := match l.blocks.zipIdx.foldl (spareStep l) (none, 0) with | (some b, _) => b | (none, last) => last
def chop (n : Nat) : Nat → Bs → List Bs
  | 0, _ => []
  | f + 1, b => if b = [] then [] else b.take n :: chop n f (b.drop n)
def partsF (key value : Bs) : List Bs := let b := numF key.length ++ (key ++ value); chop 480 b.length b
def pageF (e : Ent) (seg i n : Nat) (x : Bs) : Bs := let b := encF e.kind e.number (numF seg ++ (numF i ++ (numF n ++ x))); b ++ List.replicate (512 - b.length) 0
/-- the pages of an entry are programmed one after the other: the code, the device, how many were programmed -/
def progPages (e : Ent) (seg blk n : Nat) : List Bs → Nat → Nat → Dev → Nat × Dev × Nat
  | [], _, next, d => (0, d, next)
  | x :: r, i, next, d => match programD d blk next (pageF e seg i n x) with
    | (0, d1) => progPages e seg blk n r (i + 1) (next + 1) d1
    | (c, d1) => (c, d1, next)
def setLB (l : Log) (i : Nat) (f : LB → LB) : Log := match l.blocks[i]? with | none => l | some b => { l with blocks := l.blocks.set i (f b) }
def programF (l : Log) (e : Ent) : Nat × Log :=
  match l.blocks[l.open_.toNat]? with
  | none => (0, l)
  | some b =>
    let ps := partsF e.key e.value
    match progPages e b.segment l.open_.toNat ps.length ps 0 b.next l.d with
    | (0, d1, nx) => (0, { setLB l l.open_.toNat (fun b => ⟨nx, b.segment, max b.number e.number, b.entries ++ [⟨e.kind, e.number, b.segment, ps.length, e.key, e.value⟩]⟩) with d := d1 })
    | (c, d1, nx) => (c, { setLB l l.open_.toNat (fun b => { b with next := nx }) with d := d1, broken := true })
def beginF (l : Log) (i : Nat) : Log := { setLB l i (fun b => { b with segment := l.segment }) with open_ := i, segment := l.segment + 1 }
def wornOf (l : Log) (i : Nat) : Int := match l.d.now[i]? with | some b => b.worn | none => 0
def youngestF (l : Log) (free : List Nat) : Nat := match free with
  | [] => 0
  | f :: r => r.foldl (fun b i => if wornOf l i < wornOf l b then i else b) f
def victimStep (l : Log) (key : Bs) (s : Option (Nat × Nat)) (p : LB × Nat) : Option (Nat × Nat) :=
  if p.1.next = 0 then s else
  let n := pagesOf (livesF l p.2 key)
  match s with
  | none => some (p.2, n)
  | some (b, m) => if n < m ∨ n = m ∧ p.1.segment < segOf l b then some (p.2, n) else s
def victimF (l : Log) (key : Bs) : Option (Nat × Nat) := l.blocks.zipIdx.foldl (victimStep l key) none
def progAll : List Ent → Log → Nat × Log
  | [], l => (0, l)
  | e :: r, l => match programF l e with
    | (0, l1) => progAll r l1
    | (c, l1) => (c, l1)
def cleanF (l : Log) (i tb : Nat) (e : Ent) : Nat × Log :=
  let list := livesF l i e.key
  let l1 := { beginF l tb with number := l.number + 1 }
  match progAll (list ++ [e]) l1 with
  | (0, l2) => match syncD l2.d with
    | (0, d3) => match eraseD d3 i with
      | (0, d4) => (0, { setLB l2 i (fun _ => ⟨0, 0, 0, []⟩) with d := d4, cleaned := wrp (l2.cleaned + 1) })
      | (c, d4) => (c, { l2 with d := d4, broken := true })
    | (c, d3) => (c, { l2 with d := d3, broken := true })
  | (c, l2) => (c, l2)
def openRoom (l : Log) : Int := match l.blocks[l.open_.toNat]? with | some b => (l.d.npages : Int) - b.next | none => 0
def writeF (l : Log) (kind : Nat) (key value : Bs) : Nat × Log :=
  let e : Ent := ⟨kind, l.number, 0, 0, key, value⟩
  let k := (partsF key value).length
  if 1099511627776 < l.number then (10, l) else
  if 0 ≤ l.open_ ∧ (k : Int) ≤ openRoom l then programF { l with number := l.number + 1 } e else
  let free := freeF l
  if 1099511627776 < l.segment ∨ free = [] then (10, l) else
  if 2 ≤ free.length then programF { beginF l (youngestF l free) with number := l.number + 1 } e else
  match victimF l key with
  | none => (10, l)
  | some (i, n) => if (l.d.npages : Int) - k < n then (10, l) else cleanF l i (free.headD 0) e
def putF (l : Log) (key value : Bs) : Nat × Log :=
  if l.broken then (6, l) else if key.length < 1 ∨ 2048 < key.length then (8, l) else
  if 16384 < value.length ∨ l.d.npages < (partsF key value).length then (5, l) else writeF l 1 key value
def getF (l : Log) (key : Bs) : Bs ⊕ Nat :=
  if l.broken then .inr 6 else match newestF l key with
  | none => .inr 3
  | some y => if y.2.2.kind = 1 then .inl y.2.2.value else .inr 3
def deleteF (l : Log) (key : Bs) : Nat × Log := match getF l key with
  | .inr c => (c, l)
  | .inl _ => writeF l 2 key []
def syncF (l : Log) : Nat × Log := if l.broken then (6, l) else match syncD l.d with
  | (0, d1) => (0, { l with d := d1 })
  | (c, d1) => (c, { l with d := d1, broken := true })
/-- Open of a device that is there: the code, the log (or none), the device -/
def openF (d : Dev) : Nat × Option Log × Dev :=
  if d.now.length < 3 then (1, none, d) else
  let l := loadF ⟨d, [], 0, 0, 0, 0, false⟩
  if freeF l ≠ [] then (0, some l, d) else
  match eraseD d (spareF l) with
  | (0, d1) => match syncD d1 with
    | (0, d2) => (0, some (loadF { l with d := d2 }), d2)
    | (c, d2) => (c, none, d2)
  | (c, d1) => (c, none, d1)
def freeBytes (l : Log) : Nat :=
  if l.broken ∨ 1099511627776 < l.number then 0 else
  let pages : Int := if 0 ≤ l.open_ then openRoom l else 0
  let free := freeF l
  let pages2 : Int := if l.segment ≤ 1099511627776 ∧ 2 ≤ free.length then l.d.npages else
    if l.segment ≤ 1099511627776 ∧ free.length = 1 then (match victimF l [] with | some (_, n) => max pages ((l.d.npages : Int) - n) | none => pages) else pages
  (480 * pages2).toNat
end Go.Proofs.Ytepigkjgjlibcaa.FL
