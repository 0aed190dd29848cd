/- Chapter 23: package record: joined, AppendUint, AppendText, Read, take, the cursor. Chapter 23: package record: the cursor. Regions that draw their order, whose head reads and calls functions that may make memory (but hand back plain values), and whose tail (a store, an append) comes last in one order alone: one walk in the order of the text serves all orders. A region that draws its order, whose first n operations all come before the others: they read and call functions that may make memory (but hand back plain values), in whatever order; then the others, of which nothing is asked. Regions that draw their order, in a class of worlds that no operation leaves: an operation that reads (the same value in every world of the class) may be taken first, whatever calls stand beside it. Two operations may come up in a region that draws its order. -/
import Derived.Test.YtepigkjgjlibcaaGAA
import Derived.Laws.MakeOwn
import Derived.Lib.AppendStr
import Derived.StillTail
namespace Go.Proofs.Ytepigkjgjlibcaa
open Go.RowKit Go.Deep Go.Proofs.Ytepigkjgjlibcaa.FL
set_option maxRecDepth 100000 in
theorem joined_any {w : World} {a b : Value} {l m : Bs} (ha : BS w a l) (hb : BS w b m) (hz : l.length + m.length ≤ 1000000) :
    Calls Try.prog 76 #[a, b] w fun e w' => ∃ v, e = .returned v ∧ Ext w w' ∧ OB w' w.heap.size v (l ++ m) := by
  obtain ⟨i0, hi0, hz0, hz1, hz2⟩ := info_parts u8_info23
  obtain ⟨wm, hmk, hown, hg⟩ := run_make_own (P := Try.prog) w w.heap.size 42 5 i0 _ 1 Try.underlying42 hi0 hz0 hz1 .i64 .i64 (l.length + m.length) (by rw [hz2]; omega) (by simp only [maxLen]; omega) (Nat.le_refl _)
  have XM : Ext w wm := Below.grown (Ext.refl w) hg (Nat.le_refl _) (fun k hk => by cases hk)
  have HO : Hid (OB wm w.heap.size (.slice (some ⟨w.heap.size, 0, none⟩) 0 (l.length + m.length)) []) := Lib.hid hown
  have HX := Lib.hid XM
  rw [Int.natCast_add] at hmk
  obtain ⟨A, ca, rfl, -, -⟩ := ha.slice
  obtain ⟨A2, cb, rfl, -, -⟩ := hb.slice
  have HA := Lib.hid (ha.ext XM)
  have HB := Lib.hid hb
  clear ha hb hown hg XM hi0 hz0 hz1 hz2
  go_enter Try.func76, Try.ntmps76
  go_upto_region 2 with fail
  clear hmk
  go_wp2_with (first
    | (at_builtin; refine wpList_append_obx (w0 := w) _ rfl (.tmp 12) (.tmp 13) 42 Try.underlying42 rfl _ [] rfl HX.out HO.out _ _ _ l rfl HA.out (by simp; omega) ?_; intro v2 w2 HO2 HX2 _; have HB2 := Lib.hid (HB.out.ext HX2.out))
    | (at_builtin; refine wpList_append_obx (w0 := w) _ rfl (.tmp 14) (.tmp 15) 42 Try.underlying42 rfl v2 l rfl HX2.out (by have := HO2.out; rwa [List.nil_append] at this) _ _ _ m rfl HB2.out (by omega) ?_; intro v3 w3 HO3 HX3 _))
  go_ret
  exact ⟨_, rfl, HX3.out, HO3.out⟩
theorem OB.any {w : World} {B B' : Nat} {v : Value} {l : Bs} (h : OB w B v l) (hb : B' ≤ B) : OB w B' v l := by
  refine ⟨h.1, h.2.imp id ?_⟩
  rintro ⟨g, cap, cur, e, h1, h2⟩
  exact ⟨g, cap, cur, e, Nat.le_trans hb h1, h2⟩
theorem appuint_any {w : World} {a : Value} {l : Bs} (ha : BS w a l) (n : Nat) (hn : n ≤ 4611686018427387904) (hz : l.length ≤ 900000) :
    Calls Try.prog 73 #[a, .int .i64 n] w fun e w' => ∃ v, e = .returned v ∧ Ext w w' ∧ OB w' w.heap.size v (l ++ numF n) := by
  have HN := Lib.hid (number_any n hn w)
  have HA := Lib.hid ha
  have HZ := Lib.hid (numF_len n hn)
  clear ha
  go_enter Try.func73, Try.ntmps73
  go_wp2_with (first
    | (go_at_call 77; refine HN.out.mono ?_; rintro e w1 ⟨v1, rfl, hx1, ho1⟩)
    | (go_at_call 76; refine (joined_any (HA.out.ext hx1) ho1.bs (by have := HZ.out; omega)).mono ?_; rintro e w2 ⟨v2, rfl, hx2, ho2⟩))
  go_ret
  exact ⟨_, rfl, hx1.trans hx2, ho2.any hx1.size⟩
/-- the string of some bytes -/
abbrev st (l : Bs) : ByteArray := ⟨l.toArray⟩
theorem st_size (l : Bs) : (st l).size = l.length := rfl
theorem st_cells (l : Bs) : Lib.strCells (st l) = by8 l := rfl
/-- append of a string to an owned byte slice -/
theorem wpList_append_obs {w0 : World} (w : World) {ops : Array Go.Oper} {rest : List Go.Oper} {o : Go.Oper} {a : Act} {Q : Exit → Act → World → Prop} (hgd : o.guard = none) (s x : Operand)
    (ho : o.op = .call { callee := .builtin .append, args := #[s, x], argTypes := #[42, 9] }) (v : Value) (l : Bs) (hs : a.eval s = v) (hX : Ext w0 w) (hown : OB w w0.heap.size v l)
    (m : Bs) (hx : a.eval x = .string (st m)) (hz : l.length + m.length ≤ 140737488355328)
    (h : ∀ v' w', Hid (OB w' w0.heap.size v' (l ++ m)) → Hid (Ext w0 w') → Hid (w.grownBy w' v.ownBlock) → wpList Try.prog ops Q rest (a.put o.dst v') w') : wpList Try.prog ops Q (o :: rest) a w := by
  obtain ⟨i0, hi0, hz0, hz1, hz2⟩ := info_parts u8_info23
  refine Lib.wpList_append_own_string w hgd s x 42 9 ho w0.heap.size 5 i0 Try.underlying42 Try.underlying9 hi0 hz0 hz1 hz2 v l.length _ hs hown (st m) hx (by rw [st_size]; simp only [maxLen]; omega) (by rw [st_size]; omega) hX.size ?_
  intro v' w' h1 h2 _
  rw [st_size, st_cells] at h1
  refine h v' w' (Lib.hid ?_) (Lib.hid (Below.grown hX h2 hX.size hown.own_ge)) (Lib.hid h2)
  unfold OB
  rw [List.length_append, by8_append]
  exact h1
set_option maxRecDepth 100000 in
theorem apptext_any {w : World} {a : Value} {l : Bs} (ha : BS w a l) (m : Bs) (hz : l.length + m.length ≤ 900000) :
    Calls Try.prog 63 #[a, .string (st m)] w fun e w' => ∃ v, e = .returned v ∧ Ext w w' ∧ OB w' w.heap.size v (l ++ (numF m.length ++ m)) := by
  have HN := Lib.hid (number_any m.length (by omega) w)
  have HA := Lib.hid ha
  have HZ := Lib.hid (numF_len m.length (by omega))
  have hsz : ((st m).size : Int) = (m.length : Int) := rfl
  clear ha
  obtain ⟨S, hS⟩ : ∃ S, S = st m := ⟨_, rfl⟩
  rw [← hS] at hsz ⊢
  have HSS := Lib.hid hS
  clear hS
  go_enter Try.func63, Try.ntmps63
  go_wp2_with (first
    | (go_at_call 77; refine HN.out.mono ?_; rintro e w1 ⟨v1, rfl, hx1, ho1⟩)
    | (at_builtin; refine wpList_append_obs (w0 := w) _ rfl (.tmp 8) (.tmp 9) rfl v1 _ rfl hx1 ho1 m (by rw [← HSS.out]; rfl) (by have := HZ.out; omega) ?_; intro v2 w2 HO2 HX2 _)
    | (go_at_call 76; refine (joined_any (HA.out.ext HX2.out) HO2.out.bs (by have := HZ.out; simp; omega)).mono ?_; rintro e w3 ⟨v3, rfl, hx3, ho3⟩))
  go_ret
  exact ⟨_, rfl, HX2.out.trans hx3, ho3.any HX2.out.size⟩
theorem BS.at {w : World} {A : Option Addr} {n cap : Nat} {l : Bs} (h : BS w (.slice A n cap) l) : ∀ i (hi : i < l.length), ∃ g o, A = some ⟨g, o, none⟩ ∧ w.cell? ⟨g, o + i, none⟩ = some (.int .u8 (l[i].toNat : Nat)) := by
  intro i hi
  rcases h with ⟨e, rfl⟩ | ⟨g, o, cap', e, -, -, hr⟩
  · simp at hi
  · cases e
    exact ⟨g, o, rfl, hr i _ (by unfold by8; rw [List.getElem?_map, List.getElem?_eq_getElem hi]; rfl)⟩
theorem acc_step {a y k : Nat} (ha : a < 128 ^ k) (hy : y < 256) (hk : k ≤ 8) :
    bits .or .u64 (a : Int) (IntKind.u64.wrap (IntKind.u64.wrap (bits .and .u8 (y : Int) 127) * 2 ^ (7 * k))) = ((a + y % 128 * 2 ^ (7 * k) : Nat) : Int) ∧ a + y % 128 * 2 ^ (7 * k) < 128 ^ (k + 1) := by
  have hp : 2 ^ (7 * k) ≤ 2 ^ 56 := Nat.pow_le_pow_right (by decide) (by omega)
  have hp2 : (2 : Nat) ^ 56 = 72057594037927936 := by decide
  have h128 : 128 ^ k = 2 ^ (7 * k) := by rw [show (128 : Nat) = 2 ^ 7 by decide, ← Nat.pow_mul]
  have h129 : 128 ^ (k + 1) = 2 ^ (7 * k) * 128 := by rw [Nat.pow_succ, h128]
  rw [h128] at ha
  rw [h129]
  obtain ⟨M, hM⟩ : ∃ M, M = 2 ^ (7 * k) := ⟨_, rfl⟩
  have hMi : (2 : Int) ^ (7 * k) = (M : Int) := by rw [hM]; simp
  rw [← hM] at ha hp ⊢
  rw [hMi, u8_and127 (x := (y : Int)) (by omega) (by omega)]
  have hz : y % 128 < 128 := Nat.mod_lt _ (by decide)
  have e0 : (y : Int) % 128 = ((y % 128 : Nat) : Int) := by omega
  obtain ⟨z, hzz⟩ : ∃ z, z = y % 128 := ⟨_, rfl⟩
  rw [e0, ← hzz]
  rw [← hzz] at hz
  have hzM : z * M ≤ 127 * M := Nat.mul_le_mul_right _ (by omega)
  have e1 : IntKind.u64.wrap (z : Int) = (z : Int) := by rw [IntKind.wrap_u64]; omega
  have e2 : IntKind.u64.wrap ((z : Int) * (M : Int)) = ((z * M : Nat) : Int) := by rw [IntKind.wrap_u64, ← Int.natCast_mul]; omega
  rw [e1, e2, bits_or_u64_nat a (z * M) (by omega) (by omega)]
  have e3 : a ||| z * M = a + z * M := by
    rw [Nat.or_comm, Nat.mul_comm z M, hM, ← Nat.two_pow_add_eq_or_of_lt (by rw [← hM]; exact ha) z]
    omega
  refine ⟨by rw [e3], ?_⟩
  omega
theorem takeF_nil (B i acc : Nat) : takeF B [] i acc = (0, 0) := rfl
theorem takeF_cons (B : Nat) (x : UInt8) (r : Bs) (i acc : Nat) : takeF B (x :: r) i acc = if x.toNat < 128 then (if x.toNat = 0 ∧ 0 < i then (0, -1) else (acc + x.toNat % 128 * 2 ^ (7 * i), (i : Int) + 1)) else if i + 1 = B then (0, -1) else takeF B r (i + 1) (acc + x.toNat % 128 * 2 ^ (7 * i)) := by
  simp only [takeF]
set_option maxRecDepth 100000 in
theorem take_any {w : World} {v : Value} {l : Bs} (h : BS w v l) (B : Nat) (hB : 1 ≤ B ∧ B ≤ 9) (hl : l.length ≤ 1000000) :
    Calls Try.prog 103 #[v, .int .i64 B] w fun e w' => e = .returned (.tuple #[.int .i64 (takeF B l 0 0).1, .int .i64 (takeF B l 0 0).2]) ∧ w = w' := by
  obtain ⟨A, cap, rfl, hcap, -⟩ := h.slice
  have HR := Lib.hid h.at
  obtain ⟨N, hN⟩ : ∃ N, N = l.length := ⟨_, rfl⟩
  have HN := Lib.hid hN
  obtain ⟨T, hT⟩ : ∃ T, T = takeF B l 0 0 := ⟨_, rfl⟩
  have HT := Lib.hid hT
  rw [← hT, ← hN]
  rw [← hN] at hl hcap
  clear h hN hT
  go_enter Try.func103, Try.ntmps103
  go_wp2_with fail
  go_loopw [6, 11] (fun a i wr => ∃ k a' : Nat, k ≤ N ∧ k < B ∧ i = .int .i64 k ∧ a = .int .u64 a' ∧ a' < 128 ^ k ∧ wr = w ∧ Hid (takeF B (l.drop k) k a' = T)) (fun _ i _ => N - (intOf i).toNat)
  case atStart => exact ⟨0, 0, by omega, by omega, rfl, rfl, by simp, rfl, Lib.hid (by rw [List.drop_zero]; exact HT.out.symm)⟩
  case round =>
    obtain ⟨k, a', hk, hkB, rfl, rfl, ha, rfl, hP⟩ := hrel
    by_cases hlt : k < N
    · have hki : (k : Int) < (N : Int) := by omega
      obtain ⟨g, o, rfl, hc⟩ := HR.out k (by rw [← HN.out]; exact hlt)
      have hd : l.drop k = l[k]'(by rw [← HN.out]; exact hlt) :: l.drop (k + 1) := List.drop_eq_getElem_cons _
      obtain ⟨x, hx⟩ : ∃ x, x = l[k]'(by rw [← HN.out]; exact hlt) := ⟨_, rfl⟩
      rw [← hx] at hd hc
      have hx8 : x.toNat < 256 := x.toNat_lt
      obtain ⟨hacc, hacc2⟩ := acc_step ha hx8 (by omega)
      have HP := Lib.hid hP.out
      rw [hd, takeF_cons] at HP
      obtain ⟨y, hy⟩ : ∃ y, y = x.toNat := ⟨_, rfl⟩
      rw [← hy] at hacc hacc2 HP hc hx8
      obtain ⟨nx, hnx⟩ : ∃ nx, nx = a' + y % 128 * 2 ^ (7 * k) := ⟨_, rfl⟩
      rw [← hnx] at hacc hacc2 HP
      clear hP hnx hd hx hy ha
      go_upto_region 6 with fail
      clear hc hacc
      by_cases hy1 : y < 128
      · have hyi : (y : Int) < 128 := by omega
        have HP2 := Lib.hid HP.out
        rw [if_pos hy1] at HP2
        by_cases hz : y = 0 ∧ 0 < k
        · rw [if_pos hz] at HP2
          obtain ⟨rfl, hk0⟩ := hz
          have hk1 : (0 : Int) < (k : Int) := by omega
          clear HP hacc2
          go_wp2_with fail
          go_ret2
          exact ⟨by rw [← HP2.out]; rfl, rfl⟩
        · rw [if_neg hz] at HP2
          have hnx9 : nx ≤ 9223372036854775807 := by
            have h1 : 128 ^ (k + 1) ≤ 128 ^ 9 := Nat.pow_le_pow_right (by decide) (by omega)
            have h2 : (128 : Nat) ^ 9 = 9223372036854775808 := by decide
            omega
          have hw : IntKind.i64.wrap (nx : Int) = (nx : Int) := IntWalk.i64_in (nx : Int) (by omega)
          have HZ := Lib.hid hz
          clear HP hacc2 hz hnx9
          by_cases hy0 : y = 0
          · subst hy0
            obtain rfl : k = 0 := by have := HZ.out; omega
            go_wp2_with fail
            go_ret2
            exact ⟨by rw [← HP2.out]; rfl, rfl⟩
          · have hy2 : ((y : Int) == 0) = false := by rw [beq_eq_false_iff_ne]; omega
            go_wp2_with fail
            go_ret2
            exact ⟨by rw [← HP2.out]; rfl, rfl⟩
      · have hyi : (128 : Int) ≤ (y : Int) := by omega
        have HP2 := Lib.hid HP.out
        rw [if_neg hy1] at HP2
        have HA := Lib.hid hacc2
        clear HP hacc2
        by_cases hkb : k + 1 = B
        · rw [if_pos hkb] at HP2
          have hkb2 : ((k : Int) == (B : Int) - 1) = true := by rw [beq_iff_eq]; omega
          go_wp2_with fail
          go_ret2
          exact ⟨by rw [← HP2.out]; rfl, rfl⟩
        · rw [if_neg hkb] at HP2
          have hkb2 : ((k : Int) == (B : Int) - 1) = false := by rw [beq_eq_false_iff_ne]; omega
          go_wp2_with fail
          go_roundw
          case rel => exact ⟨k + 1, nx, by omega, by omega, by go_num, by first | rfl | trivial, HA.out, by first | rfl | trivial, HP2⟩
          case measure => simp [intOf]; omega
    · obtain rfl : k = N := by omega
      have HP2 := Lib.hid hP.out
      rw [show l.drop k = [] from List.drop_eq_nil_of_le (by rw [← HN.out]; exact Nat.le_refl _), takeF_nil] at HP2
      clear hP ha
      go_wp2_with fail
      go_ret2
      exact ⟨by rw [← HP2.out]; rfl, rfl⟩
end Go.Proofs.Ytepigkjgjlibcaa
namespace Go.Proofs.Ytepigkjgjlibcaa
open Go.RowKit Go.Deep Go.Proofs.Ytepigkjgjlibcaa.FL
structure CurAt (w : World) (c : Nat) (s : Cur) : Prop where
  row : ∃ v ev, RowB w c 171 [v, ev] ∧ match s with | none => ev = errV 2 | some l => ev = .nilIface ∧ BS w v l
theorem CurAt.ext {w w' : World} {c : Nat} {s : Cur} (h : CurAt w c s) (hx : Ext w w') : CurAt w' c s := by
  obtain ⟨v, ev, hr, hs⟩ := h.row
  refine ⟨v, ev, hr.ext hx, ?_⟩
  cases s with
  | none => exact hs
  | some l => exact ⟨hs.1, hs.2.ext hx⟩
theorem takeF_le (B : Nat) : ∀ (l : Bs) (i acc : Nat), (takeF B l i acc).2 ≤ (i + l.length : Nat)
  | [], i, acc => by simp [takeF_nil]
  | x :: r, i, acc => by
    rw [takeF_cons]
    have := takeF_le B r (i + 1) (acc + x.toNat % 128 * 2 ^ (7 * i))
    simp only [List.length_cons]
    split
    · split
      · show (-1 : Int) ≤ _
        omega
      · show ((i : Int) + 1) ≤ _
        omega
    · split
      · show (-1 : Int) ≤ _
        omega
      · omega
theorem BS.drop {w : World} {g o n cap : Nat} {l : Bs} (h : BS w (.slice (some ⟨g, o, none⟩) n cap) l) (k : Nat) (hk : k ≤ l.length) : BS w (.slice (some ⟨g, o + k, none⟩) (n - k) (cap - k)) (l.drop k) := by
  rcases h with ⟨e, -⟩ | ⟨g', o', cap', e, hc, hb, hr⟩
  · cases e
  · cases e
    refine .inr ⟨g, o + k, cap - k, by rw [List.length_drop], by rw [List.length_drop]; omega, hb, fun i u hu => ?_⟩
    rw [Nat.add_assoc]
    refine hr (k + i) u ?_
    rw [← hu]
    unfold by8
    rw [List.getElem?_map, List.getElem?_map, List.getElem?_drop]
theorem BS.zero {w : World} {g o n cap : Nat} {l : Bs} (h : BS w (.slice (some ⟨g, o, none⟩) n cap) l) (c : Nat) : BS w (.slice (some ⟨g, o, none⟩) 0 c) [] := by
  rcases h with ⟨e, -⟩ | ⟨g', o', cap', e, hc, hb, hr⟩
  · cases e
  · cases e
    exact .inr ⟨g, o, c, rfl, Nat.zero_le _, hb, fun i u hu => by simp [by8] at hu⟩
set_option maxRecDepth 100000 in
theorem read_any {w : World} {v : Value} {l : Bs} (h : BS w v l) (hl : l.length ≤ 1000000) :
    Calls Try.prog 90 #[v] w fun e w' => ∃ c, e = .returned (.pointer (some ⟨c, 0, none⟩)) ∧ Ext w w' ∧ w.heap.size ≤ c ∧ CurAt w' c (some l) := by
  obtain ⟨A, cap, rfl, hcap, -⟩ := h.slice
  have X1 : Ext w (w.alloc (.cells #[] 5)) := (Ext.refl w).alloc _
  have HB := Lib.hid (h.ext X1)
  have HO : Hid (OB (w.alloc (.cells #[] 5)) w.heap.size (.slice (some ⟨w.heap.size, 0, none⟩) 0 0) []) := Lib.hid ⟨rfl, .inr ⟨w.heap.size, 0, #[], rfl, Nat.le_refl _, heap_alloc_new w _, Nat.le_refl _, by simp only [maxLen]; omega, rfl, rfl⟩⟩
  have HX := Lib.hid X1
  clear h X1
  go_enter Try.func90, Try.ntmps90
  go_wp2_with (at_builtin; refine wpList_append_obx (w0 := w) _ rfl (.tmp 3) (.tmp 4) 42 Try.underlying42 rfl _ [] rfl HX.out HO.out _ _ _ l rfl HB.out (by simp; omega) ?_; intro v2 w2 HO2 HX2 _; obtain ⟨A2, c2, rfl, -, -⟩ := HO2.out.bs.slice)
  go_ret
  refine ⟨_, rfl, HX2.out.alloc _, HX2.out.size, ⟨_, _, row_laid w2 _ _, rfl, ?_⟩⟩
  have := HO2.out.bs.ext ((Ext.refl w2).alloc (.cells #[.slice A2 ([] ++ l).length c2, .nilIface] 171))
  exact this
theorem mod_set (w : World) (c i : Nat) (v : Value) : Mod (fun x => x = c) w (w.setCell ⟨c, i, none⟩ v) := (Mod.refl (fun x => x = c) w).setCell (p := ⟨c, i, none⟩) (.inl rfl) v
theorem no8_row {w : World} {c : Nat} {T : TypeId} {xs : List Value} (h : RowB w c T xs) (hT : T ≠ 5) : No8 w (fun x => x = c) := by
  intro g C fr hg e
  obtain ⟨C', fr', rest, h1, -, -⟩ := h
  rw [← e, hg] at h1
  cases h1
  exact hT rfl
theorem cfail_any {w : World} {c : Nat} {v ev : Value} (h : RowB w c 171 [v, ev]) :
    Calls Try.prog 104 #[.pointer (some ⟨c, 0, none⟩)] w fun e w' => e = .returned (.tuple #[]) ∧ Mod (fun x => x = c) w w' ∧ CurAt w' c none := by
  have c0 := h.cell (j := 0) rfl
  have c1 := h.cell (j := 1) rfl
  have f0 := h.frozen (j := 0) (by simp)
  have f1 := h.frozen (j := 1) (by simp)
  have hm := ((Mod.refl (fun x => x = c) w).setCell (p := ⟨c, 1, none⟩) (.inl rfl) (errV 2)).setCell (p := ⟨c, 0, none⟩) (.inl rfl) (.slice none 0 0)
  have hr := Lib.hid ((h.set 1 (errV 2) (by simp)).set 0 (.slice none 0 0) (by simp))
  have HM := Lib.hid hm
  clear h hm
  go_enter Try.func104, Try.ntmps104
  go_wp2_with fail
  go_end0
  exact ⟨rfl, HM.out, ⟨_, _, hr.out, rfl⟩⟩
def curErr (s : Cur) : Value := if s.isSome then .nilIface else errV 2
theorem err_any {w : World} {c : Nat} {s : Cur} (h : CurAt w c s) : Calls Try.prog 92 #[.pointer (some ⟨c, 0, none⟩)] w fun e w' => e = .returned (curErr s) ∧ w = w' := by
  obtain ⟨v, ev, hr, hs⟩ := h.row
  have c1 := hr.cell (j := 1) rfl
  clear h hr
  cases s with
  | none =>
    subst hs
    go_enter Try.func92, Try.ntmps92
    go_wp2_with fail
    go_ret
    exact ⟨rfl, rfl⟩
  | some l =>
    obtain ⟨rfl, -⟩ := hs
    go_enter Try.func92, Try.ntmps92
    go_wp2_with fail
    go_ret
    exact ⟨rfl, rfl⟩
theorem left_any {w : World} {c : Nat} {l : Bs} (h : CurAt w c (some l)) : Calls Try.prog 93 #[.pointer (some ⟨c, 0, none⟩)] w fun e w' => e = .returned (.int .i64 l.length) ∧ w = w' := by
  obtain ⟨v, ev, hr, -, hb⟩ := h.row
  obtain ⟨A, cap, rfl, -, -⟩ := hb.slice
  have c0 := hr.cell (j := 0) rfl
  clear h hr hb
  go_enter Try.func93, Try.ntmps93
  go_wp2_with fail
  go_ret
  exact ⟨rfl, rfl⟩
set_option maxRecDepth 100000 in
theorem uint_any {w : World} {c : Nat} {s : Cur} (h : CurAt w c s) (hl : ∀ l, s = some l → l.length ≤ 1000000) :
    Calls Try.prog 91 #[.pointer (some ⟨c, 0, none⟩)] w fun e w' => e = .returned (.int .i64 (uintF s).1) ∧ Mod (fun x => x = c) w w' ∧ CurAt w' c (uintF s).2 := by
  obtain ⟨v, ev, hr, hs⟩ := h.row
  cases s with
  | none =>
    subst hs
    have c1 := hr.cell (j := 1) rfl
    have H := Lib.hid h
    clear h hr hl
    go_enter Try.func91, Try.ntmps91
    go_wp2_with fail
    go_ret
    exact ⟨rfl, Mod.refl _ _, H.out⟩
  | some l =>
    obtain ⟨rfl, hb⟩ := hs
    have hl1 := hl l rfl
    have HT := Lib.hid (take_any hb 9 (by omega) hl1)
    have HLE := Lib.hid (takeF_le 9 l 0 0)
    have HB := Lib.hid hb
    obtain ⟨A, cap, rfl, hcap, hA⟩ := hb.slice
    have HR := Lib.hid hr
    have c0 := hr.cell (j := 0) rfl
    have c1 := hr.cell (j := 1) rfl
    have f0 := hr.frozen (j := 0) (by simp)
    have hu : uintF (some l) = if (takeF 9 l 0 0).2 < 1 ∨ 4611686018427387904 < (takeF 9 l 0 0).1 then (0, none) else ((takeF 9 l 0 0).1, some (l.drop (takeF 9 l 0 0).2.toNat)) := rfl
    obtain ⟨T, hT⟩ : ∃ T, T = takeF 9 l 0 0 := ⟨_, rfl⟩
    rw [← hT] at HT HLE hu
    rw [hu]
    obtain ⟨n, k⟩ := T
    have HF := Lib.hid (cfail_any hr)
    simp only at HT HLE
    have HCP := Lib.hid hcap
    clear h hr hl hb hT hu hcap
    by_cases hk : k < 1
    · rw [if_pos (.inl hk)]
      go_enter Try.func91, Try.ntmps91
      go_wp2_with (first
        | (go_at_call 103; refine HT.out.mono ?_; rintro e w1 ⟨rfl, rfl⟩)
        | (go_at_call 104; refine HF.out.mono ?_; rintro e w1 ⟨rfl, hm1, hc1⟩))
      go_ret
      exact ⟨rfl, hm1, hc1⟩
    · have hn0 : ¬ ((n : Int) < 0) := by omega
      by_cases hn : 4611686018427387904 < n
      · have hni : (4611686018427387904 : Int) < (n : Int) := by omega
        rw [if_pos (.inr hn)]
        go_enter Try.func91, Try.ntmps91
        go_wp2_with (first
          | (go_at_call 103; refine HT.out.mono ?_; rintro e w1 ⟨rfl, rfl⟩)
          | (go_at_call 104; refine HF.out.mono ?_; rintro e w1 ⟨rfl, hm1, hc1⟩))
        go_ret
        exact ⟨rfl, hm1, hc1⟩
      · have hni : (n : Int) ≤ 4611686018427387904 := by omega
        rw [if_neg (by omega)]
        obtain ⟨K, rfl⟩ : ∃ K : Nat, k = (K : Int) := ⟨k.toNat, by omega⟩
        have HLK := Lib.hid (show K ≤ l.length by have := HLE.out; omega)
        have HK1 := Lib.hid (show 1 ≤ K by omega)
        obtain ⟨g, o, rfl⟩ := hA (by rintro rfl; have := HLK.out; have := HK1.out; simp at *; omega)
        have hlk : K ≤ l.length := HLK.out
        have hcp : l.length ≤ cap := HCP.out
        have hk1 : ¬ ((K : Int) < 1) := by have := HK1.out; omega
        have hn1 : ¬ ((4611686018427387904 : Int) < (n : Int)) := by omega
        clear hk hn HF hni
        go_enter Try.func91, Try.ntmps91
        go_upto_region 7 with (go_at_call 103; refine HT.out.mono ?_; rintro e w1 ⟨rfl, rfl⟩)
        go_wp2_with fail
        all_goals go_ret
        all_goals refine ⟨rfl, mod_set _ _ _ _, ⟨_, _, HR.out.set 0 _ (by simp), rfl, ?_⟩⟩
        all_goals refine BS.mod (F := fun x => x = c) ?_ (mod_set _ _ _ _) (no8_row HR.out (by decide))
        all_goals first
          | exact HB.out.drop K HLK.out
          | (have hz : l.length - K = 0 := by omega
             have hd : l.drop K = [] := List.drop_eq_nil_of_le (by omega)
             try rw [hz]
             rw [hd]
             exact HB.out.zero _)
theorem uintF_le {s : Cur} {l : Bs} (h : (uintF s).2 = some l) : ∃ m, s = some m ∧ l.length ≤ m.length := by
  cases s with
  | none => cases h
  | some m =>
    refine ⟨m, rfl, ?_⟩
    unfold uintF at h
    simp only at h
    split at h
    · cases h
    · cases h
      rw [List.length_drop]
      omega
theorem conv_nil (w : World) : (convert 42 9 (.slice none 0 0)).run Try.prog w = .ok (.string (st [])) w := by kernel_rfl
theorem conv_st {w : World} {A : Option Addr} {m cap n : Nat} {l : Bs} (h : BS w (.slice A m cap) l) (hn : n ≤ l.length) : (convert 42 9 (.slice A n cap)).run Try.prog w = .ok (.string (st (l.take n))) w := by
  have key : st (l.take n) = strOfNums ((l.take n).map fun b => (b.toNat : Int)) := by
    unfold strOfNums st
    congr 2
    rw [List.map_map]
    symm
    refine (List.map_congr_left fun b _ => ?_).trans (List.map_id _)
    simp
  rcases h with ⟨e, rfl⟩ | ⟨g, o, cap', e, hc, ⟨C, fr, hg⟩, hr⟩
  · cases e
    obtain rfl : n = 0 := by simpa using hn
    exact conv_nil w
  · cases e
    rw [key]
    refine run_convert_bytes_arg (P := Try.prog) w 42 5 Try.underlying42 Try.underlying5 g o n cap _ (by simp; omega) (fun i hi => ?_) 9 Try.underlying9
    have h1 : i < l.length := by omega
    have := hr i (.int .u8 (l[i].toNat : Nat)) (by unfold by8; rw [List.getElem?_map, List.getElem?_eq_getElem h1]; rfl)
    rw [this]
    simp [List.getD, List.getElem?_take_of_lt hi, List.getElem?_eq_getElem h1]
set_option maxRecDepth 100000 in
theorem text23_any {w : World} {c : Nat} {s : Cur} (h : CurAt w c s) (hl : ∀ l, s = some l → l.length ≤ 1000000) :
    Calls Try.prog 106 #[.pointer (some ⟨c, 0, none⟩)] w fun e w' => e = .returned (.string (st (textF s).1)) ∧ Mod (fun x => x = c) w w' ∧ CurAt w' c (textF s).2 := by
  have HU := Lib.hid (uint_any h hl)
  have HLE := Lib.hid (fun l (hu : (uintF s).2 = some l) => by
    obtain ⟨m, h1, h2⟩ := uintF_le hu
    exact Nat.le_trans h2 (hl m h1))
  have htx : textF s = match uintF s with
    | (_, none) => ([], none)
    | (n, some b) => if b.length < n then ([], none) else (b.take n, some (b.drop n)) := rfl
  rw [htx]
  clear h hl htx
  generalize uintF s = u at *
  obtain ⟨n, b⟩ := u
  cases b with
  | none =>
    go_enter Try.func106, Try.ntmps106
    go_upto_region 2 with (go_at_call 91; refine HU.out.mono ?_; rintro e w1 ⟨rfl, hm1, hc1⟩)
    obtain ⟨v, ev, hr, rfl⟩ := hc1.row
    have c1 := hr.cell (j := 1) rfl
    have HC := Lib.hid hc1
    have HM := Lib.hid hm1
    clear hc1 hm1 hr
    go_wp2_with fail
    go_ret
    exact ⟨rfl, HM.out, HC.out⟩
  | some l =>
    have hl1 : l.length ≤ 1000000 := HLE.out l rfl
    by_cases hn : l.length < n
    · have hni : (l.length : Int) < (n : Int) := by omega
      simp only [if_pos hn]
      go_enter Try.func106, Try.ntmps106
      go_upto_region 2 with (go_at_call 91; refine HU.out.mono ?_; rintro e w1 ⟨rfl, hm1, hc1⟩)
      obtain ⟨v, ev, hr, rfl, hb⟩ := hc1.row
      obtain ⟨A, cap, rfl, hcap, hA⟩ := hb.slice
      have HF := Lib.hid (cfail_any hr)
      have c0 := hr.cell (j := 0) rfl
      have c1 := hr.cell (j := 1) rfl
      have f0 := hr.frozen (j := 0) (by simp)
      have HM := Lib.hid hm1
      have HB := Lib.hid hb
      have HR := Lib.hid hr
      clear hc1 hm1 hr hb
      go_wp2_with (go_at_call 104; refine HF.out.mono ?_; rintro e w2 ⟨rfl, hm2, hc2⟩)
      go_ret
      exact ⟨rfl, HM.out.trans hm2, hc2⟩
    · have hni : (n : Int) ≤ (l.length : Int) := by omega
      simp only [if_neg hn]
      go_enter Try.func106, Try.ntmps106
      go_upto_region 2 with (go_at_call 91; refine HU.out.mono ?_; rintro e w1 ⟨rfl, hm1, hc1⟩)
      obtain ⟨v, ev, hr, rfl, hb⟩ := hc1.row
      obtain ⟨A, cap, rfl, hcap, hA⟩ := hb.slice
      have HF := Lib.hid (cfail_any hr)
      have c0 := hr.cell (j := 0) rfl
      have c1 := hr.cell (j := 1) rfl
      have f0 := hr.frozen (j := 0) (by simp)
      have HM := Lib.hid hm1
      have HB := Lib.hid hb
      have HR := Lib.hid hr
      clear hc1 hm1 hr hb
      have HNL := Lib.hid (show n ≤ l.length by omega)
      have hcv : (convert 42 9 (.slice A n cap)).run Try.prog w1 = .ok (.string (st (l.take n))) w1 := conv_st HB.out HNL.out
      obtain ⟨S, hS⟩ : ∃ S, S = st (l.take n) := ⟨_, rfl⟩
      have HSS := Lib.hid hS
      rw [← hS] at hcv
      clear hn hS
      cases A with
      | none =>
        obtain rfl : l = [] := by
          rcases HB.out with ⟨-, e⟩ | ⟨g, o, cp, e, -⟩
          · exact e
          · cases e
        obtain rfl : n = 0 := by have := HNL.out; simpa using this
        obtain rfl : cap = 0 := by
          rcases HB.out with ⟨e, -⟩ | ⟨g, o, cp, e, -⟩
          · cases e; rfl
          · cases e
        clear hni
        go_wp2_with fail
        go_ret
        exact ⟨ret_str HSS.out, HM.out.trans (mod_set _ _ _ _), ⟨_, _, HR.out.set 0 _ (by simp), rfl, BS.nil _⟩⟩
      | some a =>
        obtain ⟨g, o, rfl⟩ : ∃ g o, a = ⟨g, o, none⟩ := by
          rcases HB.out with ⟨e, -⟩ | ⟨g, o, cp, e, -⟩
          · cases e
          · cases e; exact ⟨g, o, rfl⟩
        have hlk : n ≤ l.length := HNL.out
        go_wp2_with fail
        all_goals go_ret
        all_goals refine ⟨ret_str HSS.out, HM.out.trans (mod_set _ _ _ _), ⟨_, _, HR.out.set 0 _ (by simp), rfl, ?_⟩⟩
        all_goals refine BS.mod (F := fun x => x = c) ?_ (mod_set _ _ _ _) (no8_row HR.out (by decide))
        all_goals first
          | exact HB.out.drop n HNL.out
          | (have hz : l.length - n = 0 := by omega
             have hd : l.drop n = [] := List.drop_eq_nil_of_le (by omega)
             try rw [hz]
             rw [hd]
             exact HB.out.zero _)
end Go.Proofs.Ytepigkjgjlibcaa
namespace Go.Proofs.Ytepigkjgjlibcaa
open Go.RowKit

section
variable {P : Program} {ops : Array Oper} {md : Region.Mode} {C : World → Prop}

/-- f operations of the head come up, in whatever order; then L -/
def headQ (P : Program) (md : Region.Mode) (ops : Array Oper) (C : World → Prop) (n : Nat) (L : Array Bool → Act → Prop) : Nat → Array Bool → Act → Prop
  | 0, seen, a => L seen a
  | f + 1, seen, a => Region.ready md ops seen ≠ [] ∧ ∀ i ∈ Region.ready md ops seen, i < n ∧ qOp P ops C i (headQ P md ops C n L f (seen.setIfInBounds i true)) a

theorem any_of_headQ {n g : Nat} {L : Array Bool → Act → Prop} {Q : Exit → Act → World → Prop} (hL : ∀ seen a w, C w → L seen a → wpAny P md ops Q g seen a w) :
    ∀ (f : Nat) (seen : Array Bool) (a : Act) (w : World), C w → headQ P md ops C n L f seen a → wpAny P md ops Q (f + g) seen a w
  | 0, _, _, _, hw, h => by rw [Nat.zero_add]; exact hL _ _ _ hw h
  | f + 1, _, _, _, hw, h => by
    rw [Nat.add_right_comm]
    exact ⟨fun h0 => absurd h0 h.1, fun i hi => wpOp_of_qOp hw (fun a' w' hw' h' => any_of_headQ hL f _ a' w' hw' h') (h.2 i hi).2⟩

theorem headQ_first {n i : Nat} {oi : Oper} {v : Value} {L : Array Bool → Act → Prop} (hi : ops[i]? = some oi) (hsel : ∀ (j : Nat) (o : Oper) cs b, ops[j]? = some o → o.op ≠ .select cs b)
    (hs : Region.sinkB md ops n = true) (hc : Region.chainB md ops n = true) (hn : n < ops.size) (hin : i < n) (hdone : ∀ seen a, L seen a → ∀ j ∈ Region.ready md ops seen, n ≤ j) (f : Nat) :
    ∀ (seen : Array Bool) (a : Act), HeadInv md ops n seen →
      (∀ j oj, ops[j]? = some oj → j ≠ i → seen.getD j true = false → (∀ e ∈ oj.after, Region.binds md e = true → e.on ≠ i) → oi.apart ops oj = true) →
      i ∈ Region.ready md ops seen → YieldsIn P ops C oi v a →
      headQ P md ops C n L f (seen.setIfInBounds i true) (a.put oi.dst v) → headQ P md ops C n L (f + 1) seen a := by
  induction f with
  | zero =>
    intro seen a inv _ hr hy H
    refine ⟨fun h => by simp [h] at hr, fun j hj => ?_⟩
    have hjn : j < n := Nat.lt_of_not_le fun h => tail_waits hs hc hn inv _ i rfl hin (mem_ready.1 hr).1 j h hj
    refine ⟨hjn, ?_⟩
    rcases Nat.decEq j i with hji | rfl
    · exact absurd (hdone _ _ H j (ready_mono hj hji)) (by omega)
    · exact hy.qOp hi H
  | succ f ih =>
    intro seen a inv hfree hr hy H
    refine ⟨fun h => by simp [h] at hr, fun j hj => ?_⟩
    have hjn : j < n := Nat.lt_of_not_le fun h => tail_waits hs hc hn inv _ i rfl hin (mem_ready.1 hr).1 j h hj
    refine ⟨hjn, ?_⟩
    rcases Nat.decEq j i with hji | rfl
    · obtain ⟨hjun, oj, hoj, hall⟩ := mem_ready.1 hj
      have hno : ∀ e ∈ oj.after, Region.binds md e = true → e.on ≠ i := fun e he hb heq => by
        have h1 := hall e he hb
        rw [heq, getD_both (mem_ready.1 hr).1] at h1
        exact Bool.noConfusion h1
      have hq := qOp_put hoj (hfree j oj hoj hji hjun hno) (fun cs b => hsel i oi cs b hi) (fun cs b => hsel j oj cs b hoj) hy (H.2 j (ready_mono hj hji)).2
      refine qOp_mono (fun a' h3 => ih _ a' (inv.set hj hjn) (fun k ok hk hki hun hno' => hfree k ok hk hki ?_ hno') (ready_mono hr (Ne.symm hji)) h3.1 ?_) hq
      · rcases Nat.decEq j k with hjk | rfl
        · rwa [getD_set_ne true hjk] at hun
        · exact hjun
      · rw [Array.setIfInBounds_comm _ _ hji]
        exact h3.2
    · exact hy.qOp hi H

theorem headQ_lex {n g : Nat} {Lq : Act → Prop} (hsel : Region.noSelect ops = true) (hs : Region.sinkB md ops n = true) (hc : Region.chainB md ops n = true) (hn : n < ops.size) :
    ∀ (l : List Oper) (k : Nat) (seen : Array Bool) (a : Act), (∀ j, j < l.length → l[j]? = ops[k + j]?) → k + l.length = n → HeadInv md ops n seen →
    Region.lexHead md ops g l.length k seen = true → wpQuiet P ops C Lq l a →
    headQ P md ops C n (fun seen' a' => Region.seqB md ops g n seen' = true ∧ Lq a') l.length seen a
  | [], k, seen, a, _, hk, _, hB, h => by
    obtain rfl : k = n := hk
    exact ⟨hB, h⟩
  | o :: l, k, seen, a, hl, hk, inv, hB, h => by
    have h0 : ops[k]? = some o := by have := hl 0 (by simp); simpa using this.symm
    simp only [List.length_cons, Region.lexHead, Bool.and_eq_true] at hB
    obtain ⟨⟨hr, hf⟩, hB'⟩ := hB
    simp only [List.length_cons] at hk
    have hkn : k < n := by omega
    have hq : qOp P ops C k (wpQuiet P ops C Lq l) a := by unfold qOp; simp only [h0]; exact h
    obtain ⟨v, hy, hK⟩ := yieldsIn_of_qOp h0 hq
    have hr' : k ∈ Region.ready md ops seen := by simpa using hr
    refine headQ_first h0 (Region.noSelect_spec hsel) hs hc hn hkn (fun _ _ hL => seqB_ready hL.1) l.length seen a inv (Region.free_spec h0 hf) hr' hy ?_
    refine headQ_lex hsel hs hc hn l (k + 1) _ _ (fun j hj => ?_) (by omega) (inv.set hr' hkn) hB' hK
    have := hl (j + 1) (by simp; omega)
    simpa [Nat.add_assoc, Nat.add_comm 1 j] using this

theorem wp_region_tail {id : Nat} {Q : Exit → Act → World → Prop} {a : Act} {w : World} {l : List Oper} (n : Nat) (hm : P.follows .mixedOrders = true) (hB : Region.lexTailB .any l.toArray n = true) (hC : C w.drew)
    (h : wpQuiet P l.toArray C (fun a' => ∀ w', C w' → wpList P l.toArray Q (l.drop n) a' w') (l.take n) a) : (Code.region id l.toArray true).wp P Q a w := by
  simp only [Region.lexTailB, Bool.and_eq_true, decide_eq_true_eq] at hB
  obtain ⟨⟨⟨⟨hsel, hn⟩, hs⟩, hc⟩, hlex⟩ := hB
  have hn' : n < l.length := by simpa using hn
  have htl : (l.take n).length = n := by simp; omega
  have hdl : (l.drop n).length = l.toArray.size - n := by simp
  have inv0 : HeadInv .any l.toArray n (Array.replicate l.toArray.size false) :=
    ⟨by simp, fun j oj _ hl => by rw [getD_replicate_false] at hl; exact Bool.noConfusion hl, fun t _ ht => getD_in (by simpa using ht) (getD_replicate_false _ _)⟩
  have H := headQ_lex (md := .any) (g := l.toArray.size - n) hsel hs hc hn (l.take n) 0 _ a (fun j hj => by rw [htl] at hj; simp [hj]) (by simpa using htl) inv0 (by rw [htl]; exact hlex) h
  refine wp_region_any hm ?_
  have hr := any_of_headQ (Q := Q) (g := l.toArray.size - n) (fun seen a' w' hw' hL => by
    have := wpAny_of_seq (md := .any) (Q' := Q) (l.drop n) n seen a' w' (fun j => by simp [List.getElem?_drop]) (by rw [hdl]; exact hL.1) (hL.2 w' hw')
    rwa [hdl] at this) _ _ _ _ hC H
  rw [htl, show n + (l.toArray.size - n) = l.toArray.size by omega] at hr
  exact hr
end

/-- the same, in the class of the worlds that extend w -/
theorem wp_region_wd_tail {P : Program} {id : Nat} {Q : Exit → Act → World → Prop} {a : Act} {w : World} {l : List Oper} (n : Nat) (hm : P.follows .mixedOrders = true) (hB : Region.lexTailB .any l.toArray n = true)
    (h : wpQuiet P l.toArray (fun w' => ∃ m : Wd w, w' = m.val) (fun a' => ∀ w', (∃ m : Wd w, w' = m.val) → wpList P l.toArray Q (l.drop n) a' w') (l.take n) a) : (Code.region id l.toArray true).wp P Q a w :=
  wp_region_tail (C := fun w' => ∃ m : Wd w, w' = m.val) n hm hB ⟨⟨w.drew, (Ext.refl w).drew⟩, rfl⟩ h
end Go.Proofs.Ytepigkjgjlibcaa
namespace Go.Proofs.Ytepigkjgjlibcaa
open Go.RowKit

section
variable {P : Program} {ops : Array Oper} {md : Region.Mode} {C : World → Prop}

/-- operation n - 1 is behind all before it; each one from n on waits for it, or for one from n on that stands before it -/
def gateB (md : Region.Mode) (ops : Array Oper) (n : Nat) : Bool :=
  ((List.range (n - 1)).all fun i => (List.range n).any fun j => decide (i < j) && Region.waitsFor md ops j i) &&
  ((List.range ops.size).all fun t => decide (t < n) || Region.waitsFor md ops t (n - 1) || (List.range t).any fun j => decide (n ≤ j) && Region.waitsFor md ops t j)
def headB (md : Region.Mode) (ops : Array Oper) (S : Array Bool) : Nat → Nat → Array Bool → Bool
  | 0, _, seen => seen == S
  | f + 1, k, seen => (Region.ready md ops seen).contains k && Region.free md ops seen k && headB md ops S f (k + 1) (seen.setIfInBounds k true)
theorem gate_waits {n : Nat} {listed : Array Bool} (hg : gateB md ops n = true) (inv : HeadInv md ops n listed) :
    ∀ (d i : Nat), n - i = d → i < n → listed.getD i true = false → ∀ t, n ≤ t → t ∉ Region.ready md ops listed := by
  simp only [gateB, Bool.and_eq_true] at hg
  obtain ⟨hs, hc⟩ := hg
  intro d
  induction d using Nat.strongRecOn with
  | _ d ih =>
    intro i hd hi hun t ht hr
    by_cases hin : i = n - 1
    · obtain ⟨_, ot, hot, hall⟩ := mem_ready.1 hr
      have htlt : t < ops.size := (Array.getElem?_eq_some_iff.1 hot).1
      have h1 := List.all_eq_true.1 hc t (List.mem_range.2 htlt)
      simp only [Bool.or_eq_true, decide_eq_true_eq] at h1
      rcases h1 with (h1 | h1) | h1
      · omega
      · obtain ⟨o', ho', e, he, hb, hon⟩ := Region.waitsFor_spec h1
        have : o' = ot := Option.some.inj (ho'.symm.trans hot)
        subst this
        have h2 := hall e he hb
        rw [hon, ← hin, getD_both hun] at h2
        cases h2
      · obtain ⟨j, hj, h3⟩ := List.any_eq_true.1 h1
        simp only [Bool.and_eq_true, decide_eq_true_eq] at h3
        obtain ⟨o', ho', e, he, hb, hon⟩ := Region.waitsFor_spec h3.2
        have : o' = ot := Option.some.inj (ho'.symm.trans hot)
        subst this
        have h2 := hall e he hb
        rw [hon, getD_both (inv.tail j h3.1 (by have := List.mem_range.1 hj; omega))] at h2
        cases h2
    · have h1 := List.all_eq_true.1 hs i (List.mem_range.2 (by omega))
      obtain ⟨j, hj, h3⟩ := List.any_eq_true.1 h1
      simp only [Bool.and_eq_true, decide_eq_true_eq] at h3
      have hjn := List.mem_range.1 hj
      obtain ⟨o', ho', e, he, hb, hon⟩ := Region.waitsFor_spec h3.2
      have hjl : j < ops.size := (Array.getElem?_eq_some_iff.1 ho').1
      have hju : listed.getD j true = false := by
        cases hl : listed.getD j false with
        | false => exact getD_in (by rw [inv.size]; exact hjl) hl
        | true =>
          have h2 := inv.closed j o' ho' hl e he hb
          rw [hon, getD_both hun] at h2
          cases h2
      exact ih (n - j) (by omega) j rfl hjn hju t ht hr
theorem gateQ_first {n i : Nat} {oi : Oper} {v : Value} {L : Array Bool → Act → Prop} (hi : ops[i]? = some oi) (hsel : ∀ (j : Nat) (o : Oper) cs b, ops[j]? = some o → o.op ≠ .select cs b)
    (hg : gateB md ops n = true) (hin : i < n) (hdone : ∀ seen a, L seen a → ∀ j ∈ Region.ready md ops seen, n ≤ j) (f : Nat) :
    ∀ (seen : Array Bool) (a : Act), HeadInv md ops n seen →
      (∀ j oj, ops[j]? = some oj → j ≠ i → seen.getD j true = false → (∀ e ∈ oj.after, Region.binds md e = true → e.on ≠ i) → oi.apart ops oj = true) →
      i ∈ Region.ready md ops seen → YieldsIn P ops C oi v a →
      headQ P md ops C n L f (seen.setIfInBounds i true) (a.put oi.dst v) → headQ P md ops C n L (f + 1) seen a := by
  induction f with
  | zero =>
    intro seen a inv _ hr hy H
    refine ⟨fun h => by simp [h] at hr, fun j hj => ?_⟩
    have hjn : j < n := Nat.lt_of_not_le fun h => gate_waits hg inv _ i rfl hin (mem_ready.1 hr).1 j h hj
    refine ⟨hjn, ?_⟩
    rcases Nat.decEq j i with hji | rfl
    · exact absurd (hdone _ _ H j (ready_mono hj hji)) (by omega)
    · exact hy.qOp hi H
  | succ f ih =>
    intro seen a inv hfree hr hy H
    refine ⟨fun h => by simp [h] at hr, fun j hj => ?_⟩
    have hjn : j < n := Nat.lt_of_not_le fun h => gate_waits hg inv _ i rfl hin (mem_ready.1 hr).1 j h hj
    refine ⟨hjn, ?_⟩
    rcases Nat.decEq j i with hji | rfl
    · obtain ⟨hjun, oj, hoj, hall⟩ := mem_ready.1 hj
      have hno : ∀ e ∈ oj.after, Region.binds md e = true → e.on ≠ i := fun e he hb heq => by
        have h1 := hall e he hb
        rw [heq, getD_both (mem_ready.1 hr).1] at h1
        exact Bool.noConfusion h1
      have hq := qOp_put hoj (hfree j oj hoj hji hjun hno) (fun cs b => hsel i oi cs b hi) (fun cs b => hsel j oj cs b hoj) hy (H.2 j (ready_mono hj hji)).2
      refine qOp_mono (fun a' h3 => ih _ a' (inv.set hj hjn) (fun k ok hk hki hun hno' => hfree k ok hk hki ?_ hno') (ready_mono hr (Ne.symm hji)) h3.1 ?_) hq
      · rcases Nat.decEq j k with hjk | rfl
        · rwa [getD_set_ne true hjk] at hun
        · exact hjun
      · rw [Array.setIfInBounds_comm _ _ hji]
        exact h3.2
    · exact hy.qOp hi H
theorem gateQ_lex {n : Nat} {S : Array Bool} {Lq : Act → Prop} (hsel : Region.noSelect ops = true) (hg : gateB md ops n = true) (hS : (Region.ready md ops S).all (fun j => decide (n ≤ j)) = true) :
    ∀ (l : List Oper) (k : Nat) (seen : Array Bool) (a : Act), (∀ j, j < l.length → l[j]? = ops[k + j]?) → k + l.length = n → HeadInv md ops n seen →
    headB md ops S l.length k seen = true → wpQuiet P ops C Lq l a →
    headQ P md ops C n (fun seen' a' => seen' = S ∧ Lq a') l.length seen a
  | [], k, seen, a, _, _, _, hB, h => ⟨eq_of_beq hB, h⟩
  | o :: l, k, seen, a, hl, hk, inv, hB, h => by
    have h0 : ops[k]? = some o := by have := hl 0 (by simp); simpa using this.symm
    simp only [List.length_cons, headB, Bool.and_eq_true] at hB
    obtain ⟨⟨hr, hf⟩, hB'⟩ := hB
    simp only [List.length_cons] at hk
    have hkn : k < n := by omega
    have hq : qOp P ops C k (wpQuiet P ops C Lq l) a := by unfold qOp; simp only [h0]; exact h
    obtain ⟨v, hy, hK⟩ := yieldsIn_of_qOp h0 hq
    have hr' : k ∈ Region.ready md ops seen := by simpa using hr
    refine gateQ_first h0 (Region.noSelect_spec hsel) hg hkn (fun _ _ hL j hj => ?_) l.length seen a inv (Region.free_spec h0 hf) hr' hy ?_
    · rw [hL.1] at hj
      simpa using List.all_eq_true.1 hS j hj
    refine gateQ_lex hsel hg hS l (k + 1) _ _ (fun j hj => ?_) (by omega) (inv.set hr' hkn) hB' hK
    have := hl (j + 1) (by simp; omega)
    simpa [Nat.add_assoc, Nat.add_comm 1 j] using this
/-- the first n operations read; then what is left to draw -/
theorem wp_region_head {id : Nat} {Q : Exit → Act → World → Prop} {a : Act} {w : World} {l : List Oper} (n g : Nat) (S : Array Bool) (hm : P.follows .mixedOrders = true) (hlen : l.length = n + g) (hsel : Region.noSelect l.toArray = true)
    (hg : gateB .any l.toArray n = true) (hS : (Region.ready .any l.toArray S).all (fun j => decide (n ≤ j)) = true) (hB : headB .any l.toArray S n 0 (Array.replicate l.length false) = true) (hC : C w.drew)
    (h : wpQuiet P l.toArray C (fun a' => ∀ w', C w' → wpAny P .any l.toArray Q g S a' w') (l.take n) a) : (Code.region id l.toArray true).wp P Q a w := by
  have htl : (l.take n).length = n := by simp; omega
  have inv0 : HeadInv .any l.toArray n (Array.replicate l.toArray.size false) :=
    ⟨by simp, fun j oj _ hl => by rw [getD_replicate_false] at hl; exact Bool.noConfusion hl, fun t _ ht => getD_in (by simpa using ht) (getD_replicate_false _ _)⟩
  have H := gateQ_lex (md := .any) hsel hg hS (l.take n) 0 (Array.replicate l.toArray.size false) a (fun j hj => by rw [htl] at hj; simp [hj]) (by simpa using htl) inv0 (by rw [htl]; simpa using hB) h
  refine wp_region_any hm ?_
  have hr := any_of_headQ (Q := Q) (g := g) (fun seen a' w' hw' hL => by rw [hL.1]; exact hL.2 w' hw') _ _ _ _ hC H
  rw [htl, ← hlen] at hr
  simpa using hr
theorem wp_region_wd_head {P : Program} {id : Nat} {Q : Exit → Act → World → Prop} {a : Act} {w : World} {l : List Oper} (n g : Nat) (S : Array Bool) (hm : P.follows .mixedOrders = true) (hlen : l.length = n + g) (hsel : Region.noSelect l.toArray = true)
    (hg : gateB .any l.toArray n = true) (hS : (Region.ready .any l.toArray S).all (fun j => decide (n ≤ j)) = true) (hB : headB .any l.toArray S n 0 (Array.replicate l.length false) = true)
    (h : wpQuiet P l.toArray (fun w' => ∃ m : Wd w, w' = m.val) (fun a' => ∀ w', (∃ m : Wd w, w' = m.val) → wpAny P .any l.toArray Q g S a' w') (l.take n) a) : (Code.region id l.toArray true).wp P Q a w :=
  wp_region_head (C := fun w' => ∃ m : Wd w, w' = m.val) n g S hm hlen hsel hg hS hB ⟨⟨w.drew, (Ext.refl w).drew⟩, rfl⟩ h
/-- what is left only reads, and calls functions that may make memory -/
theorem wpAny_wd {fuel : Nat} {listed : Array Bool} {a : Act} {w : World} {Q' : Exit → Act → World → Prop} (h : wpAnyQ P md ops (fun w' => ∃ m : Wd w, w' = m.val) (fun a' => ∀ w', (∃ m : Wd w, w' = m.val) → Q' .normal a' w') fuel listed a) : wpAny P md ops Q' fuel listed a w :=
  wpAny_of_quiet (fun _ _ hw hq => hq _ hw) _ _ _ _ ⟨⟨w, Ext.refl _⟩, rfl⟩ h
end
end Go.Proofs.Ytepigkjgjlibcaa
namespace Go.Proofs.Ytepigkjgjlibcaa
open Go.RowKit

section
variable {P : Program} {ops : Array Oper} {md : Region.Mode} {C : World → Prop} {Q : Exit → Act → World → Prop}

/-- the operation reads v in every world of the class -/
def ReadsC (P : Program) (ops : Array Oper) (C : World → Prop) (o : Oper) (v : Value) (a : Act) : Prop :=
  (Region.wanted o (yielded ops a.tmps) = true ∧ ∀ w, C w → (execOp a.eval o).run P w = .ok (.value v) w) ∨
  (Region.wanted o (yielded ops a.tmps) = false ∧ v = undef)
theorem ReadsC.step {i : Nat} {o : Oper} {v : Value} {a : Act} (hi : ops[i]? = some o) (hy : ReadsC P ops C o v a) {K : Act → World → Prop} {w : World} (hw : C w) (h : K (a.put o.dst v) w) : wpOp P ops Q i K a w := by
  unfold wpOp
  rcases hy with ⟨h1, h2⟩ | ⟨h1, rfl⟩
  · simp only [hi, h1, if_true, Oper.wp, h2 w hw, Oper.upon]
    exact .inl h
  · simp only [hi, h1, Bool.false_eq_true, if_false]
    exact h
theorem ReadsC.same {o : Oper} {v : Value} {a a' : Act} (hy : ReadsC P ops C o v a) (he : execOp a'.eval o = execOp a.eval o) (hw : Region.wanted o (yielded ops a'.tmps) = Region.wanted o (yielded ops a.tmps)) : ReadsC P ops C o v a' := by
  unfold ReadsC
  rw [he, hw]
  exact hy
/-- the reading operation goes past another one -/
theorem ReadsC.past {j : Nat} {oi oj : Oper} {v : Value} (hj : ops[j]? = some oj) (hap : oi.apart ops oj = true) (hsi : ∀ cs b, oi.op ≠ .select cs b) (hsj : ∀ cs b, oj.op ≠ .select cs b)
    (hQ : ∀ c a w, Q (.panic c) (a.put oi.dst v) w → Q (.panic c) a w) {K : Act → World → Prop} {a : Act} {w : World} (hy : ReadsC P ops C oi v a) (h : wpOp P ops Q j K (a.put oi.dst v) w) :
    wpOp P ops Q j (fun a' w' => ReadsC P ops C oi v a' ∧ K (a'.put oi.dst v) w') a w := by
  obtain ⟨h1, h2, h3⟩ := Oper.apart_spec hap
  have stay : ∀ (b : Act), ReadsC P ops C oi v b → ∀ u, ReadsC P ops C oi v (b.put oj.dst u) := fun b hb u => hb.same (execOp_put oi hsi b oj.dst u h3) (wanted_put oi b oj.dst u h3)
  have swap : ∀ (b : Act) (u : Value) (w' : World), K ((b.put oi.dst v).put oj.dst u) w' → K ((b.put oj.dst u).put oi.dst v) w' := fun b u w' hk => by rw [← Act.put_comm b v u h2]; exact hk
  unfold wpOp at h ⊢
  simp only [hj] at h ⊢
  rw [wanted_put oj a oi.dst v h1] at h
  by_cases hw : Region.wanted oj (yielded ops a.tmps) = true
  · simp only [hw, if_true] at h ⊢
    rcases h with h | ⟨hasks, hlets⟩
    · refine .inl ?_
      unfold Oper.wp at h ⊢
      rw [execOp_put oj hsj a oi.dst v h1] at h
      generalize (execOp a.eval oj).run P w = r at h ⊢
      cases r with
      | ok n w' =>
        cases n <;> simp only [Oper.upon] at h ⊢
        case value u => exact ⟨stay a hy u, swap a u w' h⟩
        case skip => exact ⟨stay a hy _, swap a undef w' h⟩
        case defer d =>
          have hd : ReadsC P ops C oi v { a with defers := d :: a.defers } := hy.same rfl rfl
          exact ⟨stay _ hd _, by rw [← Act.put_comm _ v undef h2, ← Act.put_defers]; exact h⟩
        case enter f args =>
          refine Calls.mono h fun e w'' he => ?_
          cases e with
          | returned u => exact ⟨stay a hy u, swap a u w'' he⟩
          | panicked c => exact hQ _ _ _ he
          | outgrown => exact he
        case row row args => exact Rows.mono h fun u w'' he => ⟨stay a hy u, swap a u w'' he⟩
      | halt x w' =>
        cases x <;> simp only [Oper.upon] at h ⊢
        case panic u => exact hQ _ _ _ h
    · exact .inr ⟨by unfold Oper.asks at hasks ⊢; rw [execOp_put oj hsj a oi.dst v h1] at hasks; exact hasks, hlets⟩
  · simp only [hw] at h ⊢
    exact ⟨stay a hy _, swap a undef w h⟩

/-- what is left to draw, no operation leaving the class -/
def wpAnyC (P : Program) (md : Region.Mode) (ops : Array Oper) (C : World → Prop) (Q : Exit → Act → World → Prop) : Nat → Array Bool → Act → World → Prop
  | 0, seen, a, w => Region.ready md ops seen = [] ∧ Q .normal a w
  | f + 1, seen, a, w => (Region.ready md ops seen = [] → Q .normal a w) ∧ ∀ i ∈ Region.ready md ops seen, wpOp P ops Q i (fun a' w' => C w' ∧ wpAnyC P md ops C Q f (seen.setIfInBounds i true) a' w') a w
theorem wpAnyC.any : ∀ {f : Nat} {seen : Array Bool} {a : Act} {w : World}, wpAnyC P md ops C Q f seen a w → wpAny P md ops Q f seen a w
  | 0, _, _, _, h => h
  | _ + 1, _, _, _, h => ⟨h.1, fun i hi => wpOp_mono (fun _ _ h2 => wpAnyC.any h2.2) (h.2 i hi)⟩
theorem wpAnyC_first {i : Nat} {oi : Oper} {v : Value} (hi : ops[i]? = some oi) (hsel : ∀ (j : Nat) (o : Oper) cs b, ops[j]? = some o → o.op ≠ .select cs b) (hQ : ∀ c a w, Q (.panic c) (a.put oi.dst v) w → Q (.panic c) a w) (f : Nat) :
    ∀ (seen : Array Bool) (a : Act) (w : World), C w →
      (∀ j oj, ops[j]? = some oj → j ≠ i → seen.getD j true = false → (∀ e ∈ oj.after, Region.binds md e = true → e.on ≠ i) → oi.apart ops oj = true) →
      i ∈ Region.ready md ops seen → ReadsC P ops C oi v a →
      wpAnyC P md ops C Q f (seen.setIfInBounds i true) (a.put oi.dst v) w → wpAnyC P md ops C Q (f + 1) seen a w := by
  induction f with
  | zero =>
    intro seen a w hw _ hr hy H
    refine ⟨fun h => absurd hr (by rw [h]; simp), fun j hj => ?_⟩
    rcases Nat.decEq j i with hji | rfl
    · have := ready_mono hj hji
      rw [H.1] at this
      cases this
    · exact hy.step hi hw ⟨hw, H⟩
  | succ f ih =>
    intro seen a w hw hfree hr hy H
    refine ⟨fun h => absurd hr (by rw [h]; simp), fun j hj => ?_⟩
    rcases Nat.decEq j i with hji | rfl
    · obtain ⟨hjun, oj, hoj, hall⟩ := mem_ready.1 hj
      have hno : ∀ e ∈ oj.after, Region.binds md e = true → e.on ≠ i := fun e he hb heq => by
        have h1 := hall e he hb
        rw [heq, getD_both (mem_ready.1 hr).1] at h1
        exact Bool.noConfusion h1
      refine wpOp_mono (fun a' w' h3 => ⟨h3.2.1, ih _ a' w' h3.2.1 (fun k ok hk hki hun hno' => hfree k ok hk hki ?_ hno') (ready_mono hr (Ne.symm hji)) h3.1 ?_⟩) (hy.past hoj (hfree j oj hoj hji hjun hno) (fun cs b => hsel i oi cs b hi) (fun cs b => hsel j oj cs b hoj) hQ (H.2 j (ready_mono hj hji)))
      · rcases Nat.decEq j k with hjk | rfl
        · rwa [getD_set_ne true hjk] at hun
        · exact hjun
      · rw [Array.setIfInBounds_comm _ _ hji]
        exact h3.2.2
    · exact hy.step hi hw ⟨hw, H⟩
/-- take a reading operation first -/
theorem wpAnyC_take {i : Nat} {oi : Oper} {v : Value} {f : Nat} {seen : Array Bool} {a : Act} {w : World} (hi : ops[i]? = some oi) (hs : Region.noSelect ops = true) (hf : Region.free md ops seen i = true) (hr : (Region.ready md ops seen).contains i = true)
    (hQ : ∀ c a w, Q (.panic c) (a.put oi.dst v) w → Q (.panic c) a w) (hw : C w) (hg : Region.wanted oi (yielded ops a.tmps) = true) (hy : ∀ w, C w → (execOp a.eval oi).run P w = .ok (.value v) w)
    (h : wpAnyC P md ops C Q f (seen.setIfInBounds i true) (a.put oi.dst v) w) : wpAnyC P md ops C Q (f + 1) seen a w :=
  wpAnyC_first hi (Region.noSelect_spec hs) hQ f seen a w hw (Region.free_spec hi hf) (by simpa using hr) (.inl ⟨hg, hy⟩) h
/-- only one operation may come up -/
theorem wpAnyC_one (i : Nat) {o : Oper} {f : Nat} {seen : Array Bool} {a : Act} {w : World} (hr : Region.ready md ops seen = [i]) (hi : ops[i]? = some o) (hg : Region.wanted o (yielded ops a.tmps) = true)
    (h : ∀ K : Act → World → Prop, (∀ a w, C w → wpAnyC P md ops C Q f (seen.setIfInBounds i true) a w → K a w) → Oper.wp P o a w K Q) : wpAnyC P md ops C Q (f + 1) seen a w := by
  refine ⟨fun h0 => (by rw [hr] at h0; cases h0), fun j hj => ?_⟩
  rw [hr, List.mem_singleton] at hj
  subst hj
  unfold wpOp
  simp only [hi, hg, if_true]
  exact .inl (h _ fun a w h1 h2 => ⟨h1, h2⟩)
theorem wpAnyC_quiet {f : Nat} {seen : Array Bool} {a : Act} {w : World} (hC : C w) (h : wpAnyQ P md ops C (fun a' => ∀ w', C w' → Q .normal a' w') f seen a) : wpAnyC P md ops C Q f seen a w := by
  have go : ∀ (f : Nat) (seen : Array Bool) (a : Act) (w : World), C w → wpAnyQ P md ops C (fun a' => ∀ w', C w' → Q .normal a' w') f seen a → wpAnyC P md ops C Q f seen a w := by
    intro f
    induction f with
    | zero => intro seen a w hw h; exact ⟨h.1, h.2 w hw⟩
    | succ f ih => intro seen a w hw h; exact ⟨fun h0 => h.1 h0 w hw, fun i hi => wpOp_of_qOp hw (fun a' w' hw' h2 => ⟨hw', ih _ a' w' hw' h2⟩) (h.2 i hi)⟩
  exact go f seen a w hC h
end
end Go.Proofs.Ytepigkjgjlibcaa
namespace Go.Proofs.Ytepigkjgjlibcaa
open Go.RowKit
section
variable {P : Program} {ops : Array Oper} {md : Region.Mode} {C : World → Prop} {Q : Exit → Act → World → Prop}
theorem wpAnyC_two (i j : Nat) {f : Nat} {seen : Array Bool} {a : Act} {w : World} (hr : Region.ready md ops seen = [i, j])
    (h1 : wpOp P ops Q i (fun a' w' => C w' ∧ wpAnyC P md ops C Q f (seen.setIfInBounds i true) a' w') a w)
    (h2 : wpOp P ops Q j (fun a' w' => C w' ∧ wpAnyC P md ops C Q f (seen.setIfInBounds j true) a' w') a w) : wpAnyC P md ops C Q (f + 1) seen a w := by
  refine ⟨fun h0 => (by rw [hr] at h0; cases h0), fun k hk => ?_⟩
  rw [hr] at hk
  simp only [List.mem_cons, List.not_mem_nil, or_false] at hk
  rcases hk with rfl | rfl
  · exact h1
  · exact h2
theorem wpOpC_of {i : Nat} {o : Oper} {f : Nat} {seen : Array Bool} {a : Act} {w : World} (hi : ops[i]? = some o) (hg : Region.wanted o (yielded ops a.tmps) = true)
    (h : ∀ K : Act → World → Prop, (∀ a w, C w → wpAnyC P md ops C Q f (seen.setIfInBounds i true) a w → K a w) → Oper.wp P o a w K Q) : wpOp P ops Q i (fun a' w' => C w' ∧ wpAnyC P md ops C Q f (seen.setIfInBounds i true) a' w') a w := by
  unfold wpOp
  simp only [hi, hg, if_true]
  exact .inl (h _ fun a w h1 h2 => ⟨h1, h2⟩)
theorem wp_region_C {id : Nat} {a : Act} {w : World} {l : List Oper} (hm : P.follows .mixedOrders = true) (h : wpAnyC P .any l.toArray C Q l.length (Array.replicate l.length false) a w.drew) : (Code.region id l.toArray true).wp P Q a w := by
  refine wp_region_any hm ?_
  have := wpAnyC.any h
  simpa using this
end
end Go.Proofs.Ytepigkjgjlibcaa
