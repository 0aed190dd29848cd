/- Chapter 23: package record: Sum, Encode, Decode. Regions that draw their order, as XAnyC, but operation z, which waits for those that are taken first, may leave the class (a store). Regions that draw their order, walked in worlds that may grow at each step: an operation that reads, or a call that hands back a plain value and only grows the world, is taken first, whatever else stands beside it; what makes memory is taken when it alone is left; operation z, which waits for all that are taken, may change anything. Worlds that grow, in which a new byte row may get the mark of a constant behind its last cell. And '[]byte(..)' in such a region. Regions in growing worlds: two operations may come up. Drawn regions, walked with values that Lean finds: an operation that reads is taken first, its slot and its value are left open. -/
import Derived.Test.YtepigkjgjlibcaaGAB
import Derived.Laws.BitsAllLaws
import Derived.Test.YtepigkjgjlibcaaGAA
import Derived.Laws.IdiomStrings
namespace Go.Proofs.Ytepigkjgjlibcaa
open Go.RowKit Go.Deep Go.Proofs.Ytepigkjgjlibcaa.FL
theorem sumStep_lt {x : Nat} (h : x < 4294967296) : sumStep x < 4294967296 := by
  unfold sumStep
  split
  · exact Nat.xor_lt_two_pow (n := 32) (by omega) (by omega)
  · omega
theorem sumN_lt : ∀ (k : Nat) {x : Nat}, x < 4294967296 → sumN k x < 4294967296
  | 0, _, h => h
  | k + 1, _, h => sumN_lt k (sumStep_lt h)
theorem sumByte_lt {x : Nat} (c : UInt8) (h : x < 4294967296) : sumByte x c < 4294967296 := sumN_lt 8 (Nat.xor_lt_two_pow (n := 32) h (by have := c.toNat_lt; omega))
theorem sumF_fold_lt (l : Bs) : ∀ {x : Nat}, x < 4294967296 → l.foldl sumByte x < 4294967296 := by
  induction l with
  | nil => exact fun h => h
  | cons c r ih => exact fun h => ih (sumByte_lt c h)
theorem u32_and1 (x : Nat) (h : x < 4294967296) : bits .and .u32 (x : Int) 1 = ((x % 2 : Nat) : Int) := by
  have := u32_and_nat x 1 h (by decide)
  rw [Nat.and_one_is_mod] at this
  exact_mod_cast this
theorem xor_all {x : Nat} (h : x < 4294967296) : 4294967295 ^^^ x = 4294967295 - x := by
  have h1 : (BitVec.allOnes 32 ^^^ BitVec.ofNat 32 x) = ~~~ (BitVec.ofNat 32 x) := BitVec.allOnes_xor
  have h2 := congrArg BitVec.toNat h1
  rw [BitVec.toNat_xor, BitVec.toNat_not, BitVec.toNat_ofNat, BitVec.toNat_allOnes, Nat.mod_eq_of_lt (by omega)] at h2
  have e : (2 : Nat) ^ 32 - 1 = 4294967295 := by decide
  rw [e] at h2
  exact h2
theorem u32_not (x : Nat) (h : x < 4294967296) : bits .xor .u32 IntKind.u32.max (x : Int) = ((4294967295 - x : Nat) : Int) := by
  have := u32_xor_nat 4294967295 x (by decide) h
  rw [xor_all h] at this
  exact this
set_option maxRecDepth 100000 in
theorem sum23_any {w : World} {v : Value} {l : Bs} (h : BS w v l) (hl : l.length ≤ 1000000) :
    Calls Try.prog 96 #[v] w fun e w' => e = .returned (.int .u32 (sumF l)) ∧ w = w' := by
  obtain ⟨A, cap, rfl, hcap, -⟩ := h.slice
  have HR := Lib.hid h.at
  obtain ⟨N, hN⟩ : ∃ N, N = l.length := ⟨_, rfl⟩
  have HN := Lib.hid hN
  obtain ⟨T, hT⟩ : ∃ T, T = l.foldl sumByte 4294967295 := ⟨_, rfl⟩
  have HT := Lib.hid hT
  have HTL := Lib.hid (show T < 4294967296 by rw [hT]; exact sumF_fold_lt l (by decide))
  have HSF := Lib.hid (show sumF l = 4294967295 - T by rw [hT]; rfl)
  rw [HSF.out]
  rw [← hN]
  rw [← hN] at hl hcap
  clear h hN hT
  go_enter Try.func96, Try.ntmps96
  go_wp2_with fail
  go_loopw [3, 8] (fun x i wr => ∃ k x' : Nat, k ≤ N ∧ i = .int .i64 k ∧ x = .int .u32 x' ∧ x' < 4294967296 ∧ w = wr ∧ Hid ((l.drop k).foldl sumByte x' = T)) (fun _ i _ => N - (intOf i).toNat)
  case atStart => exact ⟨0, 4294967295, by omega, rfl, rfl, by decide, rfl, Lib.hid (by rw [List.drop_zero]; exact HT.out.symm)⟩
  case round =>
    obtain ⟨k, x', hk, rfl, rfl, hx, rfl, hP⟩ := hrel
    by_cases hlt : k < N
    · have hki : (k : Int) < (N : Int) := by omega
      obtain ⟨g, o, rfl, hc⟩ := HR.out k (by rw [← HN.out]; exact hlt)
      have hd : l.drop k = l[k]'(by rw [← HN.out]; exact hlt) :: l.drop (k + 1) := List.drop_eq_getElem_cons _
      obtain ⟨c, hcc⟩ : ∃ x, x = l[k]'(by rw [← HN.out]; exact hlt) := ⟨_, rfl⟩
      rw [← hcc] at hd hc
      have HP := Lib.hid hP.out
      rw [hd, List.foldl_cons] at HP
      have hc8 : c.toNat < 256 := c.toNat_lt
      obtain ⟨y, hy⟩ : ∃ y, y = c.toNat := ⟨_, rfl⟩
      have HY := Lib.hid (show sumByte x' c = sumN 8 (Nat.xor x' y) by rw [hy]; rfl)
      rw [← hy] at hc hc8
      have hxo := u32_xor_nat x' y hx (by omega)
      obtain ⟨z, hz⟩ : ∃ z, z = x' ^^^ y := ⟨_, rfl⟩
      have HZ := Lib.hid (show z < 4294967296 by rw [hz]; exact Nat.xor_lt_two_pow (n := 32) hx (by omega))
      have HZ8 := Lib.hid (show (l.drop (k + 1)).foldl sumByte (sumN 8 z) = T by rw [← HP.out, HY.out, hz]; rfl)
      rw [← hz] at hxo
      have hyw : ((y : Int) % 4294967296) = (y : Int) := by omega
      clear hP HP hd hcc hy HY hz
      go_upto_region 6 with fail
      clear hc hc8 hxo hyw hx
      go_wp2_with fail
      go_loopw [3, 16] (fun x j wr => ∃ i z' : Nat, i ≤ 8 ∧ j = .int .i64 i ∧ x = .int .u32 z' ∧ z' < 4294967296 ∧ w = wr ∧ Hid (sumN (8 - i) z' = sumN 8 z)) (fun _ j _ => 8 - (intOf j).toNat)
      case atStart => exact ⟨0, z, by omega, rfl, rfl, HZ.out, rfl, Lib.hid rfl⟩
      case round =>
        obtain ⟨i, z', hi, rfl, rfl, hz', rfl, hQ⟩ := hrel
        by_cases h8 : i < 8
        · have h8i : (i : Int) < 8 := by omega
          have hand := u32_and1 z' hz'
          have HQ2 := Lib.hid (show sumN (8 - (i + 1)) (sumStep z') = sumN 8 z by
            rw [← hQ.out, show 8 - i = (8 - (i + 1)) + 1 by omega]
            rfl)
          have HL2 := Lib.hid (sumStep_lt hz')
          have hstep : sumStep z' = if z' % 2 = 1 then Nat.xor (z' / 2) 2197175160 else z' / 2 := rfl
          rw [hstep] at HQ2 HL2
          clear hstep hQ
          by_cases ho : z' % 2 = 1
          · rw [if_pos ho] at HQ2 HL2
            have hxo : bits .xor .u32 ((z' : Int) / 2) 2197175160 = (((z' / 2) ^^^ 2197175160 : Nat) : Int) := by
              have h3 := u32_xor_nat (z' / 2) 2197175160 (by omega) (by decide)
              rw [show ((z' / 2 : Nat) : Int) = (z' : Int) / 2 by omega] at h3
              exact h3
            rw [ho] at hand
            obtain ⟨q, hq⟩ : ∃ q, q = (z' / 2) ^^^ 2197175160 := ⟨_, rfl⟩
            rw [← hq] at hxo
            have HQ3 : Hid (sumN (8 - (i + 1)) q = sumN 8 z) := Lib.hid (by rw [hq]; exact HQ2.out)
            have HL3 : Hid (q < 4294967296) := Lib.hid (by rw [hq]; exact HL2.out)
            clear HQ2 HL2 hq ho hz'
            go_wp2_with fail
            exact ⟨⟨i + 1, q, by omega, by go_num, rfl, HL3.out, by first | rfl | trivial, HQ3⟩, by simp [intOf]; omega⟩
          · rw [if_neg ho] at HQ2 HL2
            have ho0 : z' % 2 = 0 := by omega
            rw [ho0] at hand
            clear ho ho0 hz'
            go_wp2_with fail
            exact ⟨⟨i + 1, z' / 2, by omega, by go_num, by rw [Int.natCast_ediv]; rfl, HL2.out, by first | rfl | trivial, HQ2⟩, by simp [intOf]; omega⟩
        · obtain rfl : i = 8 := by omega
          have hz8 : z' = sumN 8 z := hQ.out
          have HZ9 := Lib.hid HZ8.out
          rw [← hz8] at HZ9
          have HLZ := Lib.hid hz'
          clear hz8 hQ hz' HZ8
          go_wp2_with fail
          exact ⟨⟨k + 1, z', by omega, by go_num, rfl, HLZ.out, by first | rfl | trivial, HZ9⟩, by simp [intOf]; omega⟩
    · obtain rfl : k = N := by omega
      have HP2 := Lib.hid hP.out
      rw [show l.drop k = [] from List.drop_eq_nil_of_le (by rw [← HN.out]; exact Nat.le_refl _)] at HP2
      have hxT : x' = T := HP2.out
      subst hxT
      have hall := u32_not x' hx
      clear hP hx
      go_wp2_with fail
      go_ret
      exact ⟨rfl, rfl⟩
/-- append of bytes as one operation of a region -/
theorem opwp_append_ob {w0 : World} (a : Act) (w : World) {o : Go.Oper} {K : Act → World → Prop} {Q : Exit → Act → World → Prop} (s x : Operand) (t : TypeId) (ht : Try.prog.underlying t = some (.slice 5))
    (ho : o.op = .call { callee := .builtin .append, args := #[s, x], argTypes := #[t, t] }) (v : Value) (l : Bs) (hs : a.eval s = v) (hX : Ext w0 w) (hown : OB w w0.heap.size v l)
    (A : Option Addr) (n c : Nat) (m : Bs) (hx : a.eval x = .slice A n c) (hr : BS w (.slice A n c) m) (hz : l.length + m.length ≤ 140737488355328)
    (h : ∀ v' w', Hid (OB w' w0.heap.size v' (l ++ m)) → Hid (Ext w0 w') → K (a.put o.dst v') w') : Oper.wp Try.prog o a w K Q := by
  obtain ⟨i0, hi0, hz0, hz1, hz2⟩ := info_parts u8_info23
  obtain ⟨rfl, hrd⟩ := hr.reads
  obtain ⟨v', w', h1, h2, h3, -⟩ := run_append_any (P := Try.prog) w w0.heap.size t o.type 5 i0 _ 1 1 ht hi0 hz0 hz1 hz2 rfl (by omega) v l.length (by8 l) hown _ A m.length c _ hrd by8_one (by simp only [maxLen]; omega) (by omega) hX.size
  unfold Oper.wp execOp
  simp only [ho, resolve, invoke, builtin, Sem.run_bind, Sem.run_pure, Result.andThen_ok, List.map_toArray, List.map_cons, List.map_nil, hs, hx, h1]
  refine h v' w' (Lib.hid ?_) (Lib.hid (Below.grown hX h3 hX.size hown.own_ge))
  unfold OB
  rw [List.length_append, by8_append]
  exact h2
theorem bs_laid1 (w : World) (k : Nat) (h : k < 256) : BS (w.alloc (.cells #[.int .u8 k] 5)) (.slice (some ⟨w.heap.size, 0, none⟩) 1 1) [UInt8.ofNat k] := by
  have h1 := bs_laid w [UInt8.ofNat k]
  rw [show by8 [UInt8.ofNat k] = [.int .u8 (k : Int)] by unfold by8; rw [List.map_cons, List.map_nil]; simp; omega] at h1
  exact h1
theorem ob_laid1 (w : World) {B : Nat} (hB : B ≤ w.heap.size) (k : Nat) (h : k < 256) : OB (w.alloc (.cells #[.int .u8 k] 5)) B (.slice (some ⟨w.heap.size, 0, none⟩) 1 1) [UInt8.ofNat k] := by
  have e : by8 [UInt8.ofNat k] = [.int .u8 (k : Int)] := by unfold by8; rw [List.map_cons, List.map_nil]; simp; omega
  refine ⟨by rw [e]; rfl, .inr ⟨w.heap.size, 1, #[.int .u8 k], rfl, hB, heap_alloc_new w _, Nat.le_refl _, by simp only [maxLen]; omega, rfl, ?_⟩⟩
  rw [e]
  rfl
set_option maxRecDepth 100000 in
set_option maxHeartbeats 4000000 in
theorem encode_any {w : World} {kind number : Nat} {v : Value} {l : Bs} (hk : 1 ≤ kind ∧ kind ≤ 127) (hn : number ≤ 1099511627776) (hp : BS w v l) (hl : l.length ≤ 100000) :
    Calls Try.prog 74 #[.agg #[.int .i64 kind, .int .i64 number, v]] w fun e w' => ∃ u, e = .returned (.tuple #[u, .nilIface]) ∧ Ext w w' ∧ OB w' w.heap.size u (encF kind number l) := by
  obtain ⟨A, cap, rfl, hcap, -⟩ := hp.slice
  obtain ⟨wa, hwa⟩ : ∃ x, x = w.alloc (.cells #[.int .i64 kind, .int .i64 number, .slice A l.length cap] 138) := ⟨_, rfl⟩
  have HXA : Hid (Ext w wa) := Lib.hid (by rw [hwa]; exact (Ext.refl w).alloc _)
  have HRA : Hid (RowB wa w.heap.size 138 [.int .i64 kind, .int .i64 number, .slice A l.length cap]) := Lib.hid (by rw [hwa]; exact row_laid w _ _)
  have HPA := Lib.hid (hp.ext HXA.out)
  have b1 : (1 : Int) ≤ (kind : Int) := by omega
  have b2 : (kind : Int) ≤ 127 := by omega
  have b3 : (number : Int) ≤ 1099511627776 := by omega
  have b4 : (0 : Int) ≤ (number : Int) := by omega
  have b5 : (l.length : Int) ≤ 131072 := by omega
  have HL := Lib.hid hl
  have HK := Lib.hid hk
  have HNU := Lib.hid (number_any number (by omega))
  have HNL := Lib.hid (number_any l.length (by omega))
  have HZU := Lib.hid (numF_len number (by omega))
  have HZL := Lib.hid (numF_len l.length (by omega))
  clear hp hl hk hn
  go_enter Try.func74, Try.ntmps74
  go_upto_region 1 with fail
  rw [← hwa]
  have e0 := (HRA.out).cell (j := 0) rfl
  have e1 := (HRA.out).cell (j := 1) rfl
  have e2 := (HRA.out).cell (j := 2) rfl
  clear hwa
  go_upto_region 5 with fail
  have X0 := Lib.hid (show Ext wa wa.drew from (Ext.refl _).drew)
  go_cut [4] (fun v4 wx => Hid (Ext wa wx ∧ OB wx wa.heap.size v4 (UInt8.ofNat kind :: numF number)))
  case first =>
    refine wp_region_C (C := fun W => Ext wa W) (by kernel_rfl) ?_
    refine wpAnyC_take (i := 0) (v := .pointer (some ⟨w.heap.size, 0, none⟩)) rfl (by kernel_rfl) (by kernel_rfl) (by kernel_rfl) (fun _ _ _ h => h) X0.out (by kernel_rfl) ?_ ?_
    · intro W hW; go_simp; try (with_reducible rfl)
    change wpAnyC _ _ _ _ _ _ _ (Act.put _ (some 30) (.pointer (some ⟨w.heap.size, 0, none⟩))) _
    try simp only [Act.put, List.setIfInBounds_toArray, List.set_cons_succ, List.set_cons_zero]
    refine wpAnyC_take (i := 1) (v := .int .i64 kind) rfl (by kernel_rfl) (by kernel_rfl) (by kernel_rfl) (fun _ _ _ h => h) X0.out (by kernel_rfl) ?_ ?_
    · intro W hW; have e0 := (HRA.out.ext hW).cell (j := 0) rfl; go_simp; try (with_reducible rfl)
    change wpAnyC _ _ _ _ _ _ _ (Act.put _ (some 31) (.int .i64 kind)) _
    try simp only [Act.put, List.setIfInBounds_toArray, List.set_cons_succ, List.set_cons_zero]
    refine wpAnyC_take (i := 2) (v := .int .u8 kind) rfl (by kernel_rfl) (by kernel_rfl) (by kernel_rfl) (fun _ _ _ h => h) X0.out (by kernel_rfl) ?_ ?_
    · intro W hW; have h8 : (kind : Int) % 256 = kind := (by have := HK.out; omega); go_simp; try (rw [IntKind.wrap_u8, h8])
    change wpAnyC _ _ _ _ _ _ _ (Act.put _ (some 32) (.int .u8 kind)) _
    try simp only [Act.put, List.setIfInBounds_toArray, List.set_cons_succ, List.set_cons_zero]
    refine wpAnyC_take (i := 4) (v := .pointer (some ⟨w.heap.size, 1, none⟩)) rfl (by kernel_rfl) (by kernel_rfl) (by kernel_rfl) (fun _ _ _ h => h) X0.out (by kernel_rfl) ?_ ?_
    · intro W hW; go_simp; try (with_reducible rfl)
    change wpAnyC _ _ _ _ _ _ _ (Act.put _ (some 34) (.pointer (some ⟨w.heap.size, 1, none⟩))) _
    try simp only [Act.put, List.setIfInBounds_toArray, List.set_cons_succ, List.set_cons_zero]
    refine wpAnyC_take (i := 5) (v := .int .i64 number) rfl (by kernel_rfl) (by kernel_rfl) (by kernel_rfl) (fun _ _ _ h => h) X0.out (by kernel_rfl) ?_ ?_
    · intro W hW; have e0 := (HRA.out.ext hW).cell (j := 1) rfl; go_simp; try (with_reducible rfl)
    change wpAnyC _ _ _ _ _ _ _ (Act.put _ (some 35) (.int .i64 number)) _
    try simp only [Act.put, List.setIfInBounds_toArray, List.set_cons_succ, List.set_cons_zero]
    refine wpAnyC_two 3 6 (by kernel_rfl) ?_ ?_
    · refine wpOpC_of rfl (by kernel_rfl) (fun KK hKK => ?_)
      go_simp
      have X3 := Lib.hid (X0.out.alloc (.cells #[.int .u8 kind] 5))
      have O3 := Lib.hid (ob_laid1 wa.drew X0.out.size kind (by have := HK.out; omega))
      refine hKK _ _ X3.out ?_
      clear hKK KK
      try simp only [Act.put, List.setIfInBounds_toArray, List.set_cons_succ, List.set_cons_zero]
      refine wpAnyC_one 6 (by kernel_rfl) rfl (by kernel_rfl) (fun KK hKK => ?_)
      go_simp
      refine (HNU.out _).mono ?_
      rintro e w6 ⟨v6, rfl, hx6, ho6⟩
      have X6 := Lib.hid (X3.out.trans hx6)
      have O6 := Lib.hid ho6.bs
      have O3' := Lib.hid (O3.out.ext hx6)
      obtain ⟨A6, c6, rfl, -, -⟩ := ho6.bs.slice
      refine hKK _ _ X6.out ?_
      clear hKK KK hx6 ho6
      try simp only [Act.put, List.setIfInBounds_toArray, List.set_cons_succ, List.set_cons_zero]
      refine wpAnyC_one 7 (by kernel_rfl) rfl (by kernel_rfl) (fun KK hKK => ?_)
      refine opwp_append_ob (w0 := wa) _ _ (.tmp 33) (.tmp 36) 42 Try.underlying42 rfl _ [UInt8.ofNat kind] rfl X6.out O3'.out _ _ _ (numF number) rfl O6.out (by have := HZU.out; simp; omega) ?_
      intro v7 w7 HO7 HX7
      refine hKK _ _ HX7.out ?_
      clear hKK KK
      try simp only [Act.put, List.setIfInBounds_toArray]
      refine wpAnyC_one 8 (by kernel_rfl) rfl (by kernel_rfl) (fun KK hKK => ?_)
      go_simp
      refine hKK _ _ HX7.out ?_
      clear hKK KK
      try simp only [Act.put, List.setIfInBounds_toArray, List.set_cons_succ, List.set_cons_zero]
      refine ⟨by kernel_rfl, ?_⟩
      go_wp2_with fail
      go_meet
      exact Lib.hid ⟨HX7.out, HO7.out⟩
    · refine wpOpC_of rfl (by kernel_rfl) (fun KK hKK => ?_)
      go_simp
      refine (HNU.out _).mono ?_
      rintro e w6 ⟨v6, rfl, hx6, ho6⟩
      have X6 := Lib.hid (X0.out.trans hx6)
      have O6 := Lib.hid (ho6.bs.ext ((Ext.refl w6).alloc (.cells #[.int .u8 kind] 5)))
      have O3 := Lib.hid (ob_laid1 w6 X6.out.size kind (by have := HK.out; omega))
      have X3 := Lib.hid (X6.out.alloc (.cells #[.int .u8 kind] 5))
      obtain ⟨A6, c6, rfl, -, -⟩ := ho6.bs.slice
      refine hKK _ _ X6.out ?_
      clear hKK KK hx6 ho6
      try simp only [Act.put, List.setIfInBounds_toArray, List.set_cons_succ, List.set_cons_zero]
      refine wpAnyC_one 3 (by kernel_rfl) rfl (by kernel_rfl) (fun KK hKK => ?_)
      go_simp
      refine hKK _ _ X3.out ?_
      clear hKK KK
      try simp only [Act.put, List.setIfInBounds_toArray, List.set_cons_succ, List.set_cons_zero]
      refine wpAnyC_one 7 (by kernel_rfl) rfl (by kernel_rfl) (fun KK hKK => ?_)
      refine opwp_append_ob (w0 := wa) _ _ (.tmp 33) (.tmp 36) 42 Try.underlying42 rfl _ [UInt8.ofNat kind] rfl X3.out O3.out _ _ _ (numF number) rfl O6.out (by have := HZU.out; simp; omega) ?_
      intro v7 w7 HO7 HX7
      refine hKK _ _ HX7.out ?_
      clear hKK KK
      try simp only [Act.put, List.setIfInBounds_toArray]
      refine wpAnyC_one 8 (by kernel_rfl) rfl (by kernel_rfl) (fun KK hKK => ?_)
      go_simp
      refine hKK _ _ HX7.out ?_
      clear hKK KK
      try simp only [Act.put, List.setIfInBounds_toArray, List.set_cons_succ, List.set_cons_zero]
      refine ⟨by kernel_rfl, ?_⟩
      go_wp2_with fail
      go_meet
      exact Lib.hid ⟨HX7.out, HO7.out⟩
  case rest =>
  obtain ⟨hx4, ho4⟩ := hcut.out
  have HX4 := Lib.hid hx4
  have HO4 := Lib.hid ho4
  have HR4 := Lib.hid (HRA.out.ext hx4)
  have HP4 := Lib.hid (HPA.out.ext hx4)
  have XC := Lib.hid (show Ext wc wc.drew from (Ext.refl _).drew)
  clear hcut hx4 ho4 X0
  go_upto_region 6 with fail
  go_cut [4] (fun v4 wx => Hid (Ext wa wx ∧ OB wx wa.heap.size v4 (UInt8.ofNat kind :: numF number ++ numF l.length ++ l)))
  case first =>
    refine wp_region_C (C := fun W => Ext wa W) (by kernel_rfl) ?_
    have XD := Lib.hid (HX4.out.trans XC.out)
    have OD := Lib.hid (HO4.out.ext XC.out)
    refine wpAnyC_take (i := 0) (v := u4) rfl (by kernel_rfl) (by kernel_rfl) (by kernel_rfl) (fun _ _ _ h => h) XD.out (by kernel_rfl) ?_ ?_
    · intro W hW; go_simp; try (with_reducible rfl)
    change wpAnyC _ _ _ _ _ _ _ (Act.put _ (some 38) (u4)) _
    try simp only [Act.put, List.setIfInBounds_toArray, List.set_cons_succ, List.set_cons_zero]
    refine wpAnyC_take (i := 1) (v := .pointer (some ⟨w.heap.size, 2, none⟩)) rfl (by kernel_rfl) (by kernel_rfl) (by kernel_rfl) (fun _ _ _ h => h) XD.out (by kernel_rfl) ?_ ?_
    · intro W hW; go_simp; try (with_reducible rfl)
    change wpAnyC _ _ _ _ _ _ _ (Act.put _ (some 39) (.pointer (some ⟨w.heap.size, 2, none⟩))) _
    try simp only [Act.put, List.setIfInBounds_toArray, List.set_cons_succ, List.set_cons_zero]
    refine wpAnyC_take (i := 2) (v := .slice A l.length cap) rfl (by kernel_rfl) (by kernel_rfl) (by kernel_rfl) (fun _ _ _ h => h) XD.out (by kernel_rfl) ?_ ?_
    · intro W hW; have e0 := (HRA.out.ext hW).cell (j := 2) rfl; go_simp; try (with_reducible rfl)
    change wpAnyC _ _ _ _ _ _ _ (Act.put _ (some 40) (.slice A l.length cap)) _
    try simp only [Act.put, List.setIfInBounds_toArray, List.set_cons_succ, List.set_cons_zero]
    refine wpAnyC_take (i := 3) (v := .int .i64 l.length) rfl (by kernel_rfl) (by kernel_rfl) (by kernel_rfl) (fun _ _ _ h => h) XD.out (by kernel_rfl) ?_ ?_
    · intro W hW; go_simp; try (with_reducible rfl)
    change wpAnyC _ _ _ _ _ _ _ (Act.put _ (some 41) (.int .i64 l.length)) _
    try simp only [Act.put, List.setIfInBounds_toArray, List.set_cons_succ, List.set_cons_zero]
    refine wpAnyC_take (i := 6) (v := .pointer (some ⟨w.heap.size, 2, none⟩)) rfl (by kernel_rfl) (by kernel_rfl) (by kernel_rfl) (fun _ _ _ h => h) XD.out (by kernel_rfl) ?_ ?_
    · intro W hW; go_simp; try (with_reducible rfl)
    change wpAnyC _ _ _ _ _ _ _ (Act.put _ (some 44) (.pointer (some ⟨w.heap.size, 2, none⟩))) _
    try simp only [Act.put, List.setIfInBounds_toArray, List.set_cons_succ, List.set_cons_zero]
    refine wpAnyC_take (i := 7) (v := .slice A l.length cap) rfl (by kernel_rfl) (by kernel_rfl) (by kernel_rfl) (fun _ _ _ h => h) XD.out (by kernel_rfl) ?_ ?_
    · intro W hW; have e0 := (HRA.out.ext hW).cell (j := 2) rfl; go_simp; try (with_reducible rfl)
    change wpAnyC _ _ _ _ _ _ _ (Act.put _ (some 45) (.slice A l.length cap)) _
    try simp only [Act.put, List.setIfInBounds_toArray, List.set_cons_succ, List.set_cons_zero]
    refine wpAnyC_one 4 (by kernel_rfl) rfl (by kernel_rfl) (fun KK hKK => ?_)
    go_simp
    refine (HNL.out _).mono ?_
    rintro e w6 ⟨v6, rfl, hx6, ho6⟩
    have X6 := Lib.hid (XD.out.trans hx6)
    have O6 := Lib.hid ho6.bs
    have OE := Lib.hid (OD.out.ext hx6)
    obtain ⟨A6, c6, rfl, -, -⟩ := ho6.bs.slice
    refine hKK _ _ X6.out ?_
    clear hKK KK hx6 ho6
    try simp only [Act.put, List.setIfInBounds_toArray, List.set_cons_succ, List.set_cons_zero]
    refine wpAnyC_one 5 (by kernel_rfl) rfl (by kernel_rfl) (fun KK hKK => ?_)
    refine opwp_append_ob (w0 := wa) _ _ (.tmp 38) (.tmp 42) 42 Try.underlying42 rfl _ (UInt8.ofNat kind :: numF number) rfl X6.out OE.out _ _ _ (numF l.length) rfl O6.out (by have := HZU.out; have := HZL.out; simp; omega) ?_
    intro v7 w7 HO7 HX7
    refine hKK _ _ HX7.out ?_
    clear hKK KK
    try simp only [Act.put, List.setIfInBounds_toArray]
    refine wpAnyC_one 8 (by kernel_rfl) rfl (by kernel_rfl) (fun KK hKK => ?_)
    refine opwp_append_ob (w0 := wa) _ _ (.tmp 43) (.tmp 45) 42 Try.underlying42 rfl _ (UInt8.ofNat kind :: numF number ++ numF l.length) rfl HX7.out HO7.out _ _ _ l rfl (HPA.out.ext HX7.out) (by have := HZU.out; have := HZL.out; have := HL.out; simp; omega) ?_
    intro v8 w8 HO8 HX8
    refine hKK _ _ HX8.out ?_
    clear hKK KK
    try simp only [Act.put]
    refine wpAnyC_one 9 (by kernel_rfl) rfl (by kernel_rfl) (fun KK hKK => ?_)
    go_simp
    refine hKK _ _ HX8.out ?_
    clear hKK KK
    try simp only [Act.put, List.setIfInBounds_toArray, List.set_cons_succ, List.set_cons_zero]
    refine ⟨by kernel_rfl, ?_⟩
    go_wp2_with fail
    go_meet
    exact Lib.hid ⟨HX8.out, HO8.out⟩
  case rest =>
  obtain ⟨hx6, ho6⟩ := hcut.out
  have HB6 := Lib.hid ho6.bs
  have HE := Lib.hid (show encF kind number l = (UInt8.ofNat kind :: numF number ++ numF l.length ++ l) ++ be4 (sumF (UInt8.ofNat kind :: numF number ++ numF l.length ++ l)) by
    unfold encF
    simp only [List.append_assoc, List.cons_append])
  have HO6 := Lib.hid ho6
  have HX6 := Lib.hid hx6
  obtain ⟨m, hm⟩ : ∃ m, m = (UInt8.ofNat kind :: numF number ++ numF l.length ++ l) := ⟨_, rfl⟩
  have HM := Lib.hid (show m.length ≤ 200000 by rw [hm]; have := HZU.out; have := HZL.out; have := HL.out; simp; omega)
  rw [← hm] at HB6 HE HO6
  clear hcut hx6 ho6 hm
  obtain ⟨S, hS⟩ : ∃ S, S = sumF m := ⟨_, rfl⟩
  have HS := Lib.hid hS
  rw [← hS] at HE
  have HSL := Lib.hid (show S < 4294967296 by rw [hS]; unfold sumF; omega)
  clear hS
  go_upto_region 8 with (go_at_call 96; refine (sum23_any HB6.out (by have := HM.out; omega)).mono ?_; rintro e w7 ⟨rfl, rfl⟩; rw [← HS.out])
  have c1 : (S : Int) / 16777216 % 256 = ((UInt8.ofNat (S / 16777216)).toNat : Int) := by simp
  have c2 : (S : Int) / 65536 % 256 = ((UInt8.ofNat (S / 65536)).toNat : Int) := by simp
  have c3 : (S : Int) / 256 % 256 = ((UInt8.ofNat (S / 256)).toNat : Int) := by simp
  have c4 : (S : Int) % 256 = ((UInt8.ofNat S).toNat : Int) := by simp
  have HB4 := Lib.hid (bs_laid wc (be4 S))
  have HV4 := Lib.hid (show by8 (be4 S) = [.int .u8 ((S : Int) / 16777216 % 256), .int .u8 ((S : Int) / 65536 % 256), .int .u8 ((S : Int) / 256 % 256), .int .u8 ((S : Int) % 256)] by rw [c1, c2, c3, c4]; rfl)
  have HB5 : Hid (BS (wc.alloc (.cells #[.int .u8 ((S : Int) / 16777216 % 256), .int .u8 ((S : Int) / 65536 % 256), .int .u8 ((S : Int) / 256 % 256), .int .u8 ((S : Int) % 256)] 5)) (.slice (some ⟨wc.heap.size, 0, none⟩) 4 4) (be4 S)) := Lib.hid (by have h1 := HB4.out; rw [HV4.out] at h1; exact h1)
  have HO7 := Lib.hid (HO6.out.ext ((Ext.refl wc).alloc (.cells #[.int .u8 ((S : Int) / 16777216 % 256), .int .u8 ((S : Int) / 65536 % 256), .int .u8 ((S : Int) / 256 % 256), .int .u8 ((S : Int) % 256)] 5)))
  have HX7 := Lib.hid (HX6.out.alloc (.cells #[.int .u8 ((S : Int) / 16777216 % 256), .int .u8 ((S : Int) / 65536 % 256), .int .u8 ((S : Int) / 256 % 256), .int .u8 ((S : Int) % 256)] 5))
  clear c1 c2 c3 c4 HV4 HB4
  go_wp2_with (at_builtin; refine wpList_append_obx (w0 := wa) _ rfl (.tmp 49) (.tmp 61) 42 Try.underlying42 rfl u4 m rfl HX7.out HO7.out _ _ _ (be4 S) rfl HB5.out (by have := HM.out; simp [be4]; omega) ?_; intro v8 w8 HO8 HX8 _)
  go_ret2
  exact ⟨_, rfl, HXA.out.trans HX8.out, by rw [HE.out]; exact HO8.out.any HXA.out.size⟩
end Go.Proofs.Ytepigkjgjlibcaa
namespace Go.Proofs.Ytepigkjgjlibcaa
open Go.RowKit
section
variable {P : Program} {ops : Array Oper} {md : Region.Mode} {C : World → Prop} {z : Nat} {Q : Exit → Act → World → Prop}
/-- with each operation that has come up, those that it waits for have -/
def ClosedS (md : Region.Mode) (ops : Array Oper) (seen : Array Bool) : Prop := ∀ j oj, ops[j]? = some oj → seen.getD j false = true → ∀ e ∈ oj.after, Region.binds md e = true → seen.getD e.on false = true
def closedB (md : Region.Mode) (ops : Array Oper) (seen : Array Bool) : Bool := (List.range ops.size).all fun j => !(seen.getD j false) || match ops[j]? with | some oj => oj.after.all fun e => !(Region.binds md e) || seen.getD e.on false | none => true
theorem closed_spec {seen : Array Bool} (h : closedB md ops seen = true) : ClosedS md ops seen := by
  intro j oj hj hs e he hb
  have hlt : j < ops.size := (Array.getElem?_eq_some_iff.1 hj).1
  have h1 := List.all_eq_true.1 h j (List.mem_range.2 hlt)
  rw [hs, hj] at h1
  simp only [Bool.not_true, Bool.false_or] at h1
  have h2 := Array.all_eq_true'.1 h1 e he
  rw [hb] at h2
  simpa using h2
theorem ClosedS.set {seen : Array Bool} (h : ClosedS md ops seen) {j : Nat} (hr : j ∈ Region.ready md ops seen) : ClosedS md ops (seen.setIfInBounds j true) := by
  intro k ok hk hs e he hb
  rcases Nat.decEq j k with hjk | rfl
  · rw [getD_set_ne false hjk] at hs
    exact getD_set_true (h k ok hk hs e he hb)
  · obtain ⟨_, o', ho', hall⟩ := mem_ready.1 hr
    rw [hk] at ho'
    cases ho'
    exact getD_set_true (hall e he hb)
/-- z waits for i, through others it may be -/
def waitsT (md : Region.Mode) (ops : Array Oper) : Nat → Nat → Nat → Bool
  | 0, z, i => Region.waitsFor md ops z i
  | f + 1, z, i => Region.waitsFor md ops z i || (List.range ops.size).any fun m => Region.waitsFor md ops z m && waitsT md ops f m i
theorem waits_seen {seen : Array Bool} (hc : ClosedS md ops seen) : ∀ (f z i : Nat), (∀ oz, ops[z]? = some oz → ∀ e ∈ oz.after, Region.binds md e = true → seen.getD e.on false = true) → waitsT md ops f z i = true → seen.getD i false = true
  | 0, z, i, hz, h => by
    obtain ⟨oz, ho, e, he, hb, hon⟩ := Region.waitsFor_spec h
    rw [← hon]
    exact hz oz ho e he hb
  | f + 1, z, i, hz, h => by
    unfold waitsT at h
    rw [Bool.or_eq_true] at h
    rcases h with h | h
    · obtain ⟨oz, ho, e, he, hb, hon⟩ := Region.waitsFor_spec h
      rw [← hon]
      exact hz oz ho e he hb
    · obtain ⟨m, -, hm⟩ := List.any_eq_true.1 h
      rw [Bool.and_eq_true] at hm
      obtain ⟨oz, ho, e, he, hb, hon⟩ := Region.waitsFor_spec hm.1
      have hsm := hz oz ho e he hb
      rw [hon] at hsm
      exact waits_seen hc f m i (fun om hom e' he' hb' => hc m om hom hsm e' he' hb') hm.2
/-- what is left to draw, no operation but z leaving the class -/
def wpAnyE (P : Program) (md : Region.Mode) (ops : Array Oper) (C : World → Prop) (z : Nat) (Q : Exit → Act → World → Prop) : Nat → Array Bool → Act → World → Prop
  | 0, seen, a, w => Region.ready md ops seen = [] ∧ Q .normal a w
  | f + 1, seen, a, w => (Region.ready md ops seen = [] → Q .normal a w) ∧ ∀ i ∈ Region.ready md ops seen, wpOp P ops Q i (fun a' w' => (i = z ∨ C w') ∧ wpAnyE P md ops C z Q f (seen.setIfInBounds i true) a' w') a w
theorem wpAnyE.any : ∀ {f : Nat} {seen : Array Bool} {a : Act} {w : World}, wpAnyE P md ops C z Q f seen a w → wpAny P md ops Q f seen a w
  | 0, _, _, _, h => h
  | _ + 1, _, _, _, h => ⟨h.1, fun i hi => wpOp_mono (fun _ _ h2 => wpAnyE.any h2.2) (h.2 i hi)⟩
theorem wpAnyE_first {i : Nat} (hz : waitsT md ops 3 z i = true) {oi : Oper} {v : Value} (hi : ops[i]? = some oi) (hsel : ∀ (j : Nat) (o : Oper) cs b, ops[j]? = some o → o.op ≠ .select cs b) (hQ : ∀ c a w, Q (.panic c) (a.put oi.dst v) w → Q (.panic c) a w) (f : Nat) :
    ∀ (seen : Array Bool) (a : Act) (w : World), C w → ClosedS md ops seen →
      (∀ j oj, ops[j]? = some oj → j ≠ i → seen.getD j true = false → (∀ e ∈ oj.after, Region.binds md e = true → e.on ≠ i) → oi.apart ops oj = true) →
      i ∈ Region.ready md ops seen → ReadsC P ops C oi v a →
      wpAnyE P md ops C z Q f (seen.setIfInBounds i true) (a.put oi.dst v) w → wpAnyE P md ops C z Q (f + 1) seen a w := by
  induction f with
  | zero =>
    intro seen a w hw hcl _ hr hy H
    refine ⟨fun h => absurd hr (by rw [h]; simp), fun j hj => ?_⟩
    rcases Nat.decEq j i with hji | rfl
    · have := ready_mono hj hji
      rw [H.1] at this
      cases this
    · exact hy.step hi hw ⟨.inr hw, H⟩
  | succ f ih =>
    intro seen a w hw hcl hfree hr hy H
    refine ⟨fun h => absurd hr (by rw [h]; simp), fun j hj => ?_⟩
    rcases Nat.decEq j i with hji | rfl
    · obtain ⟨hjun, oj, hoj, hall⟩ := mem_ready.1 hj
      have hjz : j ≠ z := by
        rintro rfl
        have h1 := waits_seen hcl 3 j i (fun oz hoz e he hb => by
          rw [hoj] at hoz
          cases hoz
          exact hall e he hb) hz
        rw [getD_both (mem_ready.1 hr).1] at h1
        exact Bool.noConfusion h1
      have hno : ∀ e ∈ oj.after, Region.binds md e = true → e.on ≠ i := fun e he hb heq => by
        have h1 := hall e he hb
        rw [heq, getD_both (mem_ready.1 hr).1] at h1
        exact Bool.noConfusion h1
      refine wpOp_mono (fun a' w' h3 => ⟨.inr (h3.2.1.resolve_left hjz), ih _ a' w' (h3.2.1.resolve_left hjz) (hcl.set hj) (fun k ok hk hki hun hno' => hfree k ok hk hki ?_ hno') (ready_mono hr (Ne.symm hji)) h3.1 ?_⟩) (hy.past hoj (hfree j oj hoj hji hjun hno) (fun cs b => hsel i oi cs b hi) (fun cs b => hsel j oj cs b hoj) hQ (H.2 j (ready_mono hj hji)))
      · rcases Nat.decEq j k with hjk | rfl
        · rwa [getD_set_ne true hjk] at hun
        · exact hjun
      · rw [Array.setIfInBounds_comm _ _ hji]
        exact h3.2.2
    · exact hy.step hi hw ⟨.inr hw, H⟩
/-- take a reading operation first -/
theorem wpAnyE_take {i : Nat} {oi : Oper} {v : Value} {f : Nat} {seen : Array Bool} {a : Act} {w : World} (hz : waitsT md ops 3 z i = true) (hcl : closedB md ops seen = true) (hi : ops[i]? = some oi) (hs : Region.noSelect ops = true) (hf : Region.free md ops seen i = true) (hr : (Region.ready md ops seen).contains i = true)
    (hQ : ∀ c a w, Q (.panic c) (a.put oi.dst v) w → Q (.panic c) a w) (hw : C w) (hg : Region.wanted oi (yielded ops a.tmps) = true) (hy : ∀ w, C w → (execOp a.eval oi).run P w = .ok (.value v) w)
    (h : wpAnyE P md ops C z Q f (seen.setIfInBounds i true) (a.put oi.dst v) w) : wpAnyE P md ops C z Q (f + 1) seen a w :=
  wpAnyE_first hz hi (Region.noSelect_spec hs) hQ f seen a w hw (closed_spec hcl) (Region.free_spec hi hf) (by simpa using hr) (.inl ⟨hg, hy⟩) h
/-- only one operation may come up -/
theorem wpAnyE_one (i : Nat) {o : Oper} {f : Nat} {seen : Array Bool} {a : Act} {w : World} (hr : Region.ready md ops seen = [i]) (hi : ops[i]? = some o) (hg : Region.wanted o (yielded ops a.tmps) = true)
    (h : ∀ K : Act → World → Prop, (∀ a w, (i = z ∨ C w) → wpAnyE P md ops C z Q f (seen.setIfInBounds i true) a w → K a w) → Oper.wp P o a w K Q) : wpAnyE P md ops C z Q (f + 1) seen a w := by
  refine ⟨fun h0 => (by rw [hr] at h0; cases h0), fun j hj => ?_⟩
  rw [hr, List.mem_singleton] at hj
  subst hj
  unfold wpOp
  simp only [hi, hg, if_true]
  exact .inl (h _ fun a w h1 h2 => ⟨h1, h2⟩)
theorem wpAnyE_skip {i : Nat} {oi : Oper} {f : Nat} {seen : Array Bool} {a : Act} {w : World} (hz : waitsT md ops 3 z i = true) (hcl : closedB md ops seen = true) (hi : ops[i]? = some oi) (hs : Region.noSelect ops = true) (hf : Region.free md ops seen i = true) (hr : (Region.ready md ops seen).contains i = true)
    (hQ : ∀ c a w, Q (.panic c) (a.put oi.dst undef) w → Q (.panic c) a w) (hw : C w) (hg : Region.wanted oi (yielded ops a.tmps) = false)
    (h : wpAnyE P md ops C z Q f (seen.setIfInBounds i true) (a.put oi.dst undef) w) : wpAnyE P md ops C z Q (f + 1) seen a w :=
  wpAnyE_first hz hi (Region.noSelect_spec hs) hQ f seen a w hw (closed_spec hcl) (Region.free_spec hi hf) (by simpa using hr) (.inr ⟨hg, rfl⟩) h
theorem wp_region_E (z : Nat) {id : Nat} {a : Act} {w : World} {l : List Oper} (hm : P.follows .mixedOrders = true) (h : wpAnyE P .any l.toArray C z Q l.length (Array.replicate l.length false) a w.drew) : (Code.region id l.toArray true).wp P Q a w := by
  refine wp_region_any hm ?_
  have := wpAnyE.any h
  simpa using this
end
end Go.Proofs.Ytepigkjgjlibcaa
namespace Go.Proofs.Ytepigkjgjlibcaa
open Go.RowKit
section
variable {P : Program} {ops : Array Oper} {md : Region.Mode} {R : World → World → Prop} {z : Nat} {Q : Exit → Act → World → Prop}
structure Grows (R : World → World → Prop) : Prop where
  rfl_ : ∀ w, R w w
  trans : ∀ {a b c}, R a b → R b c → R a c
theorem grows_ext : Grows Ext := ⟨Ext.refl, fun h k => h.trans k⟩
theorem grows_mod (F : Nat → Prop) : Grows (Mod F) := ⟨Mod.refl F, fun h k => h.trans k⟩
def StepX (P : Program) (ops : Array Oper) (R : World → World → Prop) (o : Oper) (v : Value) (a : Act) (w : World) : Prop :=
  (Region.wanted o (yielded ops a.tmps) = true ∧ ∀ w', R w w' → (execOp a.eval o).run P w' = .ok (.value v) w' ∨ ∃ f args, (execOp a.eval o).run P w' = .ok (.enter f args) w' ∧ Calls P f args w' fun e w'' => e = .returned v ∧ R w' w'') ∨
  (Region.wanted o (yielded ops a.tmps) = false ∧ v = undef)
theorem StepX.step {i : Nat} {o : Oper} {v : Value} {a : Act} {w : World} (hi : ops[i]? = some o) (hR : Grows R) (hy : StepX P ops R o v a w) {K : Act → World → Prop} {w' : World} (hw : R w w') (h : ∀ w'', R w' w'' → K (a.put o.dst v) w'') : wpOp P ops Q i K a w' := by
  unfold wpOp
  rcases hy with ⟨h1, h2⟩ | ⟨h1, rfl⟩
  · rcases h2 w' hw with h2 | ⟨f, args, h2, h3⟩
    · simp only [hi, h1, if_true, Oper.wp, h2, Oper.upon]
      exact .inl (h _ (hR.rfl_ _))
    · simp only [hi, h1, if_true, Oper.wp, h2, Oper.upon]
      exact .inl (h3.mono fun e w'' ⟨he, hr⟩ => by subst he; exact h _ hr)
  · simp only [hi, h1, Bool.false_eq_true, if_false]
    exact h _ (hR.rfl_ _)
theorem StepX.same {o : Oper} {v : Value} {a a' : Act} {w : World} (hy : StepX P ops R o v a w) (he : execOp a'.eval o = execOp a.eval o) (hw : Region.wanted o (yielded ops a'.tmps) = Region.wanted o (yielded ops a.tmps)) : StepX P ops R o v a' w := by
  unfold StepX
  rw [he, hw]
  exact hy
theorem StepX.grow {o : Oper} {v : Value} {a : Act} {w w' : World} (hR : Grows R) (hy : StepX P ops R o v a w) (h : R w w') : StepX P ops R o v a w' :=
  hy.imp (fun ⟨h1, h2⟩ => ⟨h1, fun x hx => h2 x (hR.trans h hx)⟩) id
theorem StepX.past {j : Nat} {oi oj : Oper} {v : Value} (hj : ops[j]? = some oj) (hap : oi.apart ops oj = true) (hsi : ∀ cs b, oi.op ≠ .select cs b) (hsj : ∀ cs b, oj.op ≠ .select cs b)
    (hQ : ∀ c a w, Q (.panic c) (a.put oi.dst v) w → Q (.panic c) a w) {K : Act → World → Prop} {a : Act} {w u : World} (hy : StepX P ops R oi v a u) (h : wpOp P ops Q j K (a.put oi.dst v) w) :
    wpOp P ops Q j (fun a' w' => StepX P ops R oi v a' u ∧ K (a'.put oi.dst v) w') a w := by
  obtain ⟨h1, h2, h3⟩ := Oper.apart_spec hap
  have stay : ∀ (b : Act), StepX P ops R oi v b u → ∀ x, StepX P ops R oi v (b.put oj.dst x) u := fun b hb x => hb.same (execOp_put oi hsi b oj.dst x h3) (wanted_put oi b oj.dst x h3)
  have swap : ∀ (b : Act) (u : Value) (w' : World), K ((b.put oi.dst v).put oj.dst u) w' → K ((b.put oj.dst u).put oi.dst v) w' := fun b u w' hk => by rw [← Act.put_comm b v u h2]; exact hk
  unfold wpOp at h ⊢
  simp only [hj] at h ⊢
  rw [wanted_put oj a oi.dst v h1] at h
  by_cases hw : Region.wanted oj (yielded ops a.tmps) = true
  · simp only [hw, if_true] at h ⊢
    rcases h with h | ⟨hasks, hlets⟩
    · refine .inl ?_
      unfold Oper.wp at h ⊢
      rw [execOp_put oj hsj a oi.dst v h1] at h
      generalize (execOp a.eval oj).run P w = r at h ⊢
      cases r with
      | ok n w' =>
        cases n <;> simp only [Oper.upon] at h ⊢
        case value u => exact ⟨stay a hy u, swap a u w' h⟩
        case skip => exact ⟨stay a hy _, swap a undef w' h⟩
        case defer d =>
          have hd : StepX P ops R oi v { a with defers := d :: a.defers } u := hy.same rfl rfl
          exact ⟨stay _ hd _, by rw [← Act.put_comm _ v undef h2, ← Act.put_defers]; exact h⟩
        case enter f args =>
          refine Calls.mono h fun e w'' he => ?_
          cases e with
          | returned u => exact ⟨stay a hy u, swap a u w'' he⟩
          | panicked c => exact hQ _ _ _ he
          | outgrown => exact he
        case row row args => exact Rows.mono h fun u w'' he => ⟨stay a hy u, swap a u w'' he⟩
      | halt x w' =>
        cases x <;> simp only [Oper.upon] at h ⊢
        case panic u => exact hQ _ _ _ h
    · exact .inr ⟨by unfold Oper.asks at hasks ⊢; rw [execOp_put oj hsj a oi.dst v h1] at hasks; exact hasks, hlets⟩
  · simp only [hw] at h ⊢
    exact ⟨stay a hy _, swap a undef w h⟩
def wpAnyX (P : Program) (md : Region.Mode) (ops : Array Oper) (R : World → World → Prop) (z : Nat) (Q : Exit → Act → World → Prop) : Nat → Array Bool → Act → World → Prop
  | 0, seen, a, w => Region.ready md ops seen = [] ∧ Q .normal a w
  | f + 1, seen, a, w => (Region.ready md ops seen = [] → Q .normal a w) ∧ ∀ i ∈ Region.ready md ops seen,
      wpOp P ops Q i (fun a' w' => (i = z → wpAny P md ops Q f (seen.setIfInBounds i true) a' w') ∧ (i ≠ z → R w w' ∧ ∀ w'', R w' w'' → wpAnyX P md ops R z Q f (seen.setIfInBounds i true) a' w'')) a w
theorem wpAnyX.any (hR : Grows R) : ∀ {f : Nat} {seen : Array Bool} {a : Act} {w : World}, wpAnyX P md ops R z Q f seen a w → wpAny P md ops Q f seen a w
  | 0, _, _, _, h => h
  | _ + 1, _, _, _, h => ⟨h.1, fun i hi => wpOp_mono (fun a' w' h2 => by
      by_cases hz : i = z
      · exact h2.1 hz
      · exact wpAnyX.any hR ((h2.2 hz).2 _ (hR.rfl_ _))) (h.2 i hi)⟩
/-- in whatever world has grown out of w -/
def wpX (P : Program) (md : Region.Mode) (ops : Array Oper) (R : World → World → Prop) (z : Nat) (Q : Exit → Act → World → Prop) (f : Nat) (seen : Array Bool) (a : Act) (w : World) : Prop := ∀ w', R w w' → wpAnyX P md ops R z Q f seen a w'
theorem wpX_first (hR : Grows R) {i : Nat} (hz : (decide (ops.size ≤ z) || waitsT md ops 3 z i) = true) {oi : Oper} {v : Value} (hi : ops[i]? = some oi) (hsel : ∀ (j : Nat) (o : Oper) cs b, ops[j]? = some o → o.op ≠ .select cs b) (hQ : ∀ c a w, Q (.panic c) (a.put oi.dst v) w → Q (.panic c) a w) (f : Nat) :
    ∀ (seen : Array Bool) (a : Act) (w : World), ClosedS md ops seen →
      (∀ j oj, ops[j]? = some oj → j ≠ i → seen.getD j true = false → (∀ e ∈ oj.after, Region.binds md e = true → e.on ≠ i) → oi.apart ops oj = true) →
      i ∈ Region.ready md ops seen → StepX P ops R oi v a w →
      wpX P md ops R z Q f (seen.setIfInBounds i true) (a.put oi.dst v) w → wpX P md ops R z Q (f + 1) seen a w := by
  have noz : ∀ seen, ClosedS md ops seen → i ∈ Region.ready md ops seen → ∀ j ∈ Region.ready md ops seen, j ≠ z := by
    intro seen hcl hr j hj
    obtain ⟨hjun, oj, hoj, hall⟩ := mem_ready.1 hj
    rintro rfl
    rw [Bool.or_eq_true, decide_eq_true_eq] at hz
    rcases hz with hz | hz
    · have := (Array.getElem?_eq_some_iff.1 hoj).1
      omega
    · have h1 := waits_seen hcl 3 j i (fun oz hoz e he hb => by
        rw [hoj] at hoz
        cases hoz
        exact hall e he hb) hz
      rw [getD_both (mem_ready.1 hr).1] at h1
      exact Bool.noConfusion h1
  induction f with
  | zero =>
    intro seen a w hcl hfree hr hy H w' hw
    refine ⟨fun h => absurd hr (by rw [h]; simp), fun j hj => ?_⟩
    rcases Nat.decEq j i with hji | rfl
    · have := ready_mono hj hji
      rw [(H w' hw).1] at this
      cases this
    · exact hy.step hi hR hw fun w'' hw2 => ⟨fun h => absurd h (noz seen hcl hr j hj), fun _ => ⟨hw2, fun w3 hw3 => H w3 (hR.trans hw (hR.trans hw2 hw3))⟩⟩
  | succ f ih =>
    intro seen a w hcl hfree hr hy H w' hw
    refine ⟨fun h => absurd hr (by rw [h]; simp), fun j hj => ?_⟩
    rcases Nat.decEq j i with hji | rfl
    · obtain ⟨hjun, oj, hoj, hall⟩ := mem_ready.1 hj
      have hjz := noz seen hcl hr j hj
      have hno : ∀ e ∈ oj.after, Region.binds md e = true → e.on ≠ i := fun e he hb heq => by
        have h1 := hall e he hb
        rw [heq, getD_both (mem_ready.1 hr).1] at h1
        exact Bool.noConfusion h1
      refine wpOp_mono (fun a' w1 h3 => ⟨fun h => absurd h hjz, fun _ => ⟨(h3.2.2 hjz).1, ih _ a' w1 (hcl.set hj) (fun k ok hk hki hun hno' => hfree k ok hk hki ?_ hno') (ready_mono hr (Ne.symm hji)) (h3.1.grow hR (hR.trans hw (h3.2.2 hjz).1)) ?_⟩⟩) (hy.past hoj (hfree j oj hoj hji hjun hno) (fun cs b => hsel i oi cs b hi) (fun cs b => hsel j oj cs b hoj) hQ ((H w' hw).2 j (ready_mono hj hji)))
      · rcases Nat.decEq j k with hjk | rfl
        · rwa [getD_set_ne true hjk] at hun
        · exact hjun
      · rw [Array.setIfInBounds_comm _ _ hji]
        exact (h3.2.2 hjz).2
    · exact hy.step hi hR hw fun w'' hw2 => ⟨fun h => absurd h (noz seen hcl hr j hj), fun _ => ⟨hw2, fun w3 hw3 => H w3 (hR.trans hw (hR.trans hw2 hw3))⟩⟩
section
variable {f : Nat} {seen : Array Bool} {a : Act} {w : World}
/-- take a reading operation first -/
theorem wpX_take (hR : Grows R) {i : Nat} {oi : Oper} {v : Value} (hz : (decide (ops.size ≤ z) || waitsT md ops 3 z i) = true) (hcl : closedB md ops seen = true) (hi : ops[i]? = some oi) (hs : Region.noSelect ops = true) (hf : Region.free md ops seen i = true) (hr : (Region.ready md ops seen).contains i = true)
    (hQ : ∀ c a w, Q (.panic c) (a.put oi.dst v) w → Q (.panic c) a w) (hg : Region.wanted oi (yielded ops a.tmps) = true) (hy : ∀ W, R w W → (execOp a.eval oi).run P W = .ok (.value v) W)
    (h : wpX P md ops R z Q f (seen.setIfInBounds i true) (a.put oi.dst v) w) : wpX P md ops R z Q (f + 1) seen a w :=
  wpX_first hR hz hi (Region.noSelect_spec hs) hQ f seen a w (closed_spec hcl) (Region.free_spec hi hf) (by simpa using hr) (.inl ⟨hg, fun W hW => .inl (hy W hW)⟩) h
/-- take a call that hands back a plain value first -/
theorem wpX_call (hR : Grows R) {i : Nat} {oi : Oper} {v : Value} (hz : (decide (ops.size ≤ z) || waitsT md ops 3 z i) = true) (hcl : closedB md ops seen = true) (hi : ops[i]? = some oi) (hs : Region.noSelect ops = true) (hf : Region.free md ops seen i = true) (hr : (Region.ready md ops seen).contains i = true)
    (hQ : ∀ c a w, Q (.panic c) (a.put oi.dst v) w → Q (.panic c) a w) (hg : Region.wanted oi (yielded ops a.tmps) = true) (g : FuncId) (args : Array Value) (he : ∀ W, (execOp a.eval oi).run P W = .ok (.enter g args) W)
    (hy : ∀ W, R w W → Calls P g args W fun e w'' => e = .returned v ∧ R W w'')
    (h : wpX P md ops R z Q f (seen.setIfInBounds i true) (a.put oi.dst v) w) : wpX P md ops R z Q (f + 1) seen a w :=
  wpX_first hR hz hi (Region.noSelect_spec hs) hQ f seen a w (closed_spec hcl) (Region.free_spec hi hf) (by simpa using hr) (.inl ⟨hg, fun W hW => .inr ⟨g, args, he W, hy W hW⟩⟩) h
theorem wpX_skip (hR : Grows R) {i : Nat} {oi : Oper} (hz : (decide (ops.size ≤ z) || waitsT md ops 3 z i) = true) (hcl : closedB md ops seen = true) (hi : ops[i]? = some oi) (hs : Region.noSelect ops = true) (hf : Region.free md ops seen i = true) (hr : (Region.ready md ops seen).contains i = true)
    (hQ : ∀ c a w, Q (.panic c) (a.put oi.dst undef) w → Q (.panic c) a w) (hg : Region.wanted oi (yielded ops a.tmps) = false)
    (h : wpX P md ops R z Q f (seen.setIfInBounds i true) (a.put oi.dst undef) w) : wpX P md ops R z Q (f + 1) seen a w :=
  wpX_first hR hz hi (Region.noSelect_spec hs) hQ f seen a w (closed_spec hcl) (Region.free_spec hi hf) (by simpa using hr) (.inr ⟨hg, rfl⟩) h
/-- one operation alone may come up -/
theorem wpX_one (i : Nat) {o : Oper} (hr : Region.ready md ops seen = [i]) (hiz : decide (i = z) = false) (hi : ops[i]? = some o) (hg : Region.wanted o (yielded ops a.tmps) = true)
    (h : ∀ W, R w W → ∀ K : Act → World → Prop, (∀ a w', R W w' → wpX P md ops R z Q f (seen.setIfInBounds i true) a w' → K a w') → Oper.wp P o a W K Q) : wpX P md ops R z Q (f + 1) seen a w := by
  intro W hW
  refine ⟨fun h0 => (by rw [hr] at h0; cases h0), fun j hj => ?_⟩
  rw [hr, List.mem_singleton] at hj
  subst hj
  unfold wpOp
  simp only [hi, hg, if_true]
  exact .inl (h W hW _ fun a w' h1 h2 => ⟨fun e => by simp [e] at hiz, fun _ => ⟨h1, h2⟩⟩)
/-- z alone may come up: then anything goes -/
theorem wpX_out (i : Nat) {o : Oper} (hr : Region.ready md ops seen = [i]) (hiz : decide (i = z) = true) (hi : ops[i]? = some o) (hg : Region.wanted o (yielded ops a.tmps) = true)
    (h : ∀ W, R w W → ∀ K : Act → World → Prop, (∀ a w', wpAnyC P md ops (fun _ => True) Q f (seen.setIfInBounds i true) a w' → K a w') → Oper.wp P o a W K Q) : wpX P md ops R z Q (f + 1) seen a w := by
  intro W hW
  refine ⟨fun h0 => (by rw [hr] at h0; cases h0), fun j hj => ?_⟩
  rw [hr, List.mem_singleton] at hj
  subst hj
  unfold wpOp
  simp only [hi, hg, if_true]
  exact .inl (h W hW _ fun a w' h1 => ⟨fun _ => h1.any, fun e => absurd (of_decide_eq_true hiz) e⟩)
/-- nothing is left -/
theorem wpX_done (hr : Region.ready md ops seen = []) (h : ∀ W, R w W → Q .normal a W) : wpX P md ops R z Q f seen a w := by
  intro W hW
  cases f with
  | zero => exact ⟨hr, h W hW⟩
  | succ f => exact ⟨fun _ => h W hW, fun i hi => (by rw [hr] at hi; cases hi)⟩
theorem wp_region_X (R : World → World → Prop) (hR : Grows R) (z : Nat) {id : Nat} {l : List Oper} (hm : P.follows .mixedOrders = true) (h : wpX P .any l.toArray R z Q l.length (Array.replicate l.length false) a w.drew) : (Code.region id l.toArray true).wp P Q a w := by
  refine wp_region_any hm ?_
  have := (h _ (hR.rfl_ _)).any hR
  simpa using this
end
end
end Go.Proofs.Ytepigkjgjlibcaa
namespace Go.Proofs.Ytepigkjgjlibcaa
open Go.RowKit
/-- w' is w with new blocks, and blocks from base on may have got a mark -/
structure Soft (base : Nat) (w w' : World) : Prop where
  mod : Mod (fun b => base ≤ b) w w'
  cells : ∀ (g : Nat) (C : Array Value) (e : TypeId) (fr : Nat × Nat), w.heap[g]? = some (.cells C e fr) → ∃ fr', w'.heap[g]? = some (.cells C e fr') ∧ (fr' = fr ∨ (fr.1 = fr.2 ∧ fr' = (C.size, C.size + 1)))
theorem soft_ext {base : Nat} {w w' : World} (h : Ext w w') : Soft base w w' :=
  ⟨Mod.of_ext _ h, fun g _ _ fr hg => ⟨fr, (Below.block h g (Array.getElem?_eq_some_iff.1 hg).1).trans hg, .inl rfl⟩⟩
theorem Soft.trans {base : Nat} {a b c : World} (h : Soft base a b) (k : Soft base b c) : Soft base a c := by
  refine ⟨h.mod.trans k.mod, fun g C e fr hg => ?_⟩
  obtain ⟨f1, h1, h2⟩ := h.cells g C e fr hg
  obtain ⟨f2, h3, h4⟩ := k.cells g C e f1 h1
  refine ⟨f2, h3, ?_⟩
  rcases h2 with rfl | ⟨h2, rfl⟩
  · exact h4
  · rcases h4 with rfl | ⟨h4, -⟩
    · exact .inr ⟨h2, rfl⟩
    · exact absurd h4 (by simp)
theorem grows_soft (base : Nat) : Grows (Soft base) := ⟨fun w => soft_ext (Ext.refl w), fun h k => h.trans k⟩
theorem Soft.ext {base : Nat} {w w' : World} (h : Soft base w w') (hb : base = w.heap.size) : Ext w w' := h.mod.ext fun _ hk => hb ▸ hk
theorem Soft.row {base : Nat} {w w' : World} (h : Soft base w w') {g : Nat} {e : TypeId} {xs : List Value} (hr : RowB w g e xs) : RowB w' g e xs := by
  obtain ⟨C, fr, rest, h1, h2, h3⟩ := hr
  obtain ⟨fr', k1, k2⟩ := h.cells g C e fr h1
  refine ⟨C, fr', rest, k1, ?_, h3⟩
  rcases k2 with rfl | ⟨-, rfl⟩
  · exact h2
  · intro j hj _
    exact hj
/-- a fresh byte row: no mark, or the mark behind its end -/
def Fresh8 (w : World) (g : Nat) (C : Array Value) (e : TypeId) : Prop := w.heap[g]? = some (.cells C e (0, 0)) ∨ w.heap[g]? = some (.cells C e (C.size, C.size + 1))
theorem Soft.fresh {base : Nat} {w w' : World} (h : Soft base w w') {g : Nat} {C : Array Value} {e : TypeId} (hf : Fresh8 w g C e) : Fresh8 w' g C e := by
  rcases hf with hf | hf
  · obtain ⟨fr', k1, k2⟩ := h.cells g C e _ hf
    rcases k2 with rfl | ⟨-, rfl⟩
    · exact .inl k1
    · exact .inr k1
  · obtain ⟨fr', k1, k2⟩ := h.cells g C e _ hf
    rcases k2 with rfl | ⟨k2, -⟩
    · exact .inr k1
    · exact absurd k2 (by simp)
theorem Fresh8.row {w : World} {g : Nat} {C : Array Value} {e : TypeId} (h : Fresh8 w g C e) : RowB w g e C.toList := by
  rcases h with h | h
  · exact ⟨C, _, [], h, fun j h1 h2 => by simp at h2, by simp⟩
  · exact ⟨C, _, [], h, fun j h1 h2 => h1, by simp⟩
theorem fresh_laid (w : World) (C : Array Value) (e : TypeId) : Fresh8 (w.alloc (.cells C e)) w.heap.size C e := .inl (by show (w.heap.push _)[w.heap.size]? = _; simp)
/-- '[]byte("abc")': the row of the constant gets its mark -/
theorem run_mark {P : Program} {base : Nat} {w : World} {g : Nat} {C : Array Value} {e : TypeId} (h : Fresh8 w g C e) (hb : base ≤ g) (t : TypeId) (n c : Nat) (ht : P.underlying t = some (.slice e)) (he : P.underlying e = some (.int .u8)) :
    ∃ w', (convert t t (.slice (some ⟨g, 0, none⟩) n c)).run P w = .ok (.slice (some ⟨g, 0, none⟩) n c) w' ∧ Soft base w w' ∧ Fresh8 w' g C e := by
  have hsh : w.shape? g = some (e, C.size) := by
    unfold World.shape?
    rcases h with h | h <;> rw [h]
  have hlt : g < w.heap.size := by rcases h with h | h <;> exact (Array.getElem?_eq_some_iff.1 h).1
  refine ⟨w.freeze ⟨g, C.size, none⟩ 1, ?_, ?_⟩
  · simp [convert, run_underlying ht, run_underlying he, markStringish, hsh]
    try rfl
  · have hg : (w.freeze ⟨g, C.size, none⟩ 1).heap[g]? = some (.cells C e (C.size, C.size + 1)) := by
      unfold World.freeze
      rw [if_neg (by decide)]
      simp only [Array.getElem?_modify]
      rcases h with h | h
      · rw [h]; simp
      · rw [h]; simp
    have ho : ∀ k, k ≠ g → (w.freeze ⟨g, C.size, none⟩ 1).heap[k]? = w.heap[k]? := by
      intro k hk
      unfold World.freeze
      rw [if_neg (by decide)]
      simp only [Array.getElem?_modify]
      rw [if_neg (fun e => hk e.symm)]
    have hz : (w.freeze ⟨g, C.size, none⟩ 1).heap.size = w.heap.size := by unfold World.freeze; rw [if_neg (by decide)]; simp
    refine ⟨⟨⟨?_, ?_, ?_, by rw [hz]; exact Nat.le_refl _, fun k hk hn => ho k (fun e => hn (e ▸ hb))⟩, fun k C' e' fr' hk => ?_⟩, .inr hg⟩
    · unfold World.freeze; rw [if_neg (by decide)]
    · unfold World.freeze; rw [if_neg (by decide)]
    · unfold World.freeze; rw [if_neg (by decide)]
    · rcases Nat.decEq k g with hkg | rfl
      · exact ⟨fr', (ho k hkg).trans hk, .inl rfl⟩
      · rcases h with h | h
        · rw [h] at hk; cases hk; exact ⟨_, hg, .inr ⟨rfl, rfl⟩⟩
        · rw [h] at hk; cases hk; exact ⟨_, hg, .inl rfl⟩
section
variable {P : Program} {ops : Array Oper} {md : Region.Mode} {R : World → World → Prop} {z : Nat} {Q : Exit → Act → World → Prop} {f : Nat} {seen : Array Bool} {a : Act} {w : World}
theorem wpX_bytes (hRE : ∀ a b, Ext a b → R a b) (i : Nat) {o : Oper} (hr : Region.ready md ops seen = [i]) (hiz : decide (i = z) = false) (hi : ops[i]? = some o) (hg : Region.wanted o (yielded ops a.tmps) = true)
    (src dst e : TypeId) (x : Operand) (ho : o.op = Op.convert src dst x) (hs : P.underlying src = some .string) (hd : P.underlying dst = some (.slice e)) (he : P.underlying e = some (.int .u8)) (s : ByteArray) (hx : a.eval x = .string s)
    (h : ∀ W, R w W → ∀ w' cap, Ext W w' → RowB w' W.heap.size e (s.data.toList.map fun b => Value.int .u8 b.toNat) → s.size ≤ cap → wpX P md ops R z Q f (seen.setIfInBounds i true) (a.put o.dst (.slice (some ⟨W.heap.size, 0, none⟩) s.size cap)) w') :
    wpX P md ops R z Q (f + 1) seen a w := by
  refine wpX_one i hr hiz hi hg fun W hW K hK => ?_
  have hrun := run_bytes_of_string (P := P) W src dst e s hs hd he
  unfold Oper.wp
  simp only [execOp, ho, hx, Sem.run_bind, hrun, Result.andThen]
  have hX : Ext W (W.drew.alloc (.cells (bytesRow s (grownCap W s.size 0 e)) e ((bytesRow s (grownCap W s.size 0 e)).size, (bytesRow s (grownCap W s.size 0 e)).size + 1))) := (Ext.refl W).drew.trans (Ext.alloc (Ext.refl _) _)
  refine hK _ _ (hRE _ _ hX) (h W hW _ _ hX ?_ (grownCap_ge W s.size 0 e))
  refine ⟨bytesRow s (grownCap W s.size 0 e), ((bytesRow s (grownCap W s.size 0 e)).size, (bytesRow s (grownCap W s.size 0 e)).size + 1), List.replicate (grownCap W s.size 0 e - s.size) (.int .u8 0), ?_, ?_, ?_⟩
  · show (W.heap.push _)[W.heap.size]? = _
    simp
  · intro j h1 _; exact h1
  · unfold bytesRow
    simp
end
end Go.Proofs.Ytepigkjgjlibcaa
namespace Go.Proofs.Ytepigkjgjlibcaa
open Go.RowKit
section
variable {P : Program} {ops : Array Oper} {md : Region.Mode} {R : World → World → Prop} {z : Nat} {Q : Exit → Act → World → Prop} {f : Nat} {seen : Array Bool} {a : Act} {w : World}
theorem wpX_two (i j : Nat) {oi oj : Oper} (hr : Region.ready md ops seen = [i, j]) (hiz : decide (i = z) = false) (hjz : decide (j = z) = false) (hi : ops[i]? = some oi) (hj : ops[j]? = some oj) (hgi : Region.wanted oi (yielded ops a.tmps) = true) (hgj : Region.wanted oj (yielded ops a.tmps) = true)
    (h1 : ∀ W, R w W → ∀ K : Act → World → Prop, (∀ a w', R W w' → wpX P md ops R z Q f (seen.setIfInBounds i true) a w' → K a w') → Oper.wp P oi a W K Q)
    (h2 : ∀ W, R w W → ∀ K : Act → World → Prop, (∀ a w', R W w' → wpX P md ops R z Q f (seen.setIfInBounds j true) a w' → K a w') → Oper.wp P oj a W K Q) : wpX P md ops R z Q (f + 1) seen a w := by
  intro W hW
  refine ⟨fun h0 => (by rw [hr] at h0; cases h0), fun k hk => ?_⟩
  rw [hr] at hk
  simp only [List.mem_cons, List.not_mem_nil, or_false] at hk
  rcases hk with rfl | rfl
  · unfold wpOp
    simp only [hi, hgi, if_true]
    exact .inl (h1 W hW _ fun a w' h1 h2 => ⟨fun e => by simp [e] at hiz, fun _ => ⟨h1, h2⟩⟩)
  · unfold wpOp
    simp only [hj, hgj, if_true]
    exact .inl (h2 W hW _ fun a w' h1 h2 => ⟨fun e => by simp [e] at hjz, fun _ => ⟨h1, h2⟩⟩)
end
end Go.Proofs.Ytepigkjgjlibcaa
namespace Go.Proofs.Ytepigkjgjlibcaa
open Go.RowKit
section
variable {P : Program} {ops : Array Oper} {md : Region.Mode} {C : World → Prop} {R : World → World → Prop} {z : Nat} {Q : Exit → Act → World → Prop} {f : Nat} {seen : Array Bool} {a : Act} {w : World}
theorem qC_take {i : Nat} {oi : Oper} {v : Value} {s : Option Nat} (hi : ops[i]? = some oi) (hd : oi.dst = s) (hs : Region.noSelect ops = true) (hf : Region.free md ops seen i = true) (hr : (Region.ready md ops seen).contains i = true)
    (hQ : ∀ c a w, Q (.panic c) (a.put s v) w → Q (.panic c) a w) (hw : C w) (hg : Region.wanted oi (yielded ops a.tmps) = true) (hy : ∀ w, C w → (execOp a.eval oi).run P w = .ok (.value v) w)
    (h : wpAnyC P md ops C Q f (seen.setIfInBounds i true) (a.put s v) w) : wpAnyC P md ops C Q (f + 1) seen a w := by
  subst hd
  exact wpAnyC_take hi hs hf hr hQ hw hg hy h
theorem qC_skip {i : Nat} {oi : Oper} {s : Option Nat} (hi : ops[i]? = some oi) (hd : oi.dst = s) (hs : Region.noSelect ops = true) (hf : Region.free md ops seen i = true) (hr : (Region.ready md ops seen).contains i = true)
    (hQ : ∀ c a w, Q (.panic c) (a.put s undef) w → Q (.panic c) a w) (hw : C w) (hg : Region.wanted oi (yielded ops a.tmps) = false)
    (h : wpAnyC P md ops C Q f (seen.setIfInBounds i true) (a.put s undef) w) : wpAnyC P md ops C Q (f + 1) seen a w := by
  subst hd
  exact wpAnyC_first hi (Region.noSelect_spec hs) hQ f seen a w hw (Region.free_spec hi hf) (by simpa using hr) (.inr ⟨hg, rfl⟩) h
theorem qX_take (hR : Grows R) {i : Nat} {oi : Oper} {v : Value} {s : Option Nat} (hz : (decide (ops.size ≤ z) || waitsT md ops 3 z i) = true) (hcl : closedB md ops seen = true) (hi : ops[i]? = some oi) (hd : oi.dst = s) (hs : Region.noSelect ops = true) (hf : Region.free md ops seen i = true) (hr : (Region.ready md ops seen).contains i = true)
    (hQ : ∀ c a w, Q (.panic c) (a.put s v) w → Q (.panic c) a w) (hg : Region.wanted oi (yielded ops a.tmps) = true) (hy : ∀ W, R w W → (execOp a.eval oi).run P W = .ok (.value v) W)
    (h : wpX P md ops R z Q f (seen.setIfInBounds i true) (a.put s v) w) : wpX P md ops R z Q (f + 1) seen a w := by
  subst hd
  exact wpX_take hR hz hcl hi hs hf hr hQ hg hy h
theorem qX_call (hR : Grows R) {i : Nat} {oi : Oper} {v : Value} {s : Option Nat} (hz : (decide (ops.size ≤ z) || waitsT md ops 3 z i) = true) (hcl : closedB md ops seen = true) (hi : ops[i]? = some oi) (hd : oi.dst = s) (hs : Region.noSelect ops = true) (hf : Region.free md ops seen i = true) (hr : (Region.ready md ops seen).contains i = true)
    (hQ : ∀ c a w, Q (.panic c) (a.put s v) w → Q (.panic c) a w) (hg : Region.wanted oi (yielded ops a.tmps) = true) (g : FuncId) (args : Array Value) (he : ∀ W, (execOp a.eval oi).run P W = .ok (.enter g args) W)
    (hy : ∀ W, R w W → Calls P g args W fun e w'' => e = .returned v ∧ R W w'')
    (h : wpX P md ops R z Q f (seen.setIfInBounds i true) (a.put s v) w) : wpX P md ops R z Q (f + 1) seen a w := by
  subst hd
  exact wpX_call hR hz hcl hi hs hf hr hQ hg g args he hy h
theorem qX_skip (hR : Grows R) {i : Nat} {oi : Oper} {s : Option Nat} (hz : (decide (ops.size ≤ z) || waitsT md ops 3 z i) = true) (hcl : closedB md ops seen = true) (hi : ops[i]? = some oi) (hd : oi.dst = s) (hs : Region.noSelect ops = true) (hf : Region.free md ops seen i = true) (hr : (Region.ready md ops seen).contains i = true)
    (hQ : ∀ c a w, Q (.panic c) (a.put s undef) w → Q (.panic c) a w) (hg : Region.wanted oi (yielded ops a.tmps) = false)
    (h : wpX P md ops R z Q f (seen.setIfInBounds i true) (a.put s undef) w) : wpX P md ops R z Q (f + 1) seen a w := by
  subst hd
  exact wpX_skip hR hz hcl hi hs hf hr hQ hg h
end
end Go.Proofs.Ytepigkjgjlibcaa
