/- Chapter 24: the model: put of an object that is right. -/
import Derived.Test.YtfgjbbpkkbohhaaGreatSgF
namespace Go.Proofs.YtfgjbbpkkbohhaaGreat
open Go.RowKit Go.Deep
theorem run_append_str1 (w : World) (ty : TypeId) (g c : Nat) (k : ByteArray) (hc : w.cell? ⟨g, 0, none⟩ = some (.string k)) :
    ∃ g' c' w', (Builtin.append_ #[31, 31] ty #[.slice none 0 0, .slice (some ⟨g, 0, none⟩) 1 c]).run Tryz.prog w = .ok (.slice (some ⟨g', 0, none⟩) 1 c') w' ∧ Ext w w' ∧ w.heap.size ≤ g' ∧ w'.cell? ⟨g', 0, none⟩ = some (.string k) := by
  obtain ⟨i0, hi0, hz0, hz1, hz2⟩ := info_parts str_info24
  have hrd : Reads w w.heap.size 1 (some ⟨g, 0, none⟩) 1 [.string k] := ⟨rfl, fun _ => ⟨_, rfl, World.block_lt_of_cell? w _ hc, fun j u hj => by
    have : j = 0 := by
      have := (List.getElem?_eq_some_iff.1 hj).1
      simp at this
      exact this
    subst this
    simp at hj
    subst hj
    simpa [Addr.add] using hc⟩⟩
  obtain ⟨v', w', h1, h2, h3, -⟩ := run_append_any (P := Tryz.prog) w w.heap.size 31 ty 9 i0 _ 1 16 Tryz.underlying31 hi0 hz0 hz1 hz2 rfl (by omega) _ 0 [] (World.ownsRow_nil _ _ _ _) _ _ 1 c _ hrd (by simp [Value.oneCell']) (by simp only [maxLen]; omega) (by omega) (by simp)
  have h3' : w.grownBy w' none := h3
  obtain ⟨g2, c2, rfl, hr, hb⟩ := own_row1 h2
  exact ⟨g2, c2, w', h1, Below.grown (Ext.refl _) h3' (Nat.le_refl _) (fun k hk => by cases hk), hb, hr.cell (j := 0) rfl⟩
section
variable {ops : Array Oper} {md : Region.Mode} {R : World → World → Prop} {z : Nat} {Q : Exit → Act → World → Prop} {f : Nat} {seen : Array Bool} {a : Act} {w : World}
theorem wpX_append_str1 (hRE : ∀ a b, Ext a b → R a b) (i : Nat) {o : Oper} (hr : Region.ready md ops seen = [i]) (hiz : decide (i = z) = false) (hi : ops[i]? = some o) (hg : Region.wanted o (yielded ops a.tmps) = true)
    (s x : Operand) (ho : o.op = .call { callee := .builtin .append, args := #[s, x], argTypes := #[31, 31] }) (hs : a.eval s = .slice none 0 0) (g c : Nat) (hx : a.eval x = .slice (some ⟨g, 0, none⟩) 1 c) (k : ByteArray)
    (h : ∀ W, R w W → W.cell? ⟨g, 0, none⟩ = some (.string k) ∧ ∀ w' g' c', Ext W w' → W.heap.size ≤ g' → w'.cell? ⟨g', 0, none⟩ = some (.string k) → wpX Tryz.prog md ops R z Q f (seen.setIfInBounds i true) (a.put o.dst (.slice (some ⟨g', 0, none⟩) 1 c')) w') :
    wpX Tryz.prog md ops R z Q (f + 1) seen a w := by
  refine wpX_one i hr hiz hi hg fun W hW K hK => ?_
  obtain ⟨hc, hk⟩ := h W hW
  obtain ⟨g', c', w', hrun, hx', hge, hc'⟩ := run_append_str1 W o.type g c k hc
  unfold Oper.wp execOp
  simp only [ho, resolve, invoke, builtin, Sem.run_bind, Sem.run_pure, Result.andThen_ok, List.map_toArray, List.map_cons, List.map_nil, hs, hx, hrun]
  exact hK _ _ (hRE _ _ hx') (hk _ _ _ hx' hge hc')
end
set_option maxRecDepth 100000 in
set_option maxHeartbeats 4000000 in
theorem mput_ok {w : World} {B q kb : Nat} {r : Option Nat} {C : Int} (hq : QAt w B q r C none) (hB : B ≤ w.heap.size) (hC : C ≤ 1099511627776) {key tag : ByteArray} {A : Option Addr} {n c : Nat} {len : Nat} {asof : Int} (h1 : 1 ≤ key.size ∧ key.size ≤ 2048) (hn : n ≤ 8192) (hl : len ≤ 65536) (ha : 0 ≤ asof ∧ asof ≤ 1099511627776) :
    Calls Tryz.prog 38 #[modV (.pointer (some ⟨q, 0, none⟩)) (.pointer (some ⟨kb, 0, none⟩)) (.pointer none) (.slice none 0 0), objV key A n c tag len asof] w fun e w' =>
      (∃ ms out, e = .returned (.tuple #[modV (.pointer (some ⟨q, 0, none⟩)) (.pointer (some ⟨kb, 0, none⟩)) (.pointer none) ms, out, .int .i64 0]) ∧ Hid ((∃ gm nm cm, ms = .slice (some ⟨gm, 0, none⟩) nm cm) ∧ ((((n + 64 : Nat) : Int) ≤ C ∧ out = .slice none 0 0) ∨ (C < ((n + 64 : Nat) : Int) ∧ ∃ g c, out = .slice (some ⟨g, 0, none⟩) 1 c ∧ w'.cell? ⟨g, 0, none⟩ = some (.string key) ∧ w.heap.size ≤ g)))) ∧ Mod (fun x => x = q ∨ r = some x) w w' := by
  have b1 := h1.1
  have b2 := h1.2
  have b3 := ha.1
  have b4 := ha.2
  have HQ := Lib.hid hq
  clear h1 ha hq
  go_enter Tryz.func38, Tryz.ntmps38
  go_upto_region 1 with fail
  obtain ⟨wa, hwa⟩ : ∃ x, x = ((w.alloc (.cells #[.pointer (some ⟨q, 0, none⟩), .pointer (some ⟨kb, 0, none⟩), .pointer none, .slice none 0 0] 65)).alloc (.cells #[.string key, .slice A n c, .string tag, .int .i64 len, .int .i64 asof] 38)).alloc (.cells #[.pointer none, .pointer none, .pointer none, .slice none 0 0] 65) := ⟨_, rfl⟩
  have HXA : Hid (Ext w wa) := Lib.hid (by rw [hwa]; exact (((Ext.refl w).alloc _).alloc _).alloc _)
  have HMA : Hid (RowB wa w.heap.size 65 [.pointer (some ⟨q, 0, none⟩), .pointer (some ⟨kb, 0, none⟩), .pointer none, .slice none 0 0]) := Lib.hid (by rw [hwa]; exact (row_laid w _ _).ext (((Ext.refl _).alloc _).alloc _))
  have HOA : Hid (RowB wa (w.heap.size + 1) 38 [.string key, .slice A n c, .string tag, .int .i64 len, .int .i64 asof]) := Lib.hid (by rw [hwa]; have := (row_laid (w.alloc (.cells #[.pointer (some ⟨q, 0, none⟩), .pointer (some ⟨kb, 0, none⟩), .pointer none, .slice none 0 0] 65)) 38 [.string key, .slice A n c, .string tag, .int .i64 len, .int .i64 asof]).ext ((Ext.refl _).alloc (.cells #[.pointer none, .pointer none, .pointer none, .slice none 0 0] 65)); simpa using this)
  have HRA : Hid (RowB wa (w.heap.size + 1 + 1) 65 [.pointer none, .pointer none, .pointer none, .slice none 0 0]) := Lib.hid (by rw [hwa]; have := row_laid ((w.alloc (.cells #[.pointer (some ⟨q, 0, none⟩), .pointer (some ⟨kb, 0, none⟩), .pointer none, .slice none 0 0] 65)).alloc (.cells #[.string key, .slice A n c, .string tag, .int .i64 len, .int .i64 asof] 38)) 65 [.pointer none, .pointer none, .pointer none, .slice none 0 0]; simpa using this)
  have HZA := Lib.hid (show wa.heap.size = w.heap.size + 3 by rw [hwa]; simp)
  rw [← hwa]
  clear hwa
  have e0 := (HOA.out).cell (j := 0) rfl
  have e1 := (HOA.out).cell (j := 1) rfl
  have e2 := (HOA.out).cell (j := 2) rfl
  have e3 := (HOA.out).cell (j := 3) rfl
  have e4 := (HOA.out).cell (j := 4) rfl
  go_upto_region 7 with fail
  clear e0 e1 e2 e3 e4
  clear b1 b2 b3 b4
  have EA := Lib.hid ((Ext.refl wa).drew)
  go_cut [7] (fun v wx => ∃ g7 d t, v = .pointer (some ⟨g7, 0, none⟩) ∧ Hid (Ext wa wx ∧ RowB wx g7 131 [.string key, .slice A n c, .string tag, .int .i64 len, .int .i64 asof, .string tag, .int .i64 len, .slice (some ⟨d, 0, none⟩) (npc len) (npc len), .slice (some ⟨t, 0, none⟩) (npc len) (npc len)] ∧ RefAt wx d t len (fun _ => none)))
  case first =>
    refine wp_region_X Ext grows_ext 8 (by kernel_rfl) ?_
    refine wpX_take (grows_ext) (i := 0) (v := .agg #[.string key, .slice A n c, .string tag, .int .i64 len, .int .i64 asof]) (by kernel_rfl) (by kernel_rfl) rfl (by kernel_rfl) (by kernel_rfl) (by kernel_rfl) (fun _ _ _ h => h) (by kernel_rfl) ?_ ?_
    · intro W hW; have hr := HOA.out.ext (EA.out.trans hW); have c0 := hr.cell (j := 0) rfl; have c1 := hr.cell (j := 1) rfl; have c2 := hr.cell (j := 2) rfl; have c3 := hr.cell (j := 3) rfl; have c4 := hr.cell (j := 4) rfl; go_simp; try (with_reducible rfl)
    change wpX _ _ _ _ _ _ _ _ (Act.put _ (some 53) (.agg #[.string key, .slice A n c, .string tag, .int .i64 len, .int .i64 asof])) _
    try simp only [Act.put, List.setIfInBounds_toArray, List.set_cons_succ, List.set_cons_zero]
    refine wpX_take (grows_ext) (i := 1) (v := .pointer (some ⟨w.heap.size + 1, 2, none⟩)) (by kernel_rfl) (by kernel_rfl) rfl (by kernel_rfl) (by kernel_rfl) (by kernel_rfl) (fun _ _ _ h => h) (by kernel_rfl) ?_ ?_
    · intro W hW; go_simp; try (with_reducible rfl)
    change wpX _ _ _ _ _ _ _ _ (Act.put _ (some 54) (.pointer (some ⟨w.heap.size + 1, 2, none⟩))) _
    try simp only [Act.put, List.setIfInBounds_toArray, List.set_cons_succ, List.set_cons_zero]
    refine wpX_take (grows_ext) (i := 2) (v := .string tag) (by kernel_rfl) (by kernel_rfl) rfl (by kernel_rfl) (by kernel_rfl) (by kernel_rfl) (fun _ _ _ h => h) (by kernel_rfl) ?_ ?_
    · intro W hW; have c2 := (HOA.out.ext (EA.out.trans hW)).cell (j := 2) rfl; go_simp; try (with_reducible rfl)
    change wpX _ _ _ _ _ _ _ _ (Act.put _ (some 55) (.string tag)) _
    try simp only [Act.put, List.setIfInBounds_toArray, List.set_cons_succ, List.set_cons_zero]
    refine wpX_take (grows_ext) (i := 3) (v := .pointer (some ⟨w.heap.size + 1, 3, none⟩)) (by kernel_rfl) (by kernel_rfl) rfl (by kernel_rfl) (by kernel_rfl) (by kernel_rfl) (fun _ _ _ h => h) (by kernel_rfl) ?_ ?_
    · intro W hW; go_simp; try (with_reducible rfl)
    change wpX _ _ _ _ _ _ _ _ (Act.put _ (some 56) (.pointer (some ⟨w.heap.size + 1, 3, none⟩))) _
    try simp only [Act.put, List.setIfInBounds_toArray, List.set_cons_succ, List.set_cons_zero]
    refine wpX_take (grows_ext) (i := 4) (v := .int .i64 len) (by kernel_rfl) (by kernel_rfl) rfl (by kernel_rfl) (by kernel_rfl) (by kernel_rfl) (fun _ _ _ h => h) (by kernel_rfl) ?_ ?_
    · intro W hW; have c3 := (HOA.out.ext (EA.out.trans hW)).cell (j := 3) rfl; go_simp; try (with_reducible rfl)
    change wpX _ _ _ _ _ _ _ _ (Act.put _ (some 57) (.int .i64 len)) _
    try simp only [Act.put, List.setIfInBounds_toArray, List.set_cons_succ, List.set_cons_zero]
    refine wpX_two 5 7 (by kernel_rfl) (by kernel_rfl) (by kernel_rfl) rfl rfl (by kernel_rfl) (by kernel_rfl) (fun W hW KK hKK => ?_) (fun W hW KK hKK => ?_)
    · go_simp
      refine (rnew_any tag len hl W).mono ?_
      rintro e w5 ⟨d, t, rfl, hx5, -, hr5⟩
      have HR5 := Lib.hid hr5
      have X5 := Lib.hid (EA.out.trans (hW.trans hx5))
      refine hKK _ _ hx5 ?_
      clear hKK KK hx5 hr5 hW
      try simp only [Act.put, List.setIfInBounds_toArray, List.set_cons_succ, List.set_cons_zero]
      refine wpX_take (grows_ext) (i := 6) (v := .agg #[.string key, .slice A n c, .string tag, .int .i64 len, .int .i64 asof, .string tag, .int .i64 len, .slice (some ⟨d, 0, none⟩) (npc len) (npc len), .slice (some ⟨t, 0, none⟩) (npc len) (npc len)]) (by kernel_rfl) (by kernel_rfl) rfl (by kernel_rfl) (by kernel_rfl) (by kernel_rfl) (fun _ _ _ h => h) (by kernel_rfl) ?_ ?_
      · intro W hW; go_simp; try (with_reducible rfl)
      change wpX _ _ _ _ _ _ _ _ (Act.put _ (some 59) (.agg #[.string key, .slice A n c, .string tag, .int .i64 len, .int .i64 asof, .string tag, .int .i64 len, .slice (some ⟨d, 0, none⟩) (npc len) (npc len), .slice (some ⟨t, 0, none⟩) (npc len) (npc len)])) _
      try simp only [Act.put, List.setIfInBounds_toArray, List.set_cons_succ, List.set_cons_zero]
      refine wpX_one 7 (by kernel_rfl) (by kernel_rfl) rfl (by kernel_rfl) (fun W hW KK hKK => ?_)
      go_simp
      have HZ7 := Lib.hid (row_laid W 131 ([.string ⟨#[]⟩, .slice none 0 0, .string ⟨#[]⟩, .int .i64 0, .int .i64 0, .string ⟨#[]⟩, .int .i64 0, .slice none 0 0, .slice none 0 0]))
      have X7 := Lib.hid (X5.out.trans (hW.trans ((Ext.refl W).alloc (.cells #[.string ⟨#[]⟩, .slice none 0 0, .string ⟨#[]⟩, .int .i64 0, .int .i64 0, .string ⟨#[]⟩, .int .i64 0, .slice none 0 0, .slice none 0 0] 131))))
      have HR7 := Lib.hid (HR5.out.ext (hW.trans ((Ext.refl W).alloc (.cells #[.string ⟨#[]⟩, .slice none 0 0, .string ⟨#[]⟩, .int .i64 0, .int .i64 0, .string ⟨#[]⟩, .int .i64 0, .slice none 0 0, .slice none 0 0] 131))))
      obtain ⟨g7, hg7⟩ : ∃ g, W.heap.size = g := ⟨_, rfl⟩
      have HG7 := Lib.hid (show wa.heap.size ≤ g7 by rw [← hg7]; exact (X5.out.trans hW).size)
      have HDT := Lib.hid (show d ≠ g7 ∧ t ≠ g7 by have h1 := (HR5.out.ext hW).data.lt; have h2 := (HR5.out.ext hW).there.lt; omega)
      refine hKK _ _ ((Ext.refl W).alloc _) ?_
      rw [hg7] at HZ7
      rw [hg7]
      clear hKK KK hW hg7
      try simp only [Act.put, List.setIfInBounds_toArray, List.set_cons_succ, List.set_cons_zero]
      refine wpX_out 8 (by kernel_rfl) (by kernel_rfl) rfl (by kernel_rfl) (fun W hW KK hKK => ?_)
      have HZ8 := Lib.hid (HZ7.out.ext hW)
      have c0 := (HZ8.out).cell (j := 0) rfl
      have c1 := (HZ8.out).cell (j := 1) rfl
      have c2 := (HZ8.out).cell (j := 2) rfl
      have c3 := (HZ8.out).cell (j := 3) rfl
      have c4 := (HZ8.out).cell (j := 4) rfl
      have c5 := (HZ8.out).cell (j := 5) rfl
      have c6 := (HZ8.out).cell (j := 6) rfl
      have c7 := (HZ8.out).cell (j := 7) rfl
      have c8 := (HZ8.out).cell (j := 8) rfl
      have z0 := (HZ8.out).frozen (j := 0) (by simp)
      have z1 := (HZ8.out).frozen (j := 1) (by simp)
      have z2 := (HZ8.out).frozen (j := 2) (by simp)
      have z3 := (HZ8.out).frozen (j := 3) (by simp)
      have z4 := (HZ8.out).frozen (j := 4) (by simp)
      have z5 := (HZ8.out).frozen (j := 5) (by simp)
      have z6 := (HZ8.out).frozen (j := 6) (by simp)
      have z7 := (HZ8.out).frozen (j := 7) (by simp)
      have z8 := (HZ8.out).frozen (j := 8) (by simp)
      go_simp
      refine hKK _ _ ?_
      obtain ⟨hr9, hm9⟩ := row_set9 HZ8.out (.string key) (.slice A n c) (.string tag) (.int .i64 len) (.int .i64 asof) (.string tag) (.int .i64 len) (.slice (some ⟨d, 0, none⟩) (npc len) (npc len)) (.slice (some ⟨t, 0, none⟩) (npc len) (npc len))
      have HX9 := Lib.hid (((Mod.of_ext _ (X7.out.trans hW)).then hm9 (fun i hi => .inr (by have := HG7.out; omega))).ext (F := fun _ => False) (fun _ h => h.elim))
      have HF9 := Lib.hid (show RefAt _ d t len (fun _ => none) from ⟨(HR7.out.ext hW).data.of_block (hm9.block d (HR7.out.ext hW).data.lt HDT.out.1), (HR7.out.ext hW).there.of_block (hm9.block t (HR7.out.ext hW).there.lt HDT.out.2)⟩)
      have HRR := Lib.hid hr9
      clear hKK KK
      try simp only [Act.put, List.setIfInBounds_toArray, List.set_cons_succ, List.set_cons_zero]
      refine ⟨by kernel_rfl, ?_⟩
      go_wp2_with fail
      go_meet
      exact ⟨g7, d, t, rfl, Lib.hid ⟨HX9.out, HRR.out, HF9.out⟩⟩
    · go_simp
      have HZ6 := Lib.hid (row_laid W 131 ([.string ⟨#[]⟩, .slice none 0 0, .string ⟨#[]⟩, .int .i64 0, .int .i64 0, .string ⟨#[]⟩, .int .i64 0, .slice none 0 0, .slice none 0 0]))
      have X6 := Lib.hid (EA.out.trans (hW.trans ((Ext.refl W).alloc (.cells #[.string ⟨#[]⟩, .slice none 0 0, .string ⟨#[]⟩, .int .i64 0, .int .i64 0, .string ⟨#[]⟩, .int .i64 0, .slice none 0 0, .slice none 0 0] 131))))
      obtain ⟨g7, hg7⟩ : ∃ g, W.heap.size = g := ⟨_, rfl⟩
      have HG7 := Lib.hid (show wa.heap.size ≤ g7 by rw [← hg7]; exact (EA.out.trans hW).size)
      refine hKK _ _ ((Ext.refl W).alloc _) ?_
      rw [hg7] at HZ6
      rw [hg7]
      obtain ⟨wz, hwz⟩ : ∃ x, x = W.alloc (.cells #[.string ⟨#[]⟩, .slice none 0 0, .string ⟨#[]⟩, .int .i64 0, .int .i64 0, .string ⟨#[]⟩, .int .i64 0, .slice none 0 0, .slice none 0 0] 131) := ⟨_, rfl⟩
      rw [← hwz] at HZ6 X6
      rw [← hwz]
      clear hKK KK hW hg7 hwz
      try simp only [Act.put, List.setIfInBounds_toArray, List.set_cons_succ, List.set_cons_zero]
      refine wpX_one 5 (by kernel_rfl) (by kernel_rfl) rfl (by kernel_rfl) (fun W hW KK hKK => ?_)
      go_simp
      refine (rnew_any tag len hl W).mono ?_
      rintro e w5 ⟨d, t, rfl, hx5, hdt, hr5⟩
      have HR7 := Lib.hid hr5
      have X7 := Lib.hid (X6.out.trans (hW.trans hx5))
      have HZ7 := Lib.hid (HZ6.out.ext (hW.trans hx5))
      have HDT := Lib.hid (show d ≠ g7 ∧ t ≠ g7 by have h1 := (HZ6.out.ext hW).lt; omega)
      refine hKK _ _ hx5 ?_
      clear hKK KK hx5 hr5 hW hdt
      try simp only [Act.put, List.setIfInBounds_toArray, List.set_cons_succ, List.set_cons_zero]
      refine wpX_take (grows_ext) (i := 6) (v := .agg #[.string key, .slice A n c, .string tag, .int .i64 len, .int .i64 asof, .string tag, .int .i64 len, .slice (some ⟨d, 0, none⟩) (npc len) (npc len), .slice (some ⟨t, 0, none⟩) (npc len) (npc len)]) (by kernel_rfl) (by kernel_rfl) rfl (by kernel_rfl) (by kernel_rfl) (by kernel_rfl) (fun _ _ _ h => h) (by kernel_rfl) ?_ ?_
      · intro W hW; go_simp; try (with_reducible rfl)
      change wpX _ _ _ _ _ _ _ _ (Act.put _ (some 59) (.agg #[.string key, .slice A n c, .string tag, .int .i64 len, .int .i64 asof, .string tag, .int .i64 len, .slice (some ⟨d, 0, none⟩) (npc len) (npc len), .slice (some ⟨t, 0, none⟩) (npc len) (npc len)])) _
      try simp only [Act.put, List.setIfInBounds_toArray, List.set_cons_succ, List.set_cons_zero]
      refine wpX_out 8 (by kernel_rfl) (by kernel_rfl) rfl (by kernel_rfl) (fun W hW KK hKK => ?_)
      have HZ8 := Lib.hid (HZ7.out.ext hW)
      have c0 := (HZ8.out).cell (j := 0) rfl
      have c1 := (HZ8.out).cell (j := 1) rfl
      have c2 := (HZ8.out).cell (j := 2) rfl
      have c3 := (HZ8.out).cell (j := 3) rfl
      have c4 := (HZ8.out).cell (j := 4) rfl
      have c5 := (HZ8.out).cell (j := 5) rfl
      have c6 := (HZ8.out).cell (j := 6) rfl
      have c7 := (HZ8.out).cell (j := 7) rfl
      have c8 := (HZ8.out).cell (j := 8) rfl
      have z0 := (HZ8.out).frozen (j := 0) (by simp)
      have z1 := (HZ8.out).frozen (j := 1) (by simp)
      have z2 := (HZ8.out).frozen (j := 2) (by simp)
      have z3 := (HZ8.out).frozen (j := 3) (by simp)
      have z4 := (HZ8.out).frozen (j := 4) (by simp)
      have z5 := (HZ8.out).frozen (j := 5) (by simp)
      have z6 := (HZ8.out).frozen (j := 6) (by simp)
      have z7 := (HZ8.out).frozen (j := 7) (by simp)
      have z8 := (HZ8.out).frozen (j := 8) (by simp)
      go_simp
      refine hKK _ _ ?_
      obtain ⟨hr9, hm9⟩ := row_set9 HZ8.out (.string key) (.slice A n c) (.string tag) (.int .i64 len) (.int .i64 asof) (.string tag) (.int .i64 len) (.slice (some ⟨d, 0, none⟩) (npc len) (npc len)) (.slice (some ⟨t, 0, none⟩) (npc len) (npc len))
      have HX9 := Lib.hid (((Mod.of_ext _ (X7.out.trans hW)).then hm9 (fun i hi => .inr (by have := HG7.out; omega))).ext (F := fun _ => False) (fun _ h => h.elim))
      have HF9 := Lib.hid (show RefAt _ d t len (fun _ => none) from ⟨(HR7.out.ext hW).data.of_block (hm9.block d (HR7.out.ext hW).data.lt HDT.out.1), (HR7.out.ext hW).there.of_block (hm9.block t (HR7.out.ext hW).there.lt HDT.out.2)⟩)
      have HRR := Lib.hid hr9
      clear hKK KK
      try simp only [Act.put, List.setIfInBounds_toArray, List.set_cons_succ, List.set_cons_zero]
      refine ⟨by kernel_rfl, ?_⟩
      go_wp2_with fail
      go_meet
      exact ⟨g7, d, t, rfl, Lib.hid ⟨HX9.out, HRR.out, HF9.out⟩⟩
  case rest =>
  obtain ⟨g7, d, t, rfl, hc7⟩ := hcut
  have HX7 := Lib.hid hc7.out.1
  have HE7 := Lib.hid hc7.out.2.1
  have HF7 := Lib.hid hc7.out.2.2
  clear hc7
  have HMF := Lib.hid (fun W => mflash_nil (.pointer (some ⟨q, 0, none⟩)) (.pointer (some ⟨kb, 0, none⟩)) (.slice none 0 0) key W)
  have HFN := Lib.hid (fun W => find_none (.pointer (some ⟨q, 0, none⟩)) (.pointer (some ⟨kb, 0, none⟩)) (.pointer none) key W)
  have HM7 := Lib.hid (HMA.out.ext HX7.out)
  have HO7 := Lib.hid (HOA.out.ext HX7.out)
  have c0 := (HM7.out).cell (j := 0) rfl
  have c1 := (HM7.out).cell (j := 1) rfl
  have c2 := (HM7.out).cell (j := 2) rfl
  have c3 := (HM7.out).cell (j := 3) rfl
  have e0 := HO7.out.cell (j := 0) rfl
  go_upto_region 10 with (go_at_call 67; refine (HMF.out _).mono ?_; rintro e w9 ⟨rfl, hx9⟩)
  clear c0 c1 c2 c3
  clear e0
  obtain ⟨w10, hw10⟩ : ∃ x, x = w9.alloc (.cells #[.string ⟨#[]⟩, .slice none 0 0, .string ⟨#[]⟩, .int .i64 0, .int .i64 0, .string ⟨#[]⟩, .int .i64 0, .slice none 0 0, .slice none 0 0] 131) := ⟨_, rfl⟩
  rw [← hw10]
  have X10 : Ext wc w10 := by rw [hw10]; exact hx9.alloc _
  have HM10 := Lib.hid (HM7.out.ext X10)
  have HO10 := Lib.hid (HO7.out.ext X10)
  have HX10 := Lib.hid (HX7.out.trans X10)
  have HE10 := Lib.hid (HE7.out.ext X10)
  have HF10 := Lib.hid (HF7.out.ext X10)
  clear hw10 X10 hx9
  have c0 := (HM10.out).cell (j := 0) rfl
  have c1 := (HM10.out).cell (j := 1) rfl
  have c2 := (HM10.out).cell (j := 2) rfl
  have c3 := (HM10.out).cell (j := 3) rfl
  have e0 := HO10.out.cell (j := 0) rfl
  go_upto_region 17 with (go_at_call 65; refine (HFN.out _).mono ?_; rintro e w11 ⟨rfl, hx11⟩)
  clear c0 c1 c2 c3
  clear e0
  have HM11 := Lib.hid (HM10.out.ext hx11)
  have HO11 := Lib.hid (HO10.out.ext hx11)
  have HX11 := Lib.hid (HX10.out.trans hx11)
  have HE11 := Lib.hid (HE10.out.ext hx11)
  have HF11 := Lib.hid (HF10.out.ext hx11)
  clear hx11
  have c0 := (HM11.out).cell (j := 0) rfl
  have c1 := (HM11.out).cell (j := 1) rfl
  have c2 := (HM11.out).cell (j := 2) rfl
  have c3 := (HM11.out).cell (j := 3) rfl
  have e0 := HO11.out.cell (j := 0) rfl
  go_upto_region 18 with (go_at_call 67; refine (HMF.out _).mono ?_; rintro e w12 ⟨rfl, hx12⟩)
  clear c0 c1 c2 c3
  clear e0
  obtain ⟨w13, hw13⟩ : ∃ x, x = w12.alloc (.cells #[.string ⟨#[]⟩, .slice none 0 0, .string ⟨#[]⟩, .int .i64 0, .int .i64 0, .string ⟨#[]⟩, .int .i64 0, .slice none 0 0, .slice none 0 0] 131) := ⟨_, rfl⟩
  rw [← hw13]
  have X13 : Ext w11 w13 := by rw [hw13]; exact hx12.alloc _
  have HM13 := Lib.hid (HM11.out.ext X13)
  have HX13 := Lib.hid (HX11.out.trans X13)
  have HE13 := Lib.hid (HE11.out.ext X13)
  have HF13 := Lib.hid (HF11.out.ext X13)
  clear hw13 X13 hx12
  have XW13 := Lib.hid (HXA.out.trans HX13.out)
  have HST := Lib.hid (stored_none (kv := .pointer (some ⟨kb, 0, none⟩)) (HQ.out.ext XW13.out) (Nat.le_trans hB XW13.out.size) hC ⟨kb, rfl⟩ (key := key) (tag := tag) (A := A) (n := n) (c := c) (asof := asof) HF13.out hn hl)
  have c0 := (HM13.out).cell (j := 0) rfl
  have c1 := (HM13.out).cell (j := 1) rfl
  have c2 := (HM13.out).cell (j := 2) rfl
  have c3 := (HM13.out).cell (j := 3) rfl
  have e0 := (HE13.out).cell (j := 0) rfl
  have e1 := (HE13.out).cell (j := 1) rfl
  have e2 := (HE13.out).cell (j := 2) rfl
  have e3 := (HE13.out).cell (j := 3) rfl
  have e4 := (HE13.out).cell (j := 4) rfl
  have e5 := (HE13.out).cell (j := 5) rfl
  have e6 := (HE13.out).cell (j := 6) rfl
  have e7 := (HE13.out).cell (j := 7) rfl
  have e8 := (HE13.out).cell (j := 8) rfl
  have z0 := (HM13.out).frozen (j := 0) (by simp)
  have z1 := (HM13.out).frozen (j := 1) (by simp)
  have z2 := (HM13.out).frozen (j := 2) (by simp)
  have z3 := (HM13.out).frozen (j := 3) (by simp)
  go_upto_region 21 with (go_at_call 77; refine HST.out.mono ?_; rintro e w14 ⟨gm, nm, cm, out, rfl, hm14, hq14⟩; have hqm := (HQ.out.ext XW13.out).apart_row HM13.out (by decide) (by decide); have hrow := hm14.rowB HM13.out (fun h => h.elim hqm.1 (fun h2 => hqm.2 _ h2 rfl)); have c0 := hrow.cell (j := 0) rfl; have c1 := hrow.cell (j := 1) rfl; have c2 := hrow.cell (j := 2) rfl; have c3 := hrow.cell (j := 3) rfl; have z0 := hrow.frozen (j := 0) (by simp); have z1 := hrow.frozen (j := 1) (by simp); have z2 := hrow.frozen (j := 2) (by simp); have z3 := hrow.frozen (j := 3) (by simp))
  obtain ⟨hr15, hm15⟩ := row_set4 hrow (.pointer (some ⟨q, 0, none⟩)) (.pointer (some ⟨kb, 0, none⟩)) (.pointer none) (.slice (some ⟨gm, 0, none⟩) nm cm)
  have HM15 : Hid (RowB _ w.heap.size 65 [.pointer (some ⟨q, 0, none⟩), .pointer (some ⟨kb, 0, none⟩), .pointer none, .slice (some ⟨gm, 0, none⟩) nm cm]) := Lib.hid hr15
  have hqr := (HQ.out.ext XW13.out).apart_row (HRA.out.ext HX13.out) (by decide) (by decide)
  have HR15 := Lib.hid (hm15.rowB (hm14.rowB (HRA.out.ext HX13.out) (fun h => h.elim hqr.1 (fun h2 => hqr.2 _ h2 rfl))) (by omega))
  have HMD15 := Lib.hid (((Mod.of_ext (fun x => x = q ∨ r = some x) XW13.out).trans hm14).then hm15 (fun i hi => .inr (by omega)))
  have HS13 := Lib.hid (show w.heap.size + 2 < w13.heap.size by have h1 := HX13.out.size; have h2 := HZA.out; omega)
  have HQ15 : Hid ((((n + 64 : Nat) : Int) ≤ C ∧ out = .slice none 0 0) ∨ (C < ((n + 64 : Nat) : Int) ∧ ∃ g c, out = .slice (some ⟨g, 0, none⟩) 1 c ∧ ((((w14.setCell ⟨w.heap.size, 0, none⟩ (.pointer (some ⟨q, 0, none⟩))).setCell ⟨w.heap.size, 1, none⟩ (.pointer (some ⟨kb, 0, none⟩))).setCell ⟨w.heap.size, 2, none⟩ (.pointer none)).setCell ⟨w.heap.size, 3, none⟩ (.slice (some ⟨gm, 0, none⟩) nm cm)).cell? ⟨g, 0, none⟩ = some (.string key) ∧ w.heap.size + 2 < g)) := Lib.hid (by
    rcases hq14.out with h | ⟨h1, g, c, h2, h3, h4⟩
    · exact .inl h
    · have := HS13.out
      exact .inr ⟨h1, g, c, h2, hm15.cell h3 (by show ¬ g = w.heap.size; omega), by omega⟩)
  clear z0 z1 z2 z3
  clear c0 c1 c2 c3
  clear e0 e1 e2 e3 e4 e5 e6 e7 e8
  clear hr15 hm15 hqr hm14 hq14 hqm hrow HST
  generalize ((((w14.setCell ⟨w.heap.size, 0, none⟩ (.pointer (some ⟨q, 0, none⟩))).setCell ⟨w.heap.size, 1, none⟩ (.pointer (some ⟨kb, 0, none⟩))).setCell ⟨w.heap.size, 2, none⟩ (.pointer none)).setCell ⟨w.heap.size, 3, none⟩ (.slice (some ⟨gm, 0, none⟩) nm cm)) = w15 at *
  have E15 := Lib.hid ((Ext.refl w15).drew)
  refine wp_region_X Ext grows_ext 4 (by kernel_rfl) ?_
  refine wpX_take (grows_ext) (i := 0) (v := .agg #[.pointer (some ⟨q, 0, none⟩), .pointer (some ⟨kb, 0, none⟩), .pointer none, .slice (some ⟨gm, 0, none⟩) nm cm]) (by kernel_rfl) (by kernel_rfl) rfl (by kernel_rfl) (by kernel_rfl) (by kernel_rfl) (fun _ _ _ h => h) (by kernel_rfl) ?_ ?_
  · intro W hW; have hr := HM15.out.ext (E15.out.trans hW); have c0 := hr.cell (j := 0) rfl; have c1 := hr.cell (j := 1) rfl; have c2 := hr.cell (j := 2) rfl; have c3 := hr.cell (j := 3) rfl; go_simp; try (with_reducible rfl)
  change wpX _ _ _ _ _ _ _ _ (Act.put _ (some 151) (.agg #[.pointer (some ⟨q, 0, none⟩), .pointer (some ⟨kb, 0, none⟩), .pointer none, .slice (some ⟨gm, 0, none⟩) nm cm])) _
  try simp only [Act.put, List.setIfInBounds_toArray, List.set_cons_succ, List.set_cons_zero]
  refine wpX_take (grows_ext) (i := 1) (v := .slice none 0 0) (by kernel_rfl) (by kernel_rfl) rfl (by kernel_rfl) (by kernel_rfl) (by kernel_rfl) (fun _ _ _ h => h) (by kernel_rfl) ?_ ?_
  · intro W hW; go_simp; try (with_reducible rfl)
  change wpX _ _ _ _ _ _ _ _ (Act.put _ (some 152) (.slice none 0 0)) _
  try simp only [Act.put, List.setIfInBounds_toArray, List.set_cons_succ, List.set_cons_zero]
  refine wpX_take (grows_ext) (i := 2) (v := out) (by kernel_rfl) (by kernel_rfl) rfl (by kernel_rfl) (by kernel_rfl) (by kernel_rfl) (fun _ _ _ h => h) (by kernel_rfl) ?_ ?_
  · intro W hW; go_simp; try (with_reducible rfl)
  change wpX _ _ _ _ _ _ _ _ (Act.put _ (some 153) (out)) _
  try simp only [Act.put, List.setIfInBounds_toArray, List.set_cons_succ, List.set_cons_zero]
  rcases HQ15.out with ⟨hq1, rfl⟩ | ⟨hq1, go, co, rfl, hq2, hq3⟩
  · have hap := happ_nil
    have HQ1 := Lib.hid hq1
    clear hq1
    refine wpX_take (grows_ext) (i := 3) (v := .slice none 0 0) (by kernel_rfl) (by kernel_rfl) rfl (by kernel_rfl) (by kernel_rfl) (by kernel_rfl) (fun _ _ _ h => h) (by kernel_rfl) ?_ ?_
    · intro W hW; go_simp; try (with_reducible rfl)
    change wpX _ _ _ _ _ _ _ _ (Act.put _ (some 154) (.slice none 0 0)) _
    try simp only [Act.put, List.setIfInBounds_toArray, List.set_cons_succ, List.set_cons_zero]
    have X16 := E15
    refine wpX_out 4 (by kernel_rfl) (by kernel_rfl) rfl (by kernel_rfl) (fun W2 hW2 KK hKK => ?_)
    have HR16 := Lib.hid (HR15.out.ext (X16.out.trans hW2))
    have y0 := (HR16.out).cell (j := 0) rfl
    have y1 := (HR16.out).cell (j := 1) rfl
    have y2 := (HR16.out).cell (j := 2) rfl
    have y3 := (HR16.out).cell (j := 3) rfl
    have z0 := (HR16.out).frozen (j := 0) (by simp)
    have z1 := (HR16.out).frozen (j := 1) (by simp)
    have z2 := (HR16.out).frozen (j := 2) (by simp)
    have z3 := (HR16.out).frozen (j := 3) (by simp)
    go_simp
    refine hKK _ _ ?_
    obtain ⟨hr9, hm9⟩ := row_set4 HR16.out (.pointer (some ⟨q, 0, none⟩)) (.pointer (some ⟨kb, 0, none⟩)) (.pointer none) (.slice (some ⟨gm, 0, none⟩) nm cm)
    have HMD := Lib.hid ((HMD15.out.trans (Mod.of_ext _ (X16.out.trans hW2))).then hm9 (fun i hi => .inr (by omega)))
    have r0 := (hr9).cell (j := 0) rfl
    have r1 := (hr9).cell (j := 1) rfl
    have r2 := (hr9).cell (j := 2) rfl
    have r3 := (hr9).cell (j := 3) rfl
    clear hKK KK hr9 hm9
    try simp only [Act.put, List.setIfInBounds_toArray, List.set_cons_succ, List.set_cons_zero]
    clear y0 y1 y2 y3
    clear z0 z1 z2 z3
    generalize ((((W2.setCell ⟨w.heap.size + 1 + 1, 0, none⟩ (.pointer (some ⟨q, 0, none⟩))).setCell ⟨w.heap.size + 1 + 1, 1, none⟩ (.pointer (some ⟨kb, 0, none⟩))).setCell ⟨w.heap.size + 1 + 1, 2, none⟩ (.pointer none)).setCell ⟨w.heap.size + 1 + 1, 3, none⟩ (.slice (some ⟨gm, 0, none⟩) nm cm)) = w7 at *
    refine wpAnyC_take (i := 5) (v := .slice none 0 0) rfl (by kernel_rfl) (by kernel_rfl) (by kernel_rfl) (fun _ _ _ h => h) trivial (by kernel_rfl) ?_ ?_
    · intro W hW; go_simp; try (with_reducible rfl)
    change wpAnyC _ _ _ _ _ _ _ (Act.put _ (some 5) (.slice none 0 0)) _
    try simp only [Act.put, List.setIfInBounds_toArray, List.set_cons_succ, List.set_cons_zero]
    refine wpAnyC_take (i := 6) (v := .int .i64 0) rfl (by kernel_rfl) (by kernel_rfl) (by kernel_rfl) (fun _ _ _ h => h) trivial (by kernel_rfl) ?_ ?_
    · intro W hW; go_simp; try (with_reducible rfl)
    change wpAnyC _ _ _ _ _ _ _ (Act.put _ (some 6) (.int .i64 0)) _
    try simp only [Act.put, List.setIfInBounds_toArray, List.set_cons_succ, List.set_cons_zero]
    refine ⟨by kernel_rfl, ?_⟩
    go_wp2_with fail
    refine bodyPost_ret (by simp [results, Tryz.results38, go_sem, r0, r1, r2, r3]; try rfl) rfl ?_
    exact ⟨⟨_, _, rfl, Lib.hid ⟨⟨_, _, _, rfl⟩, .inl ⟨HQ1.out, rfl⟩⟩⟩, HMD.out⟩
  · refine wpX_append_str1 (fun _ _ h => h) 3 (by kernel_rfl) (by kernel_rfl) rfl (by kernel_rfl) (.tmp 152) (.tmp 153) rfl rfl go co rfl key (fun W hW => ⟨(E15.out.trans hW).cell hq2, fun w16 g6 c6 hx16 hg6 hc6 => ?_⟩)
    change wpX _ _ _ _ _ _ _ _ (Act.put _ (some 154) (.slice (some ⟨g6, 0, none⟩) 1 c6)) _
    have X16 := Lib.hid (E15.out.trans (hW.trans hx16))
    have HC6 := Lib.hid hc6
    have HQ1 := Lib.hid hq1
    have HG6 := Lib.hid (show w.heap.size + 2 < g6 by have h1 := (E15.out.trans hW).size; have h2 := HR15.out.lt; omega)
    clear hx16 hg6 hc6 hW hq1 hq2 hq3
    try simp only [Act.put, List.setIfInBounds_toArray, List.set_cons_succ, List.set_cons_zero]
    refine wpX_out 4 (by kernel_rfl) (by kernel_rfl) rfl (by kernel_rfl) (fun W2 hW2 KK hKK => ?_)
    have HR16 := Lib.hid (HR15.out.ext (X16.out.trans hW2))
    have y0 := (HR16.out).cell (j := 0) rfl
    have y1 := (HR16.out).cell (j := 1) rfl
    have y2 := (HR16.out).cell (j := 2) rfl
    have y3 := (HR16.out).cell (j := 3) rfl
    have z0 := (HR16.out).frozen (j := 0) (by simp)
    have z1 := (HR16.out).frozen (j := 1) (by simp)
    have z2 := (HR16.out).frozen (j := 2) (by simp)
    have z3 := (HR16.out).frozen (j := 3) (by simp)
    go_simp
    refine hKK _ _ ?_
    obtain ⟨hr9, hm9⟩ := row_set4 HR16.out (.pointer (some ⟨q, 0, none⟩)) (.pointer (some ⟨kb, 0, none⟩)) (.pointer none) (.slice (some ⟨gm, 0, none⟩) nm cm)
    have HMD := Lib.hid ((HMD15.out.trans (Mod.of_ext _ (X16.out.trans hW2))).then hm9 (fun i hi => .inr (by omega)))
    have HC7 := Lib.hid (hm9.cell (hW2.cell HC6.out) (by have := HG6.out; show ¬ g6 = w.heap.size + 1 + 1; omega))
    have r0 := (hr9).cell (j := 0) rfl
    have r1 := (hr9).cell (j := 1) rfl
    have r2 := (hr9).cell (j := 2) rfl
    have r3 := (hr9).cell (j := 3) rfl
    clear hKK KK hr9 hm9
    try simp only [Act.put, List.setIfInBounds_toArray, List.set_cons_succ, List.set_cons_zero]
    clear y0 y1 y2 y3
    clear z0 z1 z2 z3
    generalize ((((W2.setCell ⟨w.heap.size + 1 + 1, 0, none⟩ (.pointer (some ⟨q, 0, none⟩))).setCell ⟨w.heap.size + 1 + 1, 1, none⟩ (.pointer (some ⟨kb, 0, none⟩))).setCell ⟨w.heap.size + 1 + 1, 2, none⟩ (.pointer none)).setCell ⟨w.heap.size + 1 + 1, 3, none⟩ (.slice (some ⟨gm, 0, none⟩) nm cm)) = w7 at *
    refine wpAnyC_take (i := 5) (v := .slice (some ⟨g6, 0, none⟩) 1 c6) rfl (by kernel_rfl) (by kernel_rfl) (by kernel_rfl) (fun _ _ _ h => h) trivial (by kernel_rfl) ?_ ?_
    · intro W hW; go_simp; try (with_reducible rfl)
    change wpAnyC _ _ _ _ _ _ _ (Act.put _ (some 5) (.slice (some ⟨g6, 0, none⟩) 1 c6)) _
    try simp only [Act.put, List.setIfInBounds_toArray, List.set_cons_succ, List.set_cons_zero]
    refine wpAnyC_take (i := 6) (v := .int .i64 0) rfl (by kernel_rfl) (by kernel_rfl) (by kernel_rfl) (fun _ _ _ h => h) trivial (by kernel_rfl) ?_ ?_
    · intro W hW; go_simp; try (with_reducible rfl)
    change wpAnyC _ _ _ _ _ _ _ (Act.put _ (some 6) (.int .i64 0)) _
    try simp only [Act.put, List.setIfInBounds_toArray, List.set_cons_succ, List.set_cons_zero]
    refine ⟨by kernel_rfl, ?_⟩
    go_wp2_with fail
    refine bodyPost_ret (by simp [results, Tryz.results38, go_sem, r0, r1, r2, r3]; try rfl) rfl ?_
    exact ⟨⟨_, _, rfl, Lib.hid ⟨⟨_, _, _, rfl⟩, .inr ⟨HQ1.out, g6, c6, rfl, HC7.out, by have := HG6.out; omega⟩⟩⟩, HMD.out⟩
end Go.Proofs.YtfgjbbpkkbohhaaGreat
