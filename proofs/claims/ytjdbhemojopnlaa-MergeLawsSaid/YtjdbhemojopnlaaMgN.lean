/- Chapter 52: filled. -/
import Derived.Test.YtjdbhemojopnlaaMgM
namespace Go.Proofs.Ytjdbhemojopnlaa
open Go.RowKit Go.Maps
attribute [local go_sem 2000] equal_ent
theorem EnsAt.kept {w w' : World} {v : Value} {es L : List Ent} {b : Nat} (h : EnsAt w v es) (hb : w.heap[b]? = some (mpO L)) (hg : w.grownBy w' (some b)) : EnsAt w' v es := by
  rcases h with h | ⟨g, off, cap, hv, hc⟩
  · exact .inl h
  · refine .inr ⟨g, off, cap, hv, fun i e he j u hj => ?_⟩
    have h1 := hc i e he j u hj
    have hlt := World.block_lt_of_cell? w _ h1
    have hne : g ≠ b := fun e => by
      subst e
      simp [World.cell?, hb, mpO] at h1
    exact (World.cell?_of_block (hg.block g hlt (by simpa using hne))).trans h1
theorem RowB.grown {w w' : World} {g : Nat} {e : TypeId} {xs : List Value} {L : List Ent} {b : Nat} (h : RowB w g e xs) (hb : w.heap[b]? = some (mpO L)) (hg : w.grownBy w' (some b)) : RowB w' g e xs := by
  refine h.kept (hg.block g h.lt ?_)
  obtain ⟨C, fr, rest, hc, _⟩ := h
  intro e
  cases e
  rw [hb] at hc
  cases hc
theorem Ext.grownB {w w' w'' : World} {b : Nat} (h : Ext w w') (hg : w'.grownBy w'' (some b)) (hb : w.heap.size ≤ b) : Ext w w'' := Below.grown h hg h.size (fun k hk => by cases hk; exact hb)
open Classical in
noncomputable def refPut (r : List Ent) (x : Ent) : List Ent := if x.good ∧ ∀ y ∈ r, y.key ≠ x.key then insE x r else r
noncomputable def refL (es : List Ent) : List Ent := es.foldl refPut []
theorem refPut_bad {r : List Ent} {x : Ent} (h : ¬ x.good) : refPut r x = r := by unfold refPut; rw [if_neg (fun h' => h h'.1)]
theorem refPut_old {r : List Ent} {x y : Ent} (hy : y ∈ r) (hk : y.key = x.key) : refPut r x = r := by unfold refPut; rw [if_neg (fun h' => h'.2 y hy hk)]
theorem refPut_new {r : List Ent} {x : Ent} (h : x.good) (hn : ∀ y ∈ r, y.key ≠ x.key) : refPut r x = insE x r := by unfold refPut; rw [if_pos ⟨h, hn⟩]
theorem ins_perm (x : Ent) : ∀ r : List Ent, (insE x r).Perm (x :: r)
  | [] => List.Perm.refl _
  | y :: r => by
    unfold insE
    split
    · exact List.Perm.refl _
    · exact ((ins_perm x r).cons y).trans (List.Perm.swap _ _ _)
theorem ins_sorted {x : Ent} : ∀ {r : List Ent}, r.Pairwise ltE → (∀ y ∈ r, y.key ≠ x.key) → (insE x r).Pairwise ltE
  | [], _, _ => by simp [insE]
  | y :: r, h, hn => by
    obtain ⟨h1, h2⟩ := List.pairwise_cons.1 h
    unfold insE
    split
    · rename_i hlt
      exact List.pairwise_cons.2 ⟨fun z hz => by
        rcases List.mem_cons.1 hz with rfl | hz
        · exact hlt
        · exact ltE_trans hlt (h1 z hz), h⟩
    · rename_i hlt
      refine List.pairwise_cons.2 ⟨fun z hz => ?_, ins_sorted h2 (fun z hz => hn z (by simp [hz]))⟩
      rcases List.mem_cons.1 ((ins_perm x r).mem_iff.1 hz) with rfl | hz
      · rcases ltE_tri y z with h3 | h3 | h3
        · exact h3
        · exact absurd h3 (hn y (by simp))
        · exact absurd h3 hlt
      · exact h1 z hz
/-- the set and the reference's list -/
structure Tied (L r : List Ent) : Prop where
  p : r.Perm L
  s : r.Pairwise ltE
theorem Tied.nil : Tied [] [] := ⟨List.Perm.refl _, by simp⟩
theorem Tied.mem {L r : List Ent} (h : Tied L r) {x : Ent} : x ∈ r ↔ x ∈ L := h.p.mem_iff
theorem Tied.ins {L r : List Ent} (h : Tied L r) {x : Ent} (hn : ∀ y ∈ L, y.key ≠ x.key) : Tied (L ++ [x]) (insE x r) :=
  ⟨((ins_perm x r).trans (h.p.cons x)).trans (List.perm_append_singleton x L).symm, ins_sorted h.s (fun y hy => hn y (h.mem.1 hy))⟩
theorem ent_kinds (x : Ent) (hs : (x.nd.size : Int) ≤ 9223372036854775807) : nmB x.nd = false ∨ (nmB x.nd = true ∧ ¬ okE x.bt x.sq x.tn x.ht x.by_ x.at_) ∨ x.good := by
  cases h : nmB x.nd with
  | false => exact .inl rfl
  | true =>
    by_cases h2 : okE x.bt x.sq x.tn x.ht x.by_ x.at_
    · exact .inr (.inr ⟨⟨hs, h⟩, h2⟩)
    · exact .inr (.inl ⟨rfl, h2⟩)
theorem sorted_key {r : List Ent} (hs : r.Pairwise ltE) {x y : Ent} (hx : x ∈ r) (hy : y ∈ r) (h : x.key = y.key) : x = y := pair_unique (hs.imp fun h => ltE_key h) hx hy h
theorem rput_there {w : World} {v : Value} {r : List Ent} (h : EnsAt w v r) (hn : r.length ≤ 1000) (hs : r.Pairwise ltE) {x y : Ent} (hy : y ∈ r) (hk : y.key = x.key) :
    Calls Try.prog 22 #[v, x.v] w fun z w' => z = .returned (.tuple #[v, .bool false, .bool (decide (y = x))]) ∧ Ext w w' := by
  refine (rput_any h hn x).mono ?_
  rintro z w' ⟨hx, ⟨y', hy', hk', rfl⟩ | ⟨hno, _⟩⟩
  · rw [sorted_key hs hy hy' (hk.trans hk'.symm)]
    exact ⟨rfl, hx⟩
  · exact absurd hk (hno y hy)
theorem rput_new {w : World} {v : Value} {r : List Ent} (h : EnsAt w v r) (hn : r.length ≤ 1000) {x : Ent} (hno : ∀ y ∈ r, y.key ≠ x.key) :
    Calls Try.prog 22 #[v, x.v] w fun z w' => ∃ u, z = .returned (.tuple #[u, .bool true, .bool true]) ∧ EnsAt w' u (insE x r) ∧ Ext w w' := by
  refine (rput_any h hn x).mono ?_
  rintro z w' ⟨hx, ⟨y', hy', hk', rfl⟩ | ⟨_, u, rfl, hu⟩⟩
  · exact absurd hk' (hno y' hy')
  · exact ⟨u, rfl, hu, hx⟩
/-- an entry at a place in memory -/
def Arg7 (w : World) (p : Addr) (e : Ent) : Prop := w.cell? p = some (.string e.nd) ∧ w.cell? ⟨p.block, p.off + 1, none⟩ = some (.int .i64 e.bt) ∧ w.cell? ⟨p.block, p.off + 2, none⟩ = some (.int .i64 e.sq) ∧
    w.cell? ⟨p.block, p.off + 3, none⟩ = some (.int .i64 e.tn) ∧ w.cell? ⟨p.block, p.off + 4, none⟩ = some (.int .i64 e.ht) ∧ w.cell? ⟨p.block, p.off + 5, none⟩ = some (.int .i64 e.by_) ∧ w.cell? ⟨p.block, p.off + 6, none⟩ = some (.int .i64 e.at_)
theorem Arg7.ext {w w' : World} {p : Addr} {e : Ent} (h : Arg7 w p e) (hx : Ext w w') : Arg7 w' p e :=
  ⟨hx.cell h.1, hx.cell h.2.1, hx.cell h.2.2.1, hx.cell h.2.2.2.1, hx.cell h.2.2.2.2.1, hx.cell h.2.2.2.2.2.1, hx.cell h.2.2.2.2.2.2⟩
/-- a slice of entries that came in -/
def EnsArg (w : World) (v : Value) (es : List Ent) : Prop := ∃ A cap, v = .slice A es.length cap ∧ (0 < es.length → ∃ a, A = some a ∧ ∀ i e, es[i]? = some e → Arg7 w (a.add (i * 7)) e)
theorem EnsArg.ext {w w' : World} {v : Value} {es : List Ent} (h : EnsArg w v es) (hx : Ext w w') : EnsArg w' v es := by
  obtain ⟨A, cap, hv, hc⟩ := h
  refine ⟨A, cap, hv, fun h0 => ?_⟩
  obtain ⟨a, ha, hh⟩ := hc h0
  exact ⟨a, ha, fun i e he => (hh i e he).ext hx⟩
/-- what an entry that came in may be -/
def Ent.typed (x : Ent) : Prop := (x.nd.size : Int) ≤ 9223372036854775807 ∧ (-9223372036854775808 ≤ x.sq ∧ x.sq ≤ 9223372036854775807)
set_option maxRecDepth 100000 in
set_option maxHeartbeats 4000000 in
theorem filled_any {w : World} {v : Value} {es : List Ent} (h : EnsArg w v es) (hn : es.length ≤ 60) (hty : ∀ x ∈ es, x.typed) :
    Calls Try.prog 12 #[v] w fun z w' => Ext w w' ∧ ∃ u L, z = .returned (.tuple #[.pointer (some ⟨w.heap.size + 1, 0, none⟩), u, .bool true]) ∧ SetAt w' (w.heap.size + 1) w.heap.size L ∧ EnsAt w' u (refL es) ∧ Tied L (refL es) ∧ (refL es).length ≤ 60 := by
  obtain ⟨A, cap, rfl, hr⟩ := h
  obtain ⟨n, hxn⟩ : ∃ n, es.length = n := ⟨_, rfl⟩
  have HN := Lib.hid hxn
  have HTY := Lib.hid hty
  rw [hxn] at hn hr ⊢
  clear hxn hty
  go_enter Try.func12, Try.ntmps12
  obtain ⟨q, hq⟩ : ∃ q, w.heap.size + 1 = q := ⟨_, rfl⟩
  obtain ⟨b, hb⟩ : ∃ b, w.heap.size = b := ⟨_, rfl⟩
  have HNEW : Hid (Calls Try.prog 18 #[] w fun e w' => e = .returned (.pointer (some ⟨q, 0, none⟩)) ∧ Ext w w' ∧ SetAt w' q b []) := Lib.hid (by rw [← hq, ← hb]; exact new_set w)
  have HB := Lib.hid (show w.heap.size ≤ b by omega)
  rw [hq, hb]
  clear hq hb
  go_wp2_with (go_at_call 18; refine HNEW.out.mono ?_; rintro e w1 ⟨rfl, hx1, hS1⟩)
  go_loopw [6, 18] (fun rv i wr => ∃ (k : Nat) (L r : List Ent), k ≤ n ∧ i = .int .i64 k ∧ Hid (Ext w wr ∧ SetAt wr q b L ∧ EnsAt wr rv r ∧ Tied L r ∧ r = refL (es.take k) ∧ r.length ≤ k)) (fun _ i _ => n - (intOf i).toNat)
  case atStart => exact ⟨0, [], [], by omega, rfl, Lib.hid ⟨hx1, hS1, EnsAt.nil _, Tied.nil, rfl, by simp⟩⟩
  case round =>
    obtain ⟨k, L, r, hk, rfl, HR⟩ := hrel
    by_cases hlt : k < n
    · obtain ⟨ad, rfl, hg⟩ := hr (by omega)
      obtain ⟨x, hx⟩ : ∃ x, es[k]? = some x := ⟨es[k]'(by rw [HN.out]; exact hlt), by simp⟩
      have hki : (k : Int) < (n : Int) := by omega
      have hk6 : (k : Int) < 61 := by omega
      have HTK : Hid (refL (es.take (k + 1)) = refPut r x) := Lib.hid (by rw [List.take_add_one, hx, HR.out.2.2.2.2.1]; simp [refL])
      have HXT := Lib.hid (HTY.out x (List.mem_of_getElem? hx))
      obtain ⟨a0, a1, a2, a3, a4, a5, a6⟩ := (hg k x hx).ext HR.out.1
      clear hg hx hr
      go_upto_region 6 with fail
      obtain ⟨wa, hwa⟩ : ∃ wa, wa = wr.alloc (.cells x.cs.toArray 41) := ⟨_, rfl⟩
      have XA : Ext wr wa := by rw [hwa]; exact (Ext.refl wr).alloc _
      have HT : Hid (RowB wa wr.heap.size 41 x.cs) := Lib.hid (by rw [hwa]; exact row_laid _ _ _)
      have HRA : Hid (Ext w wa ∧ SetAt wa q b L ∧ EnsAt wa u6 r) := Lib.hid ⟨HR.out.1.trans XA, HR.out.2.1.ext XA, HR.out.2.2.1.ext XA⟩
      simp only [Ent.cs] at hwa
      rw [← hwa]
      clear hwa a0 a1 a2 a3 a4 a5 a6 XA
      obtain ⟨t0, t1, t2, t3, t4, t5, t6⟩ := ent_cells HT.out
      rcases ent_kinds x HXT.out.1 with hbad | ⟨hnm, hbad⟩ | hgood
      · have HNG : Hid (¬ x.good) := Lib.hid (fun hg => by have := hg.1.2; rw [hbad] at this; cases this)
        have HP : Hid (Calls Try.prog 19 #[.pointer (some ⟨q, 0, none⟩), .agg #[.string x.nd, .int .i64 x.bt, .int .i64 x.sq, .int .i64 x.tn, .int .i64 x.ht, .int .i64 x.by_, .int .i64 x.at_]] wa fun e w' => e = .returned (.tuple #[.bool false, errV 8]) ∧ Ext wa w') := Lib.hid (put_err q x 8 wa (fun W => check_name x.nd x.bt x.sq x.tn x.ht x.by_ x.at_ HXT.out.1 hbad W))
        have HC : Hid (∀ W, Calls Try.prog 27 #[.agg #[.string x.nd, .int .i64 x.bt, .int .i64 x.sq, .int .i64 x.tn, .int .i64 x.ht, .int .i64 x.by_, .int .i64 x.at_]] W fun e w' => e = .returned (.int .i64 8) ∧ Ext W w') := Lib.hid (fun W => code_name x.nd x.bt x.sq x.tn x.ht x.by_ x.at_ HXT.out.1 hbad W)
        go_wp2_with (first
          | (go_at_call 19; refine HP.out.mono ?_; rintro e w2 ⟨rfl, hx2⟩; clear t0 t1 t2 t3 t4 t5 t6; obtain ⟨t0, t1, t2, t3, t4, t5, t6⟩ := ent_cells (HT.out.ext hx2))
          | (go_at_call 27; refine (HC.out _).mono ?_; rintro e w3 ⟨rfl, hx3⟩)
          | (go_at_call 28; refine (num_err 8 _).mono ?_; rintro e w' ⟨rfl, rfl⟩))
        go_roundw
        case rel =>
          have HX := hx2.trans hx3
          exact ⟨k + 1, L, r, by omega, by go_num, Lib.hid ⟨HRA.out.1.trans HX, HRA.out.2.1.ext HX, HRA.out.2.2.ext HX, HR.out.2.2.2.1, by rw [HTK.out, refPut_bad HNG.out], by have := HR.out.2.2.2.2.2; omega⟩⟩
        case measure => simp [intOf]; omega
      · have HNG : Hid (¬ x.good) := Lib.hid (fun hg => hbad hg.2)
        have HP : Hid (Calls Try.prog 19 #[.pointer (some ⟨q, 0, none⟩), .agg #[.string x.nd, .int .i64 x.bt, .int .i64 x.sq, .int .i64 x.tn, .int .i64 x.ht, .int .i64 x.by_, .int .i64 x.at_]] wa fun e w' => e = .returned (.tuple #[.bool false, errV 1]) ∧ Ext wa w') := Lib.hid (put_err q x 1 wa (fun W => check_bad x.nd x.bt x.sq x.tn x.ht x.by_ x.at_ HXT.out.1 hnm HXT.out.2 hbad W))
        have HC : Hid (∀ W, Calls Try.prog 27 #[.agg #[.string x.nd, .int .i64 x.bt, .int .i64 x.sq, .int .i64 x.tn, .int .i64 x.ht, .int .i64 x.by_, .int .i64 x.at_]] W fun e w' => e = .returned (.int .i64 1) ∧ Ext W w') := Lib.hid (fun W => code_bad x.nd x.bt x.sq x.tn x.ht x.by_ x.at_ HXT.out.1 hnm hbad W)
        go_wp2_with (first
          | (go_at_call 19; refine HP.out.mono ?_; rintro e w2 ⟨rfl, hx2⟩; clear t0 t1 t2 t3 t4 t5 t6; obtain ⟨t0, t1, t2, t3, t4, t5, t6⟩ := ent_cells (HT.out.ext hx2))
          | (go_at_call 27; refine (HC.out _).mono ?_; rintro e w3 ⟨rfl, hx3⟩)
          | (go_at_call 28; refine (num_err 1 _).mono ?_; rintro e w' ⟨rfl, rfl⟩))
        go_roundw
        case rel =>
          have HX := hx2.trans hx3
          exact ⟨k + 1, L, r, by omega, by go_num, Lib.hid ⟨HRA.out.1.trans HX, HRA.out.2.1.ext HX, HRA.out.2.2.ext HX, HR.out.2.2.2.1, by rw [HTK.out, refPut_bad HNG.out], by have := HR.out.2.2.2.2.2; omega⟩⟩
        case measure => simp [intOf]; omega
      · have HP : Hid (Calls Try.prog 19 #[.pointer (some ⟨q, 0, none⟩), .agg #[.string x.nd, .int .i64 x.bt, .int .i64 x.sq, .int .i64 x.tn, .int .i64 x.ht, .int .i64 x.by_, .int .i64 x.at_]] wa fun e w' => ∃ v L', PutR L x v L' ∧ e = .returned v ∧ wa.grownBy w' (some b) ∧ SetAt w' q b L') := Lib.hid (put_good q b L x wa HRA.out.2.1 hgood)
        have HC : Hid (∀ W, Calls Try.prog 27 #[.agg #[.string x.nd, .int .i64 x.bt, .int .i64 x.sq, .int .i64 x.tn, .int .i64 x.ht, .int .i64 x.by_, .int .i64 x.at_]] W fun e w' => e = .returned (.int .i64 0) ∧ Ext W w') := Lib.hid (fun W => code_ok x.nd x.bt x.sq x.tn x.ht x.by_ x.at_ HXT.out.1 hgood.1.2 hgood.2 W)
        have HG := Lib.hid hgood
        go_wp2_with fail
        refine HP.out.mono ?_
        rintro e w2 ⟨v2, L', hP, rfl, hg2, hS2⟩
        clear t0 t1 t2 t3 t4 t5 t6
        have HT2 : Hid (RowB w2 wr.heap.size 41 x.cs) := Lib.hid (HT.out.grown HRA.out.2.1.hb hg2)
        have HR2 : Hid (Ext w w2 ∧ SetAt w2 q b L' ∧ EnsAt w2 u6 r) := Lib.hid ⟨HRA.out.1.grownB hg2 HB.out, hS2, HRA.out.2.2.kept HRA.out.2.1.hb hg2⟩
        have t := fun W (hW : Ext w2 W) => ent_cells (HT2.out.ext hW)
        have HTW := Lib.hid t
        obtain ⟨t0, t1, t2, t3, t4, t5, t6⟩ := t _ (Ext.refl w2)
        clear t hg2 hS2 hgood
        rcases hP with hold | hnew | ⟨y, hy, hyk, hyx⟩
        · have HPP : Hid (∀ W, Ext w2 W → Calls Try.prog 22 #[u6, .agg #[.string x.nd, .int .i64 x.bt, .int .i64 x.sq, .int .i64 x.tn, .int .i64 x.ht, .int .i64 x.by_, .int .i64 x.at_]] W fun z w' => z = .returned (.tuple #[u6, .bool false, .bool true]) ∧ Ext W w') := Lib.hid (fun W hW => by
            have hm := HR.out.2.2.2.1.mem.2 hold
            have := rput_there (HR2.out.2.2.ext hW) (by have := HR.out.2.2.2.2.2; omega) HR.out.2.2.2.1.s hm rfl
            rw [decide_eq_true rfl] at this
            exact this)
          have HOLD : Hid (refPut r x = r) := Lib.hid (refPut_old (HR.out.2.2.2.1.mem.2 hold) rfl)
          clear hold
          go_wp2_with (first
            | (go_at_call 27; refine (HC.out _).mono ?_; rintro e w3 ⟨rfl, hx3⟩; clear t0 t1 t2 t3 t4 t5 t6; obtain ⟨t0, t1, t2, t3, t4, t5, t6⟩ := HTW.out _ hx3)
            | (go_at_call 22; refine (HPP.out _ hx3).mono ?_; rintro e w4 ⟨rfl, hx4⟩)
            | (go_at_call 23; refine (is_err 20 _ (by decide)).mono ?_; rintro e w' ⟨rfl, rfl⟩))
          go_roundw
          case rel =>
            have HX := hx3.trans hx4
            exact ⟨k + 1, _, r, by omega, by go_num, Lib.hid ⟨HR2.out.1.trans HX, HR2.out.2.1.ext HX, HR2.out.2.2.ext HX, HR.out.2.2.2.1, by rw [HTK.out, HOLD.out], by have := HR.out.2.2.2.2.2; omega⟩⟩
          case measure => simp [intOf]; omega
        · have HNO := Lib.hid hnew
          have HNR : Hid (∀ y ∈ r, y.key ≠ x.key) := Lib.hid (fun y hy => hnew y (HR.out.2.2.2.1.mem.1 hy))
          have HPP : Hid (∀ W, Ext w2 W → Calls Try.prog 22 #[u6, .agg #[.string x.nd, .int .i64 x.bt, .int .i64 x.sq, .int .i64 x.tn, .int .i64 x.ht, .int .i64 x.by_, .int .i64 x.at_]] W fun z w' => ∃ u, z = .returned (.tuple #[u, .bool true, .bool true]) ∧ EnsAt w' u (insE x r) ∧ Ext W w') := Lib.hid (fun W hW => rput_new (HR2.out.2.2.ext hW) (by have := HR.out.2.2.2.2.2; omega) HNR.out)
          clear hnew
          go_wp2_with (first
            | (go_at_call 27; refine (HC.out _).mono ?_; rintro e w3 ⟨rfl, hx3⟩; clear t0 t1 t2 t3 t4 t5 t6; obtain ⟨t0, t1, t2, t3, t4, t5, t6⟩ := HTW.out _ hx3)
            | (go_at_call 22; refine (HPP.out _ hx3).mono ?_; rintro e w4 ⟨u, rfl, hu, hx4⟩)
            | (go_at_call 23; refine (is_err 20 _ (by decide)).mono ?_; rintro e w' ⟨rfl, rfl⟩))
          go_roundw
          case rel =>
            have HX := hx3.trans hx4
            exact ⟨k + 1, _, insE x r, by omega, by go_num, Lib.hid ⟨HR2.out.1.trans HX, HR2.out.2.1.ext HX, hu, HR.out.2.2.2.1.ins HNO.out, by rw [HTK.out, refPut_new HG.out HNR.out], by rw [len_ins]; have := HR.out.2.2.2.2.2; omega⟩⟩
          case measure => simp [intOf]; omega
        · have HPP : Hid (∀ W, Ext w2 W → Calls Try.prog 22 #[u6, .agg #[.string x.nd, .int .i64 x.bt, .int .i64 x.sq, .int .i64 x.tn, .int .i64 x.ht, .int .i64 x.by_, .int .i64 x.at_]] W fun z w' => z = .returned (.tuple #[u6, .bool false, .bool false]) ∧ Ext W w') := Lib.hid (fun W hW => by
            have := rput_there (HR2.out.2.2.ext hW) (by have := HR.out.2.2.2.2.2; omega) HR.out.2.2.2.1.s (HR.out.2.2.2.1.mem.2 hy) hyk
            rw [decide_eq_false hyx] at this
            exact this)
          have HOLD : Hid (refPut r x = r) := Lib.hid (refPut_old (HR.out.2.2.2.1.mem.2 hy) hyk)
          clear hy hyk hyx
          go_wp2_with (first
            | (go_at_call 27; refine (HC.out _).mono ?_; rintro e w3 ⟨rfl, hx3⟩; clear t0 t1 t2 t3 t4 t5 t6; obtain ⟨t0, t1, t2, t3, t4, t5, t6⟩ := HTW.out _ hx3)
            | (go_at_call 22; refine (HPP.out _ hx3).mono ?_; rintro e w4 ⟨rfl, hx4⟩)
            | (go_at_call 23; refine (is_err 20 _ (by decide)).mono ?_; rintro e w' ⟨rfl, rfl⟩))
          go_roundw
          case rel =>
            have HX := hx3.trans hx4
            exact ⟨k + 1, _, r, by omega, by go_num, Lib.hid ⟨HR2.out.1.trans HX, HR2.out.2.1.ext HX, HR2.out.2.2.ext HX, HR.out.2.2.2.1, by rw [HTK.out, HOLD.out], by have := HR.out.2.2.2.2.2; omega⟩⟩
          case measure => simp [intOf]; omega
    · obtain rfl : k = n := by omega
      have hrr : r = refL es := by have := HR.out.2.2.2.2.1; rwa [List.take_of_length_le (by have := HN.out; omega)] at this
      subst hrr
      have HLI := Lib.hid (list_any q b L (refL es) HR.out.2.2.2.1.s HR.out.2.2.2.1.p (by have := HR.out.2.2.2.1.p.length_eq; have := HR.out.2.2.2.2.2; omega) wr HR.out.2.1)
      go_wp2_with (first
        | (go_at_call 20; refine HLI.out.mono ?_; rintro e w2 ⟨u, rfl, hu, hx2, -⟩)
        | (go_at_call 24; refine (same_any hu (HR.out.2.2.1.ext hx2) (by have := HR.out.2.2.2.2.2; omega)).mono ?_; rintro e w3 ⟨rfl, hx3⟩))
      go_ret3
      have HX := hx2.trans hx3
      exact ⟨HR.out.1.trans HX, u6, L, by simp, HR.out.2.1.ext HX, HR.out.2.2.1.ext HX, HR.out.2.2.2.1, by have := HR.out.2.2.2.2.2; omega⟩
end Go.Proofs.Ytjdbhemojopnlaa
