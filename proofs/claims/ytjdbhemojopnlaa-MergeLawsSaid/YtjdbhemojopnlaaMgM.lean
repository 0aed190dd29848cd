/- Chapter 52: the reference's Put. -/
import Derived.Test.YtjdbhemojopnlaaMgL
namespace Go.Proofs.Ytjdbhemojopnlaa
open Go.RowKit Go.Maps
attribute [local go_sem 2000] equal_ent
/-- a slice of entries that the caller has made, its row at B or above -/
def EntOwn (w : World) (B : Nat) (v : Value) (es : List Ent) : Prop := w.ownsRow B 41 7 v es.length (es.flatMap Ent.cs)
theorem EntOwn.nil (w : World) (B : Nat) : EntOwn w B (.slice none 0 0) [] := World.ownsRow_nil _ _ _ _
theorem EntOwn.at {w : World} {B : Nat} {v : Value} {es : List Ent} (h : EntOwn w B v es) : EnsAt w v es := ens_of_row h
theorem EntOwn.ext {w w' : World} {B : Nat} {v : Value} {es : List Ent} (h : EntOwn w B v es) (hx : Ext w w') : EntOwn w' B v es := World.ownsRow.kept h (hx.grown none) (by
  rcases h.2 with ⟨rfl, _⟩ | ⟨g, cap, cur, rfl, _⟩
  · exact .inl rfl
  · exact .inr (by simp [Value.ownBlock]))
theorem ent_base {w : World} {B : Nat} {v : Value} {es : List Ent} (h : EntOwn w B v es) : ∀ k, v.ownBlock = some k → B ≤ k := by
  intro k hk
  rcases h.2 with ⟨rfl, _⟩ | ⟨g, cap, cur, rfl, hb, _⟩
  · simp [Value.ownBlock] at hk
  · simp [Value.ownBlock] at hk; omega
theorem wpList_append_ent (w : World) {ops : Array Oper} {rest : List Oper} {o : Oper} {a : Act} {Q : Exit → Act → World → Prop} (hg : o.guard = none) (s x : Operand)
    (ho : o.op = .call { callee := .builtin .append, args := #[s, x], argTypes := #[22, 22] }) (B : Nat) {v : Value} {es : List Ent} (e : Ent) (hown : EntOwn w B v es) (hs : a.eval s = v)
    {G : Nat} (hx : a.eval x = .slice (some ⟨G, 0, none⟩) 1 1) (hG : G = w.heap.size) (hlen : es.length ≤ 100000) (hB : B ≤ w.heap.size)
    (h : ∀ v' w', EntOwn w' B v' (es ++ [e]) → Below B w w' → wpList Try.prog ops Q rest (a.put o.dst v') w') :
    wpList Try.prog ops Q (o :: rest) a (w.alloc (.cells #[.string e.nd, .int .i64 e.bt, .int .i64 e.sq, .int .i64 e.tn, .int .i64 e.ht, .int .i64 e.by_, .int .i64 e.at_] 41)) := by
  subst hG
  obtain ⟨i0, hi0, hz0, hz1, hz2⟩ := info_parts ent_info
  refine wpList_append_own _ hg s x 22 ho B 41 i0 _ 7 64 Try.underlying22 hi0 hz0 hz1 hz2 rfl (by decide) v es.length _ hs (hown.ext ((Ext.refl w).alloc _)) ⟨w.heap.size, 0, none⟩ 1 1 e.cs hx rfl (cells_new _ _ _) (by simp [Ent.cs, Value.oneCell']) (by unfold maxLen; omega) (by omega) (by simp; omega) ?_
  intro v' w1 hown' hgrow _
  refine h v' w1 ?_ ?_
  · unfold EntOwn
    rw [List.length_append, List.flatMap_append]
    simpa using hown'
  · exact Below.grown (Below.alloc (Below.refl _ _) hB _) hgrow (by simp; omega) (ent_base hown)
theorem EnsAt.below {w w' : World} {v : Value} {es : List Ent} (h : EnsAt w v es) (hx : Below w.heap.size w w') : EnsAt w' v es := h.ext hx
theorem len_ins (e : Ent) : ∀ r : List Ent, (insE e r).length = r.length + 1
  | [] => rfl
  | x :: r => by
    unfold insE
    split
    · rfl
    · simp [len_ins e r]
set_option maxRecDepth 100000 in
set_option maxHeartbeats 2000000 in
theorem rput_any {w : World} {v : Value} {r : List Ent} (h : EnsAt w v r) (hn : r.length ≤ 1000) (e : Ent) :
    Calls Try.prog 22 #[v, e.v] w fun z w' => Ext w w' ∧
      ((∃ x ∈ r, x.key = e.key ∧ z = .returned (.tuple #[v, .bool false, .bool (decide (x = e))])) ∨
       ((∀ x ∈ r, x.key ≠ e.key) ∧ ∃ u, z = .returned (.tuple #[u, .bool true, .bool true]) ∧ EnsAt w' u (insE e r))) := by
  obtain ⟨A, cap, rfl, hr⟩ := h.parts
  have HE := Lib.hid h
  clear h
  obtain ⟨n, hxn⟩ : ∃ n, r.length = n := ⟨_, rfl⟩
  have HN := Lib.hid hxn
  rw [hxn] at hn hr ⊢
  clear hxn
  dsimp only [Ent.v]
  go_enter Try.func22, Try.ntmps22
  obtain ⟨w0, hw0⟩ : ∃ w0, w0 = w.alloc (.cells e.cs.toArray 41) := ⟨_, rfl⟩
  have X0 : Ext w w0 := by rw [hw0]; exact (Ext.refl w).alloc _
  have HT : Hid (RowB w0 w.heap.size 41 e.cs) := Lib.hid (by rw [hw0]; exact row_laid _ _ _)
  have hz0 : w0.heap.size = w.heap.size + 1 := by rw [hw0]; simp
  go_upto_region 1 with fail
  simp only [Ent.cs] at hw0
  rw [← hw0]
  clear hw0
  go_wp2_with fail
  go_loopw [7, 8, 12] (fun o a i wr => ∃ k : Nat, ∃ p : List Ent × Bool, k ≤ n ∧ i = .int .i64 k ∧ a = .bool p.2 ∧ EntOwn wr (w.heap.size + 1) o p.1 ∧ Below (w.heap.size + 1) w0 wr ∧ Hid ((r.take k).foldl (stp e) ([], false) = p ∧ ∀ i x, i < k → r[i]? = some x → x.key ≠ e.key)) (fun _ _ i _ => n - (intOf i).toNat)
  case atStart => exact ⟨0, ([], false), by omega, rfl, rfl, EntOwn.nil _ _, Below.refl _ _, Lib.hid ⟨rfl, fun i x hi => by omega⟩⟩
  case round =>
    obtain ⟨k, ⟨o, a⟩, hk, rfl, rfl, hO, hB, HI⟩ := hrel
    simp only at hO HI ⊢
    have hsz : w.heap.size + 1 ≤ wr.heap.size := by have := hB.size; omega
    have hX : Ext w wr := X0.trans (by have h := hB; rw [← hz0] at h; exact h)
    have hol : o.length ≤ k + 1 := by
      have := fold_len e (r.take k) ([], false)
      rw [HI.out.1] at this
      have h2 : (r.take k).length ≤ k := List.length_take_le _ _
      simp at this
      omega
    have HB := Lib.hid hB
    have HT' : Hid (RowB wr w.heap.size 41 e.cs) := Lib.hid (HT.out.below hB (by omega))
    have bel : ∀ (W W' : World), Below (w.heap.size + 1) w0 W → Ext W W' → Below (w.heap.size + 1) w0 W' := fun _ _ h hx => h.trans (Below.mono hx (by have := h.size; omega))
    have BEL := Lib.hid bel
    have toX : ∀ W : World, Below (w.heap.size + 1) w0 W → Ext w W := fun _ h => X0.trans (by rw [← hz0] at h; exact h)
    have TOX := Lib.hid toX
    by_cases hlt : k < n
    · obtain ⟨g, off, rfl, hg⟩ := hr (by omega)
      obtain ⟨x, hx⟩ : ∃ x, r[k]? = some x := ⟨r[k]'(by rw [HN.out]; exact hlt), by simp⟩
      have hki : (k : Int) < (n : Int) := by omega
      have hk6 : (k : Int) < 1001 := by omega
      have HX := Lib.hid hx
      have HOO := Lib.hid hO
      have HF := Lib.hid (fun W (hW : Below (w.heap.size + 1) w0 W) => And.intro (cells7 (w := W) (fun j u hj => (toX _ hW).cell (hg k x hx j u hj))) (ent_cells (HT.out.below hW (by omega))))
      have hTK : r.take (k + 1) = r.take k ++ [x] := by rw [List.take_add_one, hx]; rfl
      have HTK := Lib.hid hTK
      have a0 := fun n : Wd wr => (HF.out n.val (bel _ _ hB n.ext)).1.1
      have a1 := fun n : Wd wr => (HF.out n.val (bel _ _ hB n.ext)).1.2.1
      have a2 := fun n : Wd wr => (HF.out n.val (bel _ _ hB n.ext)).1.2.2.1
      have a3 := fun n : Wd wr => (HF.out n.val (bel _ _ hB n.ext)).1.2.2.2.1
      have a4 := fun n : Wd wr => (HF.out n.val (bel _ _ hB n.ext)).1.2.2.2.2.1
      have a5 := fun n : Wd wr => (HF.out n.val (bel _ _ hB n.ext)).1.2.2.2.2.2.1
      have a6 := fun n : Wd wr => (HF.out n.val (bel _ _ hB n.ext)).1.2.2.2.2.2.2
      have b0 := fun n : Wd wr => (HF.out n.val (bel _ _ hB n.ext)).2.1
      have b1 := fun n : Wd wr => (HF.out n.val (bel _ _ hB n.ext)).2.2.1
      have b2 := fun n : Wd wr => (HF.out n.val (bel _ _ hB n.ext)).2.2.2.1
      have b3 := fun n : Wd wr => (HF.out n.val (bel _ _ hB n.ext)).2.2.2.2.1
      have b4 := fun n : Wd wr => (HF.out n.val (bel _ _ hB n.ext)).2.2.2.2.2.1
      have b5 := fun n : Wd wr => (HF.out n.val (bel _ _ hB n.ext)).2.2.2.2.2.2.1
      have b6 := fun n : Wd wr => (HF.out n.val (bel _ _ hB n.ext)).2.2.2.2.2.2.2
      obtain ⟨c, hc⟩ : ∃ c, decide (x.key = e.key) = c := ⟨_, rfl⟩
      have HAL : Hid (∀ W, Calls Try.prog 39 #[.agg #[.string x.nd, .int .i64 x.bt, .int .i64 x.sq, .int .i64 x.tn, .int .i64 x.ht, .int .i64 x.by_, .int .i64 x.at_], .agg #[.string e.nd, .int .i64 e.bt, .int .i64 e.sq, .int .i64 e.tn, .int .i64 e.ht, .int .i64 e.by_, .int .i64 e.at_]] W fun z w' => z = .returned (.bool c) ∧ Ext W w') := Lib.hid (fun W => by rw [← hc]; exact alike_any x e W)
      have HC := Lib.hid hc
      clear hc hr hg hx hO hB bel toX hTK
      go_upto_region 6 with fail
      refine wp_region_wd (by kernel_rfl) (by kernel_rfl) ?_
      repeat (go_big_quiet_step ((go_at_call 39; exact Calls.wd_of (HAL.out _))))
      refine wpQuiet_nil ?_
      rintro _ ⟨nq, rfl⟩
      clear a0 a1 a2 a3 a4 a5 a6 b0 b1 b2 b3 b4 b5 b6
      have HB6 := Lib.hid (BEL.out _ _ HB.out nq.ext)
      have HO6 := Lib.hid (HOO.out.ext nq.ext)
      have a0 := fun n : Wd nq.val => (HF.out n.val (BEL.out _ _ HB6.out n.ext)).1.1
      have a1 := fun n : Wd nq.val => (HF.out n.val (BEL.out _ _ HB6.out n.ext)).1.2.1
      have a2 := fun n : Wd nq.val => (HF.out n.val (BEL.out _ _ HB6.out n.ext)).1.2.2.1
      have a3 := fun n : Wd nq.val => (HF.out n.val (BEL.out _ _ HB6.out n.ext)).1.2.2.2.1
      have a4 := fun n : Wd nq.val => (HF.out n.val (BEL.out _ _ HB6.out n.ext)).1.2.2.2.2.1
      have a5 := fun n : Wd nq.val => (HF.out n.val (BEL.out _ _ HB6.out n.ext)).1.2.2.2.2.2.1
      have a6 := fun n : Wd nq.val => (HF.out n.val (BEL.out _ _ HB6.out n.ext)).1.2.2.2.2.2.2
      have b0 := fun n : Wd nq.val => (HF.out n.val (BEL.out _ _ HB6.out n.ext)).2.1
      have b1 := fun n : Wd nq.val => (HF.out n.val (BEL.out _ _ HB6.out n.ext)).2.2.1
      have b2 := fun n : Wd nq.val => (HF.out n.val (BEL.out _ _ HB6.out n.ext)).2.2.2.1
      have b3 := fun n : Wd nq.val => (HF.out n.val (BEL.out _ _ HB6.out n.ext)).2.2.2.2.1
      have b4 := fun n : Wd nq.val => (HF.out n.val (BEL.out _ _ HB6.out n.ext)).2.2.2.2.2.1
      have b5 := fun n : Wd nq.val => (HF.out n.val (BEL.out _ _ HB6.out n.ext)).2.2.2.2.2.2.1
      have b6 := fun n : Wd nq.val => (HF.out n.val (BEL.out _ _ HB6.out n.ext)).2.2.2.2.2.2.2
      cases c with
      | true =>
        obtain ⟨bb, hb2⟩ : ∃ bb, eqE x.nd x.bt x.sq x.tn x.ht x.by_ x.at_ e.nd e.bt e.sq e.tn e.ht e.by_ e.at_ = bb := ⟨_, rfl⟩
        have HB2 : Hid (bb = decide (x = e)) := Lib.hid (hb2.symm.trans (eqE_ent x e))
        go_upto_region 7 with fail
        refine wp_region_wd (by kernel_rfl) (by kernel_rfl) ?_
        repeat (go_big_quiet_step (fail))
        refine wpQuiet_nil ?_
        rintro _ ⟨n7, rfl⟩
        clear a0 a1 a2 a3 a4 a5 a6 b0 b1 b2 b3 b4 b5 b6
        go_wp2_with fail
        go_ret3
        exact ⟨TOX.out _ (BEL.out _ _ HB6.out n7.ext), .inl ⟨x, List.mem_of_getElem? HX.out, of_decide_eq_true HC.out, by rw [HB2.out]; rfl⟩⟩
      | false =>
        have hkey : ∀ i y, i < k + 1 → r[i]? = some y → y.key ≠ e.key := fun i y hi hy => by
          by_cases hik : i = k
          · subst hik
            have := hy.symm.trans HX.out
            cases this
            exact of_decide_eq_false HC.out
          · exact HI.out.2 i y (by omega) hy
        have HK := Lib.hid hkey
        clear hkey
        cases a with
        | true =>
          go_upto_region 8 with fail
          refine wp_region_wd (by kernel_rfl) (by kernel_rfl) ?_
          repeat (go_big_quiet_step (fail))
          refine wpQuiet_nil ?_
          rintro _ ⟨n8, rfl⟩
          clear a0 a1 a2 a3 a4 a5 a6 b0 b1 b2 b3 b4 b5 b6
          have HB8 := Lib.hid (BEL.out _ _ HB6.out n8.ext)
          have HO8 := Lib.hid (HO6.out.ext n8.ext)
          obtain ⟨⟨a0, a1, a2, a3, a4, a5, a6⟩, -⟩ := HF.out _ HB8.out
          have hs8 : w.heap.size + 1 ≤ n8.val.heap.size := by have := HB8.out.size; omega
          go_wp2_with (at_builtin; refine wpList_append_ent _ rfl _ _ rfl (w.heap.size + 1) x HO8.out rfl rfl (by simp) (by omega) hs8 ?_; intro v' w9 hO9 hB9)
          go_roundw
          case rel =>
            refine ⟨k + 1, (o ++ [x], true), by omega, by go_num, rfl, hO9, HB8.out.trans hB9, Lib.hid ⟨?_, HK.out⟩⟩
            rw [HTK.out, List.foldl_append, HI.out.1]
            simp [stp]
          case measure => simp [intOf]; omega
        | false =>
          obtain ⟨c2, hc2⟩ : ∃ c2, decide (ltE e x) = c2 := ⟨_, rfl⟩
          have HBF : Hid (∀ W, Calls Try.prog 40 #[.agg #[.string e.nd, .int .i64 e.bt, .int .i64 e.sq, .int .i64 e.tn, .int .i64 e.ht, .int .i64 e.by_, .int .i64 e.at_], .agg #[.string x.nd, .int .i64 x.bt, .int .i64 x.sq, .int .i64 x.tn, .int .i64 x.ht, .int .i64 x.by_, .int .i64 x.at_]] W fun z w' => z = .returned (.bool c2) ∧ Ext W w') := Lib.hid (fun W => by rw [← hc2]; exact before_any e x W)
          have HC2 := Lib.hid hc2
          clear hc2
          go_upto_region 8 with fail
          refine wp_region_wd (by kernel_rfl) (by kernel_rfl) ?_
          repeat (go_big_quiet_step ((go_at_call 40; exact Calls.wd_of (HBF.out _))))
          refine wpQuiet_nil ?_
          rintro _ ⟨n8, rfl⟩
          clear a0 a1 a2 a3 a4 a5 a6 b0 b1 b2 b3 b4 b5 b6
          have HB8 := Lib.hid (BEL.out _ _ HB6.out n8.ext)
          have HO8 := Lib.hid (HO6.out.ext n8.ext)
          obtain ⟨⟨a0, a1, a2, a3, a4, a5, a6⟩, b0, b1, b2, b3, b4, b5, b6⟩ := HF.out _ HB8.out
          have hs8 : w.heap.size + 1 ≤ n8.val.heap.size := by have := HB8.out.size; omega
          cases c2 with
          | false =>
            go_wp2_with (at_builtin; refine wpList_append_ent _ rfl _ _ rfl (w.heap.size + 1) x HO8.out rfl rfl (by simp) (by omega) hs8 ?_; intro v' w9 hO9 hB9)
            go_roundw
            case rel =>
              refine ⟨k + 1, (o ++ [x], false), by omega, by go_num, rfl, hO9, HB8.out.trans hB9, Lib.hid ⟨?_, HK.out⟩⟩
              have := of_decide_eq_false HC2.out
              rw [HTK.out, List.foldl_append, HI.out.1]
              simp [stp, this]
            case measure => simp [intOf]; omega
          | true =>
            clear a0 a1 a2 a3 a4 a5 a6
            go_upto_region 9 with fail
            go_upto_region 10 with (at_builtin; refine wpList_append_ent _ rfl _ _ rfl (w.heap.size + 1) e HO8.out rfl rfl (by simp) (by omega) hs8 ?_; intro v' w9 hO9 hB9)
            have HB9 := Lib.hid (HB8.out.trans hB9)
            obtain ⟨⟨a0, a1, a2, a3, a4, a5, a6⟩, -⟩ := HF.out _ HB9.out
            have hs9 : w.heap.size + 1 ≤ w9.heap.size := by have := HB9.out.size; omega
            clear b0 b1 b2 b3 b4 b5 b6
            go_wp2_with (at_builtin; refine wpList_append_ent _ rfl _ _ rfl (w.heap.size + 1) x hO9 rfl rfl (by simp) (by simp; omega) hs9 ?_; intro v'' w10 hO10 hB10)
            go_roundw
            case rel =>
              refine ⟨k + 1, (o ++ [e] ++ [x], true), by omega, by go_num, rfl, hO10, HB9.out.trans hB10, Lib.hid ⟨?_, HK.out⟩⟩
              have := of_decide_eq_true HC2.out
              rw [HTK.out, List.foldl_append, HI.out.1]
              simp [stp, this]
            case measure => simp [intOf]; omega
    · obtain rfl : k = n := by omega
      have hall : ∀ x ∈ r, x.key ≠ e.key := fun x hx => by
        obtain ⟨i, hi⟩ := List.getElem?_of_mem hx
        exact HI.out.2 i x (by have := (List.getElem?_eq_some_iff.1 hi).1; have := HN.out; omega) hi
      have hfold := HI.out.1
      rw [List.take_of_length_le (by have := HN.out; omega)] at hfold
      have hins := fold_ins e r []
      rw [hfold] at hins
      have HALL := Lib.hid hall
      have HINS := Lib.hid hins
      have HB8 := Lib.hid hB
      obtain ⟨-, b0, b1, b2, b3, b4, b5, b6⟩ : True ∧ _ := ⟨trivial, ent_cells HT'.out⟩
      clear hall hfold hins hr
      cases a with
      | true =>
        go_wp2_with fail
        go_ret3
        refine ⟨TOX.out _ HB8.out, .inr ⟨HALL.out, _, rfl, ?_⟩⟩
        have h1 : o = insE e r := by have := HINS.out; simpa [finE] using this
        rw [← h1]
        exact hO.at
      | false =>
        go_wp2_with (at_builtin; refine wpList_append_ent _ rfl _ _ rfl (w.heap.size + 1) e hO rfl rfl (by simp) (by omega) hsz ?_; intro v' w9 hO9 hB9)
        go_ret3
        refine ⟨TOX.out _ (HB8.out.trans hB9), .inr ⟨HALL.out, _, rfl, ?_⟩⟩
        have h1 : o ++ [e] = insE e r := by have := HINS.out; simpa [finE] using this
        rw [← h1]
        exact hO9.at
end Go.Proofs.Ytjdbhemojopnlaa
