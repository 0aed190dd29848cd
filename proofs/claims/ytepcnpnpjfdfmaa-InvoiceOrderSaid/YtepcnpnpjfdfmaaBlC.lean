/- Chapter 53: lines compared; a set of entries. -/
import Derived.Test.YtepcnpnpjfdfmaaBlB
namespace Go.Proofs.Ytepcnpnpjfdfmaa
open Go.RowKit Go.Maps
theorem list_ext_uptoL {α : Type} {es fs : List α} {n : Nat} (h1 : es.length = n) (h2 : fs.length = n) (h : ∀ i, i < n → es[i]? = fs[i]?) : es = fs := by
  apply List.ext_getElem?
  intro i
  by_cases hi : i < n
  · exact h i hi
  · rw [List.getElem?_eq_none (by omega), List.getElem?_eq_none (by omega)]
def eqL (a b c d a' b' c' d' : Int) : Bool := decide (Ln.mk a b c d = Ln.mk a' b' c' d')
theorem eqL_ln (x y : Ln) : eqL x.t x.h x.b x.c y.t y.h y.b y.c = decide (x = y) := rfl
set_option maxRecDepth 100000 in
theorem equal_ln (a b c d a' b' c' d' : Int) (w : World) :
    (Op.equalIn 10000 61 (.agg #[.int .i64 a, .int .i64 b, .int .i64 c, .int .i64 d]) (.agg #[.int .i64 a', .int .i64 b', .int .i64 c', .int .i64 d'])).run Try.prog w = .ok (eqL a b c d a' b' c' d') w := by
  have h : eqL a b c d a' b' c' d' = ((a == a') && ((b == b') && ((c == c') && (d == d')))) := by
    unfold eqL
    rw [Bool.eq_iff_iff]
    simp only [decide_eq_true_eq, Ln.mk.injEq, Bool.and_eq_true, beq_iff_eq]
  rw [h]
  go_simp
  repeat' split
  all_goals simp_all
attribute [local go_sem 2000] equal_ln
theorem LnAt.parts {w : World} {v : Value} {es : List Ln} (h : LnAt w v es) : ∃ A cap, v = .slice A es.length cap ∧ (0 < es.length → ∃ g, A = some ⟨g, 0, none⟩ ∧ ∀ i e, es[i]? = some e → ∀ j u, e.cs[j]? = some u → w.cell? ⟨g, i * 4 + j, none⟩ = some u) := by
  rcases h with ⟨rfl, rfl⟩ | ⟨g, cap, hv, hc⟩
  · exact ⟨none, 0, rfl, fun h => absurd h (by simp)⟩
  · exact ⟨_, cap, hv, fun _ => ⟨g, rfl, hc⟩⟩
theorem cellsL {w : World} {g o : Nat} {e : Ln} (h : ∀ j u, e.cs[j]? = some u → w.cell? ⟨g, o + j, none⟩ = some u) : w.cell? ⟨g, o, none⟩ = some (.int .i64 e.t) ∧ w.cell? ⟨g, o + 1, none⟩ = some (.int .i64 e.h) ∧ w.cell? ⟨g, o + 2, none⟩ = some (.int .i64 e.b) ∧
    w.cell? ⟨g, o + 3, none⟩ = some (.int .i64 e.c) :=
  ⟨h 0 _ rfl, h 1 _ rfl, h 2 _ rfl, h 3 _ rfl⟩
set_option maxRecDepth 100000 in
set_option maxHeartbeats 1000000 in
theorem lines_same {w : World} {v u : Value} {es fs : List Ln} (h : LnAt w v es) (k : LnAt w u fs) (hn : es.length ≤ 1000) :
    Calls Try.prog 24 #[v, u] w fun e w' => e = .returned (.bool (decide (es = fs))) ∧ Ext w w' := by
  obtain ⟨A, cap, rfl, hr⟩ := h.parts
  obtain ⟨A', cap', rfl, hr'⟩ := k.parts
  clear h k
  obtain ⟨n, hxn⟩ : ∃ n, es.length = n := ⟨_, rfl⟩
  obtain ⟨m, hxm⟩ : ∃ m, fs.length = m := ⟨_, rfl⟩
  have HN := Lib.hid hxn
  have HM := Lib.hid hxm
  by_cases hnm : n = m
  · subst hnm
    rw [hxn] at hn hr ⊢
    rw [hxm] at hr' ⊢
    clear hxn hxm
    have hne : ((n : Int) == (n : Int)) = true := by simp
    go_enter Try.func24, Try.ntmps24
    go_wp2_with fail
    go_loopw [13] (fun i wr => ∃ k : Nat, k ≤ n ∧ i = .int .i64 k ∧ Ext w wr ∧ Hid (∀ i, i < k → es[i]? = fs[i]?)) (fun i _ => n - (intOf i).toNat)
    case atStart => exact ⟨0, by omega, rfl, Ext.refl w, Lib.hid (fun i hi => by omega)⟩
    case round =>
      obtain ⟨k, hk, rfl, hX, HI⟩ := hrel
      by_cases hlt : k < n
      · obtain ⟨g, rfl, hg⟩ := hr (by omega)
        obtain ⟨g', rfl, hg'⟩ := hr' (by omega)
        obtain ⟨x, hx⟩ : ∃ x, es[k]? = some x := ⟨es[k]'(by rw [HN.out]; exact hlt), by simp⟩
        obtain ⟨y, hy⟩ : ∃ y, fs[k]? = some y := ⟨fs[k]'(by rw [HM.out]; exact hlt), by simp⟩
        have hki : (k : Int) < (n : Int) := by omega
        have hk6 : (k : Int) < 1001 := by omega
        have a := fun q => cellsL (w := wr.drewN q) (fun j u hj => ((hX.drewN q).cell (hg k x hx j u hj)))
        have b := fun q => cellsL (w := wr.drewN q) (fun j u hj => ((hX.drewN q).cell (hg' k y hy j u hj)))
        have a0 := fun q => (a q).1
        have a1 := fun q => (a q).2.1
        have a2 := fun q => (a q).2.2.1
        have a3 := fun q => (a q).2.2.2
        have b0 := fun q => (b q).1
        have b1 := fun q => (b q).2.1
        have b2 := fun q => (b q).2.2.1
        have b3 := fun q => (b q).2.2.2
        clear a b
        have HXY := Lib.hid (And.intro hx hy)
        obtain ⟨c, hc⟩ : ∃ c, eqL x.t x.h x.b x.c y.t y.h y.b y.c = c := ⟨_, rfl⟩
        have HC : Hid (c = decide (x = y)) := Lib.hid (hc.symm.trans (eqL_ln x y))
        clear hr hr' hg hg' hx hy
        go_upto_region 6 with fail
        refine wp_region_quiet_lit (by kernel_rfl) (by kernel_rfl) ?_
        repeat (go_big_quiet_step (fail))
        refine wpQuiet_nil ?_
        rintro _ ⟨nq, rfl⟩
        cases c with
        | true =>
          go_wp2_with fail
          go_roundw
          case rel =>
            refine ⟨k + 1, by omega, by go_num, hX.drewN _, Lib.hid (fun i hi => ?_)⟩
            by_cases e : i = k
            · subst e
              have := HC.out
              simp at this
              rw [HXY.out.1, HXY.out.2, this]
            · exact HI.out i (by omega)
          case measure => simp [intOf]; omega
        | false =>
          go_wp2_with fail
          go_ret
          refine ⟨ret_bool ?_, hX.drewN _⟩
          have h1 := HC.out
          have h2 : es ≠ fs := fun e => by
            rw [e, HXY.out.2] at HXY
            have := HXY.out.1
            simp at h1
            exact h1 (by simpa using this.symm)
          simp [h2]
      · obtain rfl : k = n := by omega
        go_wp2_with fail
        go_ret
        exact ⟨ret_bool (by simp [list_ext_uptoL HN.out HM.out HI.out]), hX⟩
  · rw [hxn, hxm]
    have h2 : es ≠ fs := fun e => hnm (by rw [← hxn, ← hxm, e])
    have hne : ((n : Int) == (m : Int)) = false := by simp; omega
    rw [hxn] at hn
    clear hr hr' hxn hxm
    go_enter Try.func24, Try.ntmps24
    go_wp2_with fail
    go_ret
    exact ⟨ret_bool (by simp [h2]), Ext.refl w⟩
/-! a set of entries -/
theorem add7 (g off : Nat) (m : Nat) : ((⟨g, off, none⟩ : Addr).add m) = ⟨g, off + m, none⟩ := by
  cases m with
  | zero => rfl
  | succ m => rfl
theorem EnsAt.arg {w : World} {v : Value} {es : List Ent} (h : EnsAt w v es) : EnsArg w v es := by
  rcases h with ⟨rfl, rfl⟩ | ⟨g, off, cap, rfl, hc⟩
  · exact ⟨none, 0, rfl, fun h => absurd h (by simp)⟩
  · refine ⟨_, cap, rfl, fun _ => ⟨_, rfl, fun i e he => ?_⟩⟩
    rw [add7]
    exact cells7 (fun j u hj => hc i e he j u hj)
set_option maxRecDepth 100000 in
set_option maxHeartbeats 1000000 in
theorem set_any {v : Value} {es : List Ent} (w : World) (h : EnsArg w v es) (hty : ∀ x ∈ es, x.typed) (hl : es.length ≤ 1000) :
    Calls Try.prog 21 #[v] w fun e w' => e = .returned (.pointer (some ⟨w.heap.size + 1, 0, none⟩)) ∧ Ext w w' ∧ SetAt w' (w.heap.size + 1) w.heap.size (es.foldl putL []) := by
  obtain ⟨A, cap, rfl, hr⟩ := h
  obtain ⟨n, hxn⟩ : ∃ n, es.length = n := ⟨_, rfl⟩
  have HN := Lib.hid hxn
  have HTY := Lib.hid hty
  rw [hxn] at hl hr ⊢
  clear hxn hty
  obtain ⟨q, hq⟩ : ∃ q, w.heap.size + 1 = q := ⟨_, rfl⟩
  obtain ⟨b, hb⟩ : ∃ b, w.heap.size = b := ⟨_, rfl⟩
  have HNEW : Hid (Calls Try.prog 38 #[] w fun e w' => e = .returned (.pointer (some ⟨q, 0, none⟩)) ∧ Ext w w' ∧ SetAt w' q b []) := Lib.hid (by rw [← hq, ← hb]; exact new_set w)
  have HB := Lib.hid (show w.heap.size ≤ b by omega)
  rw [hq, hb]
  clear hq hb
  go_enter Try.func21, Try.ntmps21
  go_wp2_with (go_at_call 38; refine HNEW.out.mono ?_; rintro e w2 ⟨rfl, hx2, hS2⟩)
  go_loopw [9] (fun i wr => ∃ (k : Nat), k ≤ n ∧ i = .int .i64 k ∧ Hid (Ext w wr ∧ SetAt wr q b ((es.take k).foldl putL []))) (fun i _ => n - (intOf i).toNat)
  case atStart => exact ⟨0, by omega, rfl, Lib.hid ⟨hx2, by simpa using hS2⟩⟩
  case round =>
    obtain ⟨k, hk, rfl, HR⟩ := hrel
    by_cases hlt : k < n
    · obtain ⟨ad, rfl, hg⟩ := hr (by omega)
      obtain ⟨x, hx⟩ : ∃ x, es[k]? = some x := ⟨es[k]'(by rw [HN.out]; exact hlt), by simp⟩
      have hki : (k : Int) < (n : Int) := by omega
      have hk6 : (k : Int) < 1001 := by omega
      have HXT := Lib.hid (HTY.out x (List.mem_of_getElem? hx))
      have HTK : Hid (es.take (k + 1) = es.take k ++ [x]) := Lib.hid (by rw [List.take_add_one, hx]; rfl)
      obtain ⟨a0, a1, a2, a3, a4, a5, a6⟩ := (hg k x hx).ext HR.out.1
      clear hg hx hr
      go_upto_region 5 with fail
      obtain ⟨wa, hwa⟩ : ∃ wa, wa = wr.alloc (.cells x.cs.toArray 86) := ⟨_, rfl⟩
      have XA : Ext wr wa := by rw [hwa]; exact (Ext.refl wr).alloc _
      have HT : Hid (RowB wa wr.heap.size 86 x.cs) := Lib.hid (by rw [hwa]; exact row_laid _ _ _)
      simp only [Ent.cs] at hwa
      rw [← hwa]
      clear hwa a0 a1 a2 a3 a4 a5 a6
      obtain ⟨t0, t1, t2, t3, t4, t5, t6⟩ := ent_cells HT.out
      have HP : Hid (Calls Try.prog 39 #[.pointer (some ⟨q, 0, none⟩), .agg #[.string x.nd, .int .i64 x.bt, .int .i64 x.sq, .int .i64 x.tn, .int .i64 x.ht, .int .i64 x.by_, .int .i64 x.at_]] wa fun e w' => ∃ is bad, e = .returned (.tuple #[.bool is, bad]) ∧ Ext w w' ∧ SetAt w' q b ((es.take (k + 1)).foldl putL [])) := Lib.hid ((put_any q b ((es.take k).foldl putL []) x wa (HR.out.2.ext XA) HXT.out).mono (by
        rintro e w' ⟨is, bad, rfl, hg, hS, _⟩
        rw [HTK.out, List.foldl_append]
        exact ⟨is, bad, rfl, (HR.out.1.trans XA).grownB hg HB.out, hS⟩))
      clear XA
      go_wp2_with (go_at_call 39; refine HP.out.mono ?_; rintro e w3 ⟨is, bad, rfl, hx3, hS3⟩)
      go_roundw
      case rel => exact ⟨k + 1, by omega, by go_num, Lib.hid ⟨hx3, hS3⟩⟩
      case measure => simp [intOf]; omega
    · obtain rfl : k = n := by omega
      obtain ⟨hxr, hS⟩ := HR.out
      rw [List.take_of_length_le (by have := HN.out; omega)] at hS
      go_wp2_with fail
      go_ret
      exact ⟨rfl, hxr, hS⟩
/-- a list that List handed back, and its parts -/
theorem list_parts {w : World} {v : Value} {B : Nat} {r : List Ent} (h : EnsAt w v r) (hf : FreshV B v) : ∃ A cap, v = .slice A r.length cap ∧ r.length ≤ cap ∧ (cap : Int) ≤ 9223372036854775807 ∧
    ∀ W, Ext w W → ∀ k, k ≤ r.length → EnsArg W (.slice (if cap = k then A else A.map (·.add (k * 7))) (r.length - k) (cap - k)) (r.drop k) ∧ EnsArg W (.slice A k cap) (r.take k) := by
  rcases h with ⟨rfl, rfl⟩ | ⟨g, off, cap, rfl, hc⟩
  · refine ⟨none, 0, rfl, by simp, by simp, fun W _ k hk => ?_⟩
    obtain rfl : k = 0 := by simpa using hk
    exact ⟨⟨_, _, rfl, fun h => absurd h (by simp)⟩, ⟨_, _, rfl, fun h => absurd h (by simp)⟩⟩
  · obtain ⟨-, h1, h2⟩ := hf _ _ _ rfl
    refine ⟨_, cap, rfl, h1, by unfold maxLen at h2; omega, fun W hW k hk => ⟨?_, ?_⟩⟩
    · refine ⟨_, _, by rw [List.length_drop], fun hl => ?_⟩
      rw [List.length_drop] at hl
      rw [if_neg (by omega)]
      refine ⟨_, rfl, fun i e he => ?_⟩
      show Arg7 W (((⟨g, off, none⟩ : Addr).add (k * 7)).add (i * 7)) e
      rw [add7, add7]
      rw [List.getElem?_drop] at he
      refine cells7 (fun j u hj => ?_)
      rw [← hW.cell (hc (k + i) e he j u hj)]
      congr 2
      omega
    · refine ⟨_, _, by rw [List.length_take, Nat.min_eq_left hk], fun hl => ⟨_, rfl, fun i e he => ?_⟩⟩
      rw [add7]
      have hi := (List.getElem?_eq_some_iff.1 he).1
      rw [List.length_take] at hi
      rw [List.getElem?_take_of_lt (by omega)] at he
      exact cells7 (fun j u hj => hW.cell (hc i e he j u hj))
theorem foldp_len (es L : List Ent) : (es.foldl putL L).length ≤ L.length + es.length := by
  induction es generalizing L with
  | nil => simp
  | cons x es ih =>
    have h1 := ih (putL L x)
    have h2 := putL_len L x
    simp only [List.foldl_cons, List.length_cons]
    omega
theorem foldp_mem {U : List Ent} (hc : Coh U) : ∀ (xs L : List Ent), (∀ z ∈ xs, z ∈ U) → (∀ z ∈ L, z ∈ U) → ∀ z, z ∈ xs.foldl putL L ↔ z ∈ L ∨ z ∈ xs
  | [], L, _, _, z => by simp
  | x :: xs, L, h1, h2, z => by
    have hx := h1 x (by simp)
    have hf := hc.fits h2 hx
    have ih := foldp_mem hc xs (putL L x) (fun z hz => h1 z (by simp [hz])) (fun z hz => ((putL_mem hf z).1 hz).elim (h2 z) (fun e => e ▸ hx)) z
    rw [List.foldl_cons, ih, putL_mem hf, List.mem_cons, or_assoc]
end Go.Proofs.Ytepcnpnpjfdfmaa
