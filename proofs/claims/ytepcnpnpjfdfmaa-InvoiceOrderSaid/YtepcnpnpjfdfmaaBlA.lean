/- Chapter 53: the lines of a bill, in memory and as plain functions. -/
import Derived.Test.YtepcnpnpjfdfmaaGD
import Derived.Test.YtepcnpnpjfdfmaaLaw53S
namespace Go.Proofs.Ytepcnpnpjfdfmaa
open Go.RowKit Go.Maps
structure Ln where
  t : Int
  h : Int
  b : Int
  c : Int
deriving DecidableEq, Inhabited
def Ln.cs (g : Ln) : List Value := [.int .i64 g.t, .int .i64 g.h, .int .i64 g.b, .int .i64 g.c]
def LnAt (w : World) (v : Value) (gs : List Ln) : Prop :=
  (v = .slice none 0 0 ∧ gs = []) ∨ ∃ g cap, v = .slice (some ⟨g, 0, none⟩) gs.length cap ∧ ∀ i e, gs[i]? = some e → ∀ j u, e.cs[j]? = some u → w.cell? ⟨g, i * 4 + j, none⟩ = some u
theorem LnAt.ext {w w' : World} {v : Value} {gs : List Ln} (h : LnAt w v gs) (hx : Ext w w') : LnAt w' v gs := by
  rcases h with h | ⟨g, cap, hv, hc⟩
  · exact .inl h
  · exact .inr ⟨g, cap, hv, fun i e he j u hj => hx.cell (hc i e he j u hj)⟩
def LnOwn (w : World) (B : Nat) (v : Value) (gs : List Ln) : Prop := w.ownsRow B 61 4 v gs.length (gs.flatMap Ln.cs)
theorem LnOwn.nil (w : World) (B : Nat) : LnOwn w B (.slice none 0 0) [] := World.ownsRow_nil _ _ _ _
theorem ln_flat : ∀ (xs : List Ln) (i : Nat) (e : Ln), xs[i]? = some e → ∀ j, j < 4 → (xs.flatMap Ln.cs)[i * 4 + j]? = e.cs[j]?
  | [], i, e, h, _, _ => by simp at h
  | x :: r, 0, e, h, j, hj => by
    simp at h
    subst h
    simp only [List.flatMap_cons, Nat.zero_mul, Nat.zero_add]
    rw [List.getElem?_append_left (by simpa [Ln.cs] using hj)]
  | x :: r, i + 1, e, h, j, hj => by
    simp only [List.getElem?_cons_succ] at h
    simp only [List.flatMap_cons]
    have h4 : x.cs.length = 4 := rfl
    rw [List.getElem?_append_right (by omega), h4, show (i + 1) * 4 + j - 4 = i * 4 + j by omega]
    exact ln_flat r i e h j hj
theorem LnOwn.at {w : World} {b : Nat} {v : Value} {gs : List Ln} (h : LnOwn w b v gs) : LnAt w v gs := by
  rcases h.2 with ⟨hv, h0⟩ | ⟨g, cap, cur, hv, hb, hg, h1, h2, h3, h4⟩
  · exact .inl ⟨hv, List.length_eq_zero_iff.1 h0⟩
  · refine .inr ⟨g, cap, hv, fun i e he j u hj => ?_⟩
    have hj4 : j < 4 := by have := (List.getElem?_eq_some_iff.1 hj).1; simpa [Ln.cs] using this
    have hi := (List.getElem?_eq_some_iff.1 he).1
    rw [cell_of_row w g _ cur _ _ hg]
    have e1 := ln_flat gs i e he j hj4
    rw [← h4, List.getElem?_take_of_lt (by omega), hj] at e1
    simpa using e1
theorem ln_base {w : World} {B : Nat} {v : Value} {gs : List Ln} (h : LnOwn w B v gs) : ∀ k, v.ownBlock = some k → B ≤ k := by
  intro k hk
  rcases h.2 with ⟨rfl, _⟩ | ⟨g, cap, cur, rfl, hb, _⟩
  · simp [Value.ownBlock] at hk
  · simp [Value.ownBlock] at hk; omega
theorem LnOwn.kept {w w' : World} {B : Nat} {v : Value} {gs : List Ln} (h : LnOwn w B v gs) {o : Option Nat} (hg : w.grownBy w' o) (hB : ∀ k, o = some k → k < B) : LnOwn w' B v gs := World.ownsRow.kept h hg (by
  rcases h.2 with ⟨rfl, _⟩ | ⟨g, cap, cur, rfl, hb, _⟩
  · exact .inl rfl
  · refine .inr (fun e => ?_)
    simp only [Value.ownBlock] at e
    have := hB g e.symm
    omega)
theorem line_info : (Try.prog.info? 61).map (fun i => (i.zero, i.size, i.bytes)) = some (some (.agg #[.int .i64 0, .int .i64 0, .int .i64 0, .int .i64 0]), 4, 32) := by kernel_rfl
theorem wpList_append_line (w : World) {ops : Array Oper} {rest : List Oper} {o : Oper} {a : Act} {Q : Exit → Act → World → Prop} (hg : o.guard = none) (s x : Operand)
    (ho : o.op = .call { callee := .builtin .append, args := #[s, x], argTypes := #[56, 56] }) (B : Nat) {v : Value} {es : List Ln} (e : Ln) (hown : LnOwn w B v es) (hs : a.eval s = v)
    {G : Nat} (hx : a.eval x = .slice (some ⟨G, 0, none⟩) 1 1) (hG : G = w.heap.size) (hlen : es.length ≤ 100000) (hB : B ≤ w.heap.size)
    (h : ∀ v' w', LnOwn w' B v' (es ++ [e]) → Below B w w' → (∀ j, j < w.heap.size → some j ≠ v.ownBlock → w'.heap[j]? = w.heap[j]?) → wpList Try.prog ops Q rest (a.put o.dst v') w') :
    wpList Try.prog ops Q (o :: rest) a (w.alloc (.cells #[.int .i64 e.t, .int .i64 e.h, .int .i64 e.b, .int .i64 e.c] 61)) := by
  subst hG
  obtain ⟨i0, hi0, hz0, hz1, hz2⟩ := info_parts line_info
  refine wpList_append_own _ hg s x 56 ho B 61 i0 _ 4 32 Try.underlying56 hi0 hz0 hz1 hz2 rfl (by decide) v es.length _ hs (hown.kept (World.grownBy_alloc w _ none) (fun k e => by cases e)) ⟨w.heap.size, 0, none⟩ 1 1 e.cs hx rfl (cells_new _ _ _) (by simp [Ln.cs, Value.oneCell']) (by unfold maxLen; omega) (by omega) (by simp; omega) ?_
  intro v' w1 hown' hgrow _
  refine h v' w1 ?_ ?_ (fun j hj hn => (hgrow.block j (by simp; omega) hn).trans ((MapKept.heap_alloc w _).2 j hj))
  · unfold LnOwn
    rw [List.length_append, List.flatMap_append]
    simpa using hown'
  · exact Below.grown (Below.alloc (Below.refl _ _) hB _) hgrow (by simp; omega) (ln_base hown)
theorem wp_append_line (w : World) {o : Oper} {a : Act} {K : Act → World → Prop} {Q : Exit → Act → World → Prop} (s x : Operand)
    (ho : o.op = .call { callee := .builtin .append, args := #[s, x], argTypes := #[56, 56] }) (B : Nat) {v : Value} {es : List Ln} (e : Ln) (hown : LnOwn w B v es) (hs : a.eval s = v)
    {G : Nat} (hx : a.eval x = .slice (some ⟨G, 0, none⟩) 1 1) (hG : G = w.heap.size) (hlen : es.length ≤ 100000) (hB : B ≤ w.heap.size)
    (h : ∀ v' w', LnOwn w' B v' (es ++ [e]) → Below B w w' → (∀ j, j < w.heap.size → some j ≠ v.ownBlock → w'.heap[j]? = w.heap[j]?) → K (a.put o.dst v') w') :
    o.wp Try.prog a (w.alloc (.cells #[.int .i64 e.t, .int .i64 e.h, .int .i64 e.b, .int .i64 e.c] 61)) K Q := by
  subst hG
  obtain ⟨i0, hi0, hz0, hz1, hz2⟩ := info_parts line_info
  obtain ⟨v', w1, hrun, hown', hgrow, _⟩ := run_append_own (P := Try.prog) (w.alloc (.cells e.cs.toArray 61)) B 56 o.type 61 i0 _ 4 32 Try.underlying56 hi0 hz0 hz1 hz2 rfl (by decide) v es.length _ (hown.kept (World.grownBy_alloc w _ none) (fun k e => by cases e)) ⟨w.heap.size, 0, none⟩ 1 1 e.cs rfl (cells_new _ _ _) (by simp [Ln.cs, Value.oneCell']) (by unfold maxLen; omega) (by omega) (by simp; omega)
  simp only [Ln.cs] at hrun
  unfold Oper.wp
  simp [execOp, ho, resolve, invoke, builtin, hs, hx, hrun, Result.andThen]
  refine h v' w1 ?_ ?_ (fun j hj hn => (hgrow.block j (by simp; omega) hn).trans ((MapKept.heap_alloc w _).2 j hj))
  · unfold LnOwn
    rw [List.length_append, List.flatMap_append]
    simpa using hown'
  · exact Below.grown (Below.alloc (Below.refl _ _) hB _) hgrow (by simp; omega) (ln_base hown)
/-! the charge as a function -/
theorem ChgP.ex (n : Nat) (unit hit least : Int) (up pr : Nat → Int) (h b : Int) : ∃ p : Int × Int, ChgP n unit hit least up pr h b p.1 p.2 := by
  unfold ChgP
  by_cases hk : okTar n unit hit least up pr
  · by_cases h1 : 1099511627776 < h ∨ 1099511627776 < b
    · exact ⟨(0, 5), .inr (.inl ⟨hk, h1, rfl, rfl⟩)⟩
    · by_cases h2 : h ≤ 0 ∧ b ≤ 0
      · exact ⟨(0, 0), .inr (.inr (.inl ⟨hk, h2.1, h2.2, rfl, rfl⟩))⟩
      · rcases Nat.lt_or_ge 1125899906842624 (ceilD (cost n unit hit up pr (max h 0) (max b 0)) (unit.toNat * 1000000)) with h3 | h3
        · exact ⟨(0, 5), .inr (.inr (.inr (.inl ⟨hk, by omega, by omega, by omega, h3, rfl, rfl⟩)))⟩
        · exact ⟨(_, 0), .inr (.inr (.inr (.inr ⟨hk, by omega, by omega, by omega, h3, rfl, rfl⟩)))⟩
  · exact ⟨(0, 2), .inl ⟨hk, rfl, rfl⟩⟩
noncomputable def chg (n : Nat) (unit hit least : Int) (up pr : Nat → Int) (h b : Int) : Int × Int := Classical.choose (ChgP.ex n unit hit least up pr h b)
theorem chg_is (n : Nat) (unit hit least : Int) (up pr : Nat → Int) (h b : Int) : ChgP n unit hit least up pr h b (chg n unit hit least up pr h b).1 (chg n unit hit least up pr h b).2 := Classical.choose_spec (ChgP.ex n unit hit least up pr h b)
theorem chg_eq {n : Nat} {unit hit least : Int} {up pr : Nat → Int} {h b c code : Int} (k : ChgP n unit hit least up pr h b c code) : c = (chg n unit hit least up pr h b).1 ∧ code = (chg n unit hit least up pr h b).2 := k.uniq (chg_is ..)
theorem chg_bd (n : Nat) (unit hit least : Int) (up pr : Nat → Int) (h b : Int) : 0 ≤ (chg n unit hit least up pr h b).1 ∧ (chg n unit hit least up pr h b).1 ≤ 1125899906842624 := by
  have k := chg_is n unit hit least up pr h b
  unfold ChgP at k
  rcases k with ⟨-, h1, -⟩ | ⟨-, -, h1, -⟩ | ⟨-, -, -, h1, -⟩ | ⟨-, -, -, -, -, h1, -⟩ | ⟨hk, -, -, -, h2, h1, -⟩
  · omega
  · omega
  · omega
  · omega
  · have h3 := hk.2.2.2.2.2.1
    simp [okB] at h3
    omega
theorem charge_f (w : World) (p : Option Addr) (n cap : Nat) (unit hit least : Int) (up pr : Nat → Int) (ht : Tar w p n cap up pr) (hits bytes : Int) :
    Calls Try.prog 15 #[tarV p n cap unit hit least, .int .i64 hits, .int .i64 bytes] w fun e w' => e = .returned (.tuple #[.int .i64 (chg n unit hit least up pr hits bytes).1, errOf (chg n unit hit least up pr hits bytes).2]) ∧ Ext w w' := by
  refine (charge_any w p n cap unit hit least up pr ht hits bytes).mono ?_
  rintro e w' ⟨⟨c, code, hc, rfl⟩, hx⟩
  rw [← (chg_eq hc).1, ← (chg_eq hc).2]
  exact ⟨rfl, hx⟩
theorem rcharge_f (w : World) (p : Option Addr) (n cap : Nat) (unit hit least : Int) (up pr : Nat → Int) (ht : Tar w p n cap up pr) (hits bytes : Int) :
    Calls Try.prog 16 #[tarV p n cap unit hit least, .int .i64 hits, .int .i64 bytes] w fun e w' => e = .returned (.tuple #[.int .i64 (chg n unit hit least up pr hits bytes).1, .int .i64 (chg n unit hit least up pr hits bytes).2]) ∧ Ext w w' := by
  refine (rcharge_any w p n cap unit hit least up pr ht hits bytes).mono ?_
  rintro e w' ⟨⟨c, code, hc, rfl⟩, hx⟩
  rw [← (chg_eq hc).1, ← (chg_eq hc).2]
  exact ⟨rfl, hx⟩
/-! the bill as plain functions: 'hh', 'bb' the sums of a tenant, 'ch' the charge -/
def usd (hh bb : Nat → Int) (t : Nat) : Bool := !(decide (hh t = 0) && decide (bb t = 0))
def lns (hh bb : Nat → Int) (ch : Int → Int → Int × Int) : Nat → List Ln
  | 0 => []
  | k + 1 => lns hh bb ch k ++ if usd hh bb k then [⟨k, hh k, bb k, (ch (hh k) (bb k)).1⟩] else []
def smF (hh bb : Nat → Int) (ch : Int → Int → Int × Int) : Nat → Int
  | 0 => 0
  | k + 1 => smF hh bb ch k + if usd hh bb k then (ch (hh k) (bb k)).1 else 0
def cdF (hh bb : Nat → Int) (ch : Int → Int → Int × Int) : Nat → Int
  | 0 => 0
  | k + 1 => if cdF hh bb ch k ≠ 0 then cdF hh bb ch k else if usd hh bb k then (ch (hh k) (bb k)).2 else 0
theorem lns_succ (hh bb : Nat → Int) (ch : Int → Int → Int × Int) (k : Nat) : lns hh bb ch (k + 1) = lns hh bb ch k ++ if usd hh bb k then [⟨k, hh k, bb k, (ch (hh k) (bb k)).1⟩] else [] := rfl
theorem sm_succ (hh bb : Nat → Int) (ch : Int → Int → Int × Int) (k : Nat) : smF hh bb ch (k + 1) = smF hh bb ch k + if usd hh bb k then (ch (hh k) (bb k)).1 else 0 := rfl
theorem cd_succ (hh bb : Nat → Int) (ch : Int → Int → Int × Int) (k : Nat) : cdF hh bb ch (k + 1) = if cdF hh bb ch k ≠ 0 then cdF hh bb ch k else if usd hh bb k then (ch (hh k) (bb k)).2 else 0 := rfl
theorem lns_len (hh bb : Nat → Int) (ch : Int → Int → Int × Int) : ∀ k, (lns hh bb ch k).length ≤ k
  | 0 => Nat.le_refl _
  | k + 1 => by
    have h := lns_len hh bb ch k
    unfold lns
    split <;> simp <;> omega
theorem sm_bd (hh bb : Nat → Int) (ch : Int → Int → Int × Int) (hc : ∀ h b, 0 ≤ (ch h b).1 ∧ (ch h b).1 ≤ 1125899906842624) : ∀ k : Nat, 0 ≤ smF hh bb ch k ∧ smF hh bb ch k ≤ k * 1125899906842624
  | 0 => by simp [smF]
  | k + 1 => by
    have h := sm_bd hh bb ch hc k
    have h2 := hc (hh k) (bb k)
    unfold smF
    split <;> omega
theorem cd_stays (hh bb : Nat → Int) (ch : Int → Int → Int × Int) {k : Nat} (h : cdF hh bb ch k ≠ 0) : ∀ m, cdF hh bb ch (k + m) = cdF hh bb ch k
  | 0 => rfl
  | m + 1 => by
    have ih := cd_stays hh bb ch h m
    show (if cdF hh bb ch (k + m) ≠ 0 then cdF hh bb ch (k + m) else _) = _
    rw [ih, if_pos h]
end Go.Proofs.Ytepcnpnpjfdfmaa
