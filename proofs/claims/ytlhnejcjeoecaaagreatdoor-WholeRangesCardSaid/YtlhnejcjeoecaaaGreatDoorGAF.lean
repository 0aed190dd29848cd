/- Chapter 09: canonical values (program's field.Value, the reference's kind). Chapter 09: slices of strings. Chapter 09: the parts of a list outside of quotes. Chapter 09: the reference's parts. Chapter 09: the elements of a list. Chapter 09: slices of ranges; the elements of a Range field. Chapter 09: Parse. Chapter 09: the reference's Parse. Chapter 09: ranges compared; the example; the law Parses. Chapter 09: the example; the law Parses. -/
import Derived.Test.YtlhnejcjeoecaaaGreatDoorGAE
import Derived.Handy
import Derived.Laws.AppendOwn
import Derived.Maps.AppendAt
namespace Go.Proofs.YtlhnejcjeoecaaaGreatDoor
open Go.RowKit
set_option maxRecDepth 100000 in
theorem fcontrol_any (s : ByteArray) (hs : (s.size : Int) ≤ 9223372036854775807) (w : World) : Calls Tryz.prog 49 #[.string s] w fun e w' => e = .returned (.bool (!cleanF s)) ∧ w = w' := by
  go_enter Tryz.func49, Tryz.ntmps49
  go_wp2_with fail
  go_loopw [6] (fun i wr => ∃ k : Nat, k ≤ s.size ∧ i = .int .i64 k ∧ w = wr ∧ Hid (∀ i, i < k → ctl (byt s i) = false)) (fun i _ => s.size - (intOf i).toNat)
  case atStart => exact ⟨0, by omega, rfl, rfl, Lib.hid (fun i hi => by omega)⟩
  case round =>
    obtain ⟨k, hk, rfl, rfl, HA⟩ := hrel
    by_cases hlt : k < s.size
    · have hki : (k : Int) < (s.size : Int) := by omega
      obtain ⟨c, hc⟩ : ∃ c, (s[k]'hlt).toNat = c := ⟨_, rfl⟩
      have hcb : byt s k = c := by rw [byt_is hlt]; exact hc
      have HC := Lib.hid hcb
      have HNO := Lib.hid (fun hb => cleanF_no (s := s) hlt hb)
      have HGO : Hid (ctl c = false → ∀ i, i < k + 1 → ctl (byt s i) = false) := Lib.hid (fun hcf i hi => by
        by_cases e : i = k
        · subst e; rw [HC.out]; exact hcf
        · exact HA.out i (by omega))
      clear hcb
      have hcs : (c < 32 ∧ c ≠ 9) ∨ (c < 32 ∧ c = 9) ∨ (32 ≤ c ∧ c = 127) ∨ (32 ≤ c ∧ c ≠ 127) := by omega
      rcases hcs with ⟨h1, h2⟩ | ⟨h1, h2⟩ | ⟨h1, h2⟩ | ⟨h1, h2⟩
      · have HR : Hid (ctl c = true) := Lib.hid (by unfold ctl; simp [h1, h2])
        have h1' : (c : Int) < 32 := by omega
        have h2' : ((c : Int) != 9) = true := by simp; omega
        clear h1 h2
        go_wp2_with fail
        go_ret
        exact ⟨by rw [HNO.out (by rw [HC.out]; exact HR.out)]; rfl, rfl⟩
      · have HR : Hid (ctl c = false) := Lib.hid (by rw [h2]; rfl)
        have h1' : (c : Int) < 32 := by omega
        have h2' : ((c : Int) != 9) = false := by simp; omega
        have h3' : ((c : Int) == 127) = false := by simp; omega
        clear h1 h2
        go_wp2_with fail
        go_roundw
        case rel => exact ⟨k + 1, by omega, by go_num, by first | rfl | trivial, Lib.hid (HGO.out HR.out)⟩
        case measure => simp [intOf]; omega
      · have HR : Hid (ctl c = true) := Lib.hid (by rw [h2]; rfl)
        have h1' : ¬ (c : Int) < 32 := by omega
        have h3' : ((c : Int) == 127) = true := by simp; omega
        clear h1 h2
        go_wp2_with fail
        go_ret
        exact ⟨by rw [HNO.out (by rw [HC.out]; exact HR.out)]; rfl, rfl⟩
      · have HR : Hid (ctl c = false) := Lib.hid (by unfold ctl; simp [h2]; omega)
        have h1' : ¬ (c : Int) < 32 := by omega
        have h3' : ((c : Int) == 127) = false := by simp; omega
        clear h1 h2
        go_wp2_with fail
        go_roundw
        case rel => exact ⟨k + 1, by omega, by go_num, by first | rfl | trivial, Lib.hid (HGO.out HR.out)⟩
        case measure => simp [intOf]; omega
    · obtain rfl : k = s.size := by omega
      have HD : Hid (cleanF s = true) := Lib.hid (decide_eq_true HA.out)
      go_wp2_with fail
      go_ret
      exact ⟨by rw [HD.out]; rfl, rfl⟩
/-- whether a text is a canonical value -/
def kindF (s : ByteArray) : Bool := cleanF s && decide (trimF s = s ∧ s.size ≤ 2048)
theorem kind_dirty {s : ByteArray} (h : cleanF s = false) : kindF s = false := by unfold kindF; rw [h]; rfl
theorem kind_long {s : ByteArray} (h : 2048 < (trimF s).size) : kindF s = false := by
  unfold kindF
  rw [Bool.and_eq_false_iff, decide_eq_false_iff_not]
  refine .inr fun hh => ?_
  rw [hh.1] at h
  omega
theorem kind_same {s : ByteArray} (h : cleanF s = true) (h2 : ¬ 2048 < (trimF s).size) (h3 : trimF s = s) : kindF s = true := by
  unfold kindF
  rw [h, Bool.true_and, decide_eq_true_iff]
  rw [h3] at h2
  exact ⟨h3, by omega⟩
theorem kind_other {s : ByteArray} (h3 : trimF s ≠ s) : kindF s = false := by
  unfold kindF
  rw [Bool.and_eq_false_iff, decide_eq_false_iff_not]
  exact .inr fun hh => h3 hh.1
set_option maxRecDepth 100000 in
theorem fvalue_any (s : ByteArray) (hs : s.size ≤ 100000) (w : World) : Calls Tryz.prog 29 #[.string s] w fun e w' => (∃ v ev, e = .returned (.tuple #[.string v, ev]) ∧ Hid ((kindF s = true ∧ v = s ∧ ev = .nilIface) ∨ (kindF s = false ∧ (ev = errV 2 ∨ ev = errV 5 ∨ (ev = .nilIface ∧ v ≠ s))))) ∧ Ext w w' := by
  have HC := Lib.hid (fun W => fcontrol_any s (by omega) W)
  have HT := Lib.hid (fun W => strim_any s (by omega) W)
  cases hc : cleanF s with
  | false =>
    have HK := Lib.hid (kind_dirty hc)
    rw [hc] at HC
    clear hc
    go_enter Tryz.func29, Tryz.ntmps29
    go_wp2_with (go_at_call 49; refine (HC.out _).mono ?_; rintro e w1 ⟨rfl, rfl⟩)
    go_returns
    exact ⟨⟨_, _, rfl, Lib.hid (.inr ⟨HK.out, .inl rfl⟩)⟩, Ext.refl _⟩
  | true =>
    have HCC := Lib.hid hc
    rw [hc] at HC
    obtain ⟨y, hy⟩ : ∃ y, trimF s = y := ⟨_, rfl⟩
    have HY := Lib.hid hy
    rw [hy] at HT
    clear hc hy
    by_cases h1 : 2048 < y.size
    · have h1' : (2048 : Int) < (y.size : Int) := by omega
      have HK := Lib.hid (kind_long (s := s) (by rw [HY.out]; exact h1))
      clear h1
      go_enter Tryz.func29, Tryz.ntmps29
      go_wp2_with (first
        | (go_at_call 49; refine (HC.out _).mono ?_; rintro e w1 ⟨rfl, rfl⟩)
        | (go_at_call 50; refine (HT.out _).mono ?_; rintro e w2 ⟨rfl, hx2⟩))
      go_returns
      exact ⟨⟨_, _, rfl, Lib.hid (.inr ⟨HK.out, .inr (.inl rfl)⟩)⟩, hx2⟩
    · have h1' : ¬ (2048 : Int) < (y.size : Int) := by omega
      have HH := Lib.hid h1
      clear h1
      go_enter Tryz.func29, Tryz.ntmps29
      go_wp2_with (first
        | (go_at_call 49; refine (HC.out _).mono ?_; rintro e w1 ⟨rfl, rfl⟩)
        | (go_at_call 50; refine (HT.out _).mono ?_; rintro e w2 ⟨rfl, hx2⟩))
      go_returns
      refine ⟨⟨_, _, rfl, Lib.hid ?_⟩, hx2⟩
      by_cases h3 : trimF s = s
      · exact .inl ⟨kind_same HCC.out (by rw [HY.out]; exact HH.out) h3, by rw [← HY.out]; exact h3, rfl⟩
      · exact .inr ⟨kind_other h3, .inr (.inr ⟨rfl, by rw [← HY.out]; exact h3⟩)⟩
end Go.Proofs.YtlhnejcjeoecaaaGreatDoor
namespace Go.Proofs.YtlhnejcjeoecaaaGreatDoor
open Go.RowKit Go.Maps
def scs (x : ByteArray) : List Value := [.string x]
theorem info_parts {P : Program} {t : TypeId} {z : Option Value} {n b : Nat} (h : (P.info? t).map (fun i => (i.zero, i.size, i.bytes)) = some (z, n, b)) : ∃ i0, P.info? t = some i0 ∧ i0.zero = z ∧ i0.size = n ∧ i0.bytes = b := by
  cases hi : P.info? t with
  | none => rw [hi] at h; simp at h
  | some i0 =>
    rw [hi] at h
    simp only [Option.map_some, Option.some.injEq, Prod.mk.injEq] at h
    exact ⟨i0, rfl, h.1, h.2.1, h.2.2⟩
theorem cells_new (W : World) (t : TypeId) (cs : List Value) : ∀ j u, cs[j]? = some u → (W.alloc (.cells cs.toArray t)).cell? ((⟨W.heap.size, 0, none⟩ : Addr).add j) = some u := by
  intro j u hj
  have h := row_laid W t cs
  have h2 := h.cell hj
  cases j with
  | zero => exact h2
  | succ j => simpa [Addr.add] using h2
def StrsAt (w : World) (v : Value) (gs : List ByteArray) : Prop :=
  (v = .slice none 0 0 ∧ gs = []) ∨ ∃ g cap, v = .slice (some ⟨g, 0, none⟩) gs.length cap ∧ ∀ i e, gs[i]? = some e → ∀ j u, (scs e)[j]? = some u → w.cell? ⟨g, i * 1 + j, none⟩ = some u
theorem StrsAt.ext {w w' : World} {v : Value} {gs : List ByteArray} (h : StrsAt w v gs) (hx : Ext w w') : StrsAt w' v gs := by
  rcases h with h | ⟨g, cap, hv, hc⟩
  · exact .inl h
  · exact .inr ⟨g, cap, hv, fun i e he j u hj => hx.cell (hc i e he j u hj)⟩
def StrOwn (w : World) (B : Nat) (v : Value) (gs : List ByteArray) : Prop := w.ownsRow B 9 1 v gs.length (gs.flatMap scs)
theorem StrOwn.nil (w : World) (B : Nat) : StrOwn w B (.slice none 0 0) [] := World.ownsRow_nil _ _ _ _
theorem str_flat : ∀ (xs : List ByteArray) (i : Nat) (e : ByteArray), xs[i]? = some e → ∀ j, j < 1 → (xs.flatMap scs)[i * 1 + j]? = (scs e)[j]?
  | [], i, e, h, _, _ => by simp at h
  | x :: r, 0, e, h, j, hj => by
    simp at h
    subst h
    simp only [List.flatMap_cons, Nat.zero_mul, Nat.zero_add]
    rw [List.getElem?_append_left (by simpa [scs] using hj)]
  | x :: r, i + 1, e, h, j, hj => by
    simp only [List.getElem?_cons_succ] at h
    simp only [List.flatMap_cons]
    have h4 : (scs x).length = 1 := rfl
    rw [List.getElem?_append_right (by omega), h4, show (i + 1) * 1 + j - 1 = i * 1 + j by omega]
    exact str_flat r i e h j hj
theorem StrOwn.at {w : World} {b : Nat} {v : Value} {gs : List ByteArray} (h : StrOwn w b v gs) : StrsAt w v gs := by
  rcases h.2 with ⟨hv, h0⟩ | ⟨g, cap, cur, hv, hb, hg, h1, h2, h3, h4⟩
  · exact .inl ⟨hv, List.length_eq_zero_iff.1 h0⟩
  · refine .inr ⟨g, cap, hv, fun i e he j u hj => ?_⟩
    have hj1 : j < 1 := by have := (List.getElem?_eq_some_iff.1 hj).1; simpa [scs] using this
    have hi := (List.getElem?_eq_some_iff.1 he).1
    rw [cell_of_row w g _ cur _ _ hg]
    have e1 := str_flat gs i e he j hj1
    rw [← h4, List.getElem?_take_of_lt (by omega), hj] at e1
    simpa using e1
theorem str_base {w : World} {B : Nat} {v : Value} {gs : List ByteArray} (h : StrOwn w B v gs) : ∀ k, v.ownBlock = some k → B ≤ k := by
  intro k hk
  rcases h.2 with ⟨rfl, _⟩ | ⟨g, cap, cur, rfl, hb, _⟩
  · simp [Value.ownBlock] at hk
  · simp [Value.ownBlock] at hk; omega
theorem StrOwn.kept {w w' : World} {B : Nat} {v : Value} {gs : List ByteArray} (h : StrOwn w B v gs) {o : Option Nat} (hg : w.grownBy w' o) (hB : ∀ k, o = some k → k < B) : StrOwn w' B v gs := World.ownsRow.kept h hg (by
  rcases h.2 with ⟨rfl, _⟩ | ⟨g, cap, cur, rfl, hb, _⟩
  · exact .inl rfl
  · refine .inr (fun e => ?_)
    simp only [Value.ownBlock] at e
    have := hB g e.symm
    omega)
theorem str_info : (Tryz.prog.info? 9).map (fun i => (i.zero, i.size, i.bytes)) = some (some (.string ByteArray.empty), 1, 16) := by kernel_rfl
theorem wpList_append_str (w : World) {ops : Array Oper} {rest : List Oper} {o : Oper} {a : Act} {Q : Exit → Act → World → Prop} (hg : o.guard = none) (s x : Operand)
    (ho : o.op = .call { callee := .builtin .append, args := #[s, x], argTypes := #[58, 58] }) (B : Nat) {v : Value} {es : List ByteArray} (e : ByteArray) (hown : StrOwn w B v es) (hs : a.eval s = v)
    {G : Nat} (hx : a.eval x = .slice (some ⟨G, 0, none⟩) 1 1) (hG : G = w.heap.size) (hlen : es.length ≤ 200000) (hB : B ≤ w.heap.size)
    (h : ∀ v' w', StrOwn w' B v' (es ++ [e]) → Below B w w' → (∀ j, j < w.heap.size → some j ≠ v.ownBlock → w'.heap[j]? = w.heap[j]?) → wpList Tryz.prog ops Q rest (a.put o.dst v') w') :
    wpList Tryz.prog ops Q (o :: rest) a (w.alloc (.cells #[.string e] 9)) := by
  subst hG
  obtain ⟨i0, hi0, hz0, hz1, hz2⟩ := info_parts str_info
  refine wpList_append_own _ hg s x 58 ho B 9 i0 _ 1 16 Tryz.underlying58 hi0 hz0 hz1 hz2 rfl (by decide) v es.length _ hs (hown.kept (World.grownBy_alloc w _ none) (fun k e => by cases e)) ⟨w.heap.size, 0, none⟩ 1 1 (scs e) hx rfl (cells_new _ _ _) (by simp [scs, Value.oneCell']) (by unfold maxLen; omega) (by omega) (by simp; omega) ?_
  intro v' w1 hown' hgrow _
  refine h v' w1 ?_ ?_ (fun j hj hn => (hgrow.block j (by simp; omega) hn).trans ((MapKept.heap_alloc w _).2 j hj))
  · unfold StrOwn
    rw [List.length_append, List.flatMap_append]
    simpa using hown'
  · exact Below.grown (Below.alloc (Below.refl _ _) hB _) hgrow (by simp; omega) (str_base hown)
theorem wp_append_str (w : World) {o : Oper} {a : Act} {K : Act → World → Prop} {Q : Exit → Act → World → Prop} (s x : Operand)
    (ho : o.op = .call { callee := .builtin .append, args := #[s, x], argTypes := #[58, 58] }) (B : Nat) {v : Value} {es : List ByteArray} (e : ByteArray) (hown : StrOwn w B v es) (hs : a.eval s = v)
    {G : Nat} (hx : a.eval x = .slice (some ⟨G, 0, none⟩) 1 1) (hG : G = w.heap.size) (hlen : es.length ≤ 200000) (hB : B ≤ w.heap.size)
    (h : ∀ v' w', StrOwn w' B v' (es ++ [e]) → Below B w w' → (∀ j, j < w.heap.size → some j ≠ v.ownBlock → w'.heap[j]? = w.heap[j]?) → K (a.put o.dst v') w') :
    o.wp Tryz.prog a (w.alloc (.cells #[.string e] 9)) K Q := by
  subst hG
  obtain ⟨i0, hi0, hz0, hz1, hz2⟩ := info_parts str_info
  obtain ⟨v', w1, hrun, hown', hgrow, _⟩ := run_append_own (P := Tryz.prog) (w.alloc (.cells (scs e).toArray 9)) B 58 o.type 9 i0 _ 1 16 Tryz.underlying58 hi0 hz0 hz1 hz2 rfl (by decide) v es.length _ (hown.kept (World.grownBy_alloc w _ none) (fun k e => by cases e)) ⟨w.heap.size, 0, none⟩ 1 1 (scs e) rfl (cells_new _ _ _) (by simp [scs, Value.oneCell']) (by unfold maxLen; omega) (by omega) (by simp; omega)
  simp only [scs] at hrun
  unfold Oper.wp
  simp [execOp, ho, resolve, invoke, builtin, hs, hx, hrun, Result.andThen]
  refine h v' w1 ?_ ?_ (fun j hj hn => (hgrow.block j (by simp; omega) hn).trans ((MapKept.heap_alloc w _).2 j hj))
  · unfold StrOwn
    rw [List.length_append, List.flatMap_append]
    simpa using hown'
  · exact Below.grown (Below.alloc (Below.refl _ _) hB _) hgrow (by simp; omega) (str_base hown)
end Go.Proofs.YtlhnejcjeoecaaaGreatDoor
namespace Go.Proofs.YtlhnejcjeoecaaaGreatDoor
open Go.RowKit
/-- what is still to come of the parts: at byte i, the present part begun at fr, q: in quotes -/
def scn (s : ByteArray) (i fr : Nat) (q : Bool) : Option (List ByteArray) :=
  if _h : i < s.size then
    if q = true ∧ byt s i = 92 then scn s (i + 2) fr q
    else if byt s i = 34 then scn s (i + 1) fr (!q)
    else if q = false ∧ byt s i = 44 then (scn s (i + 1) (i + 1) false).map (trimF (s.extract fr i) :: ·)
    else scn s (i + 1) fr q
  else if q = true then none else some [trimF (s.extract fr s.size)]
termination_by s.size - i
def partsF (s : ByteArray) : Option (List ByteArray) := if cleanF s = true then scn s 0 0 false else none
theorem scn_end {s : ByteArray} {i fr : Nat} {q : Bool} (h : ¬ i < s.size) : scn s i fr q = if q = true then none else some [trimF (s.extract fr s.size)] := by
  rw [scn, dif_neg h]
theorem scn_esc {s : ByteArray} {i fr : Nat} (h : i < s.size) (hc : byt s i = 92) : scn s i fr true = scn s (i + 2) fr true := by
  rw [scn, dif_pos h, if_pos ⟨rfl, hc⟩]
theorem scn_quo {s : ByteArray} {i fr : Nat} {q : Bool} (h : i < s.size) (hc : byt s i = 34) : scn s i fr q = scn s (i + 1) fr (!q) := by
  rw [scn, dif_pos h, if_neg (fun hh => by omega), if_pos hc]
theorem scn_sep {s : ByteArray} {i fr : Nat} (h : i < s.size) (hc : byt s i = 44) : scn s i fr false = (scn s (i + 1) (i + 1) false).map (trimF (s.extract fr i) :: ·) := by
  rw [scn, dif_pos h, if_neg (fun hh => by omega), if_neg (by omega), if_pos ⟨rfl, hc⟩]
theorem scn_on {s : ByteArray} {i fr : Nat} {q : Bool} (h : i < s.size) (h1 : ¬ (q = true ∧ byt s i = 92)) (h2 : byt s i ≠ 34) (h3 : ¬ (q = false ∧ byt s i = 44)) : scn s i fr q = scn s (i + 1) fr q := by
  rw [scn, dif_pos h, if_neg h1, if_neg h2, if_neg h3]
/-- what holds between two bytes -/
structure PtAt (w wr : World) (B : Nat) (s : ByteArray) (k fr : Nat) (q : Bool) (v : Value) (out : List ByteArray) : Prop where
  x : Ext w wr
  o : StrOwn wr B v out
  n : out.length ≤ k
  t : scn s 0 0 false = (scn s k fr q).map (out ++ ·)
theorem Ext.grown' {w w' : World} (h : Ext w w') (o : Option Nat) : w.grownBy w' o := ⟨Below.os h, Below.tape h, Below.output h, h.size, fun i hi _ => Below.block h i hi⟩
theorem PtAt.on {w wr w' : World} {B : Nat} {s : ByteArray} {k fr k' : Nat} {q q' : Bool} {v : Value} {out : List ByteArray} (h : PtAt w wr B s k fr q v out) (hx : Ext wr w') (hk : k ≤ k') (e : scn s k fr q = scn s k' fr q') : PtAt w w' B s k' fr q' v out :=
  ⟨h.x.trans hx, h.o.kept (hx.grown' none) (fun k e => by cases e), Nat.le_trans h.n hk, by rw [h.t, e]⟩
theorem PtAt.put {w wr : World} {B : Nat} {s : ByteArray} {k fr : Nat} {v v' : Value} {out : List ByteArray} (h : PtAt w wr B s k fr false v out) (hk : k < s.size) (hc : byt s k = 44) {w' : World} (hx : Ext w w') (ho : StrOwn w' B v' (out ++ [trimF (s.extract fr k)])) : PtAt w w' B s (k + 1) (k + 1) false v' (out ++ [trimF (s.extract fr k)]) :=
  ⟨hx, ho, by have := h.n; rw [List.length_append, List.length_singleton]; omega, by
    rw [h.t, scn_sep hk hc]
    cases scn s (k + 1) (k + 1) false with
    | none => rfl
    | some l => simp⟩
set_option maxRecDepth 100000 in
set_option maxHeartbeats 2000000 in
theorem parts_any (s : ByteArray) (hs : s.size ≤ 100000) (w : World) :
    Calls Tryz.prog 42 #[.string s, .int .u8 44] w fun e w' => (∃ v ev, e = .returned (.tuple #[v, ev]) ∧ ((∃ l, partsF s = some l ∧ ev = .nilIface ∧ StrsAt w' v l) ∨ (partsF s = none ∧ ev = errV 2 ∧ v = .slice none 0 0))) ∧ Ext w w' := by
  obtain ⟨cl, hcl⟩ : ∃ b, cleanF s = b := ⟨_, rfl⟩
  have HCL : Hid (Calls Tryz.prog 57 #[.string s] w fun e w' => e = .returned (.bool cl) ∧ w = w') := Lib.hid (by rw [← hcl]; exact clean_any s (by omega) w)
  cases cl with
  | false =>
    have HP : Hid (partsF s = none) := Lib.hid (by unfold partsF; rw [hcl, if_neg (by simp)])
    clear hcl
    go_enter Tryz.func42, Tryz.ntmps42
    go_wp2_with (go_at_call 57; refine HCL.out.mono ?_; rintro e w' ⟨rfl, rfl⟩)
    go_ret2
    exact ⟨⟨_, _, rfl, .inr ⟨HP.out, rfl, rfl⟩⟩, Ext.refl _⟩
  | true =>
    have HP : Hid (partsF s = scn s 0 0 false) := Lib.hid (by unfold partsF; rw [hcl, if_pos rfl])
    clear hcl
    go_enter Tryz.func42, Tryz.ntmps42
    obtain ⟨B, hB⟩ : ∃ B, w.heap.size = B := ⟨_, rfl⟩
    have HB := Lib.hid hB
    clear hB
    go_wp2_with (go_at_call 57; refine HCL.out.mono ?_; rintro e w' ⟨rfl, rfl⟩)
    go_loopw [6, 7, 8, 9] (fun ov fv qv i wr => ∃ (k fr : Nat) (q : Bool) (out : List ByteArray), k ≤ s.size + 1 ∧ fr ≤ s.size ∧ fr ≤ k ∧ i = .int .i64 k ∧ fv = .int .i64 fr ∧ qv = .bool q ∧ Hid (PtAt w wr B s k fr q ov out)) (fun _ _ _ i _ => s.size + 1 - (intOf i).toNat)
    case atStart => exact ⟨0, 0, false, [], by omega, by omega, by omega, rfl, rfl, rfl, Lib.hid ⟨Ext.refl _, StrOwn.nil _ _, by simp, by cases scn s 0 0 false <;> simp⟩⟩
    case round =>
      obtain ⟨k, fr, q, out, hk, hfr, hfk, rfl, rfl, rfl, HR⟩ := hrel
      by_cases hlt : k < s.size
      · have hki : (k : Int) < (s.size : Int) := by omega
        obtain ⟨c, hc⟩ : ∃ c, (s[k]'hlt).toNat = c := ⟨_, rfl⟩
        have hcb : byt s k = c := by rw [byt_is hlt]; exact hc
        have HC := Lib.hid hcb
        have HLT := Lib.hid hlt
        clear hcb
        cases q with
        | true =>
          rcases (show c = 92 ∨ c = 34 ∨ (c ≠ 92 ∧ c ≠ 34) by omega) with h1 | h1 | ⟨h1, h2⟩
          · have h1' : ((c : Int) == 92) = true := by simp; omega
            have H1 := Lib.hid h1
            clear h1
            go_wp2_with fail
            go_roundw
            case rel => exact ⟨k + 2, fr, true, out, by omega, by omega, by omega, by go_num, rfl, rfl, Lib.hid (HR.out.on (Ext.refl _) (by omega) (scn_esc HLT.out (by rw [HC.out]; exact H1.out)))⟩
            case measure => simp [intOf]; omega
          · have h0' : ((c : Int) == 92) = false := by simp; omega
            have h1' : ((c : Int) == 34) = true := by simp; omega
            have H1 := Lib.hid h1
            clear h1
            go_wp2_with fail
            go_roundw
            case rel => exact ⟨k + 1, fr, false, out, by omega, by omega, by omega, by go_num, rfl, rfl, Lib.hid (HR.out.on (Ext.refl _) (by omega) (scn_quo HLT.out (by rw [HC.out]; exact H1.out)))⟩
            case measure => simp [intOf]; omega
          · have h0' : ((c : Int) == 92) = false := by simp; omega
            have h1' : ((c : Int) == 34) = false := by simp; omega
            have H1 := Lib.hid (And.intro h1 h2)
            clear h1 h2
            go_wp2_with fail
            go_roundw
            case rel => exact ⟨k + 1, fr, true, out, by omega, by omega, by omega, by go_num, rfl, rfl, Lib.hid (HR.out.on (Ext.refl _) (by omega) (scn_on HLT.out (fun h => H1.out.1 (by rw [← HC.out]; exact h.2)) (by rw [HC.out]; exact H1.out.2) (by simp)))⟩
            case measure => simp [intOf]; omega
        | false =>
          rcases (show c = 34 ∨ c = 44 ∨ (c ≠ 34 ∧ c ≠ 44) by omega) with h1 | h1 | ⟨h1, h2⟩
          · have h1' : ((c : Int) == 34) = true := by simp; omega
            have H1 := Lib.hid h1
            clear h1
            go_wp2_with fail
            go_roundw
            case rel => exact ⟨k + 1, fr, true, out, by omega, by omega, by omega, by go_num, rfl, rfl, Lib.hid (HR.out.on (Ext.refl _) (by omega) (scn_quo HLT.out (by rw [HC.out]; exact H1.out)))⟩
            case measure => simp [intOf]; omega
          · have h0' : ((c : Int) == 34) = false := by simp; omega
            have h1' : ((c : Int) == 44) = true := by simp; omega
            have H1 : Hid (byt s k = 44) := Lib.hid (by rw [HC.out]; exact h1)
            clear h1
            have hfki : (fr : Int) ≤ (k : Int) := by omega
            have hkle : (k : Int) ≤ (s.size : Int) := by omega
            have HTR : Hid (∀ W, Calls Tryz.prog 50 #[.string (s.extract fr k), .string ⟨#[32, 9]⟩] W fun e w' => e = .returned (.string (trimF (s.extract fr k))) ∧ Ext W w') := Lib.hid (fun W => strim_any _ (by rw [ByteArray.size_extract]; omega) W)
            obtain ⟨y, hy⟩ : ∃ y, trimF (s.extract fr k) = y := ⟨_, rfl⟩
            rw [hy] at HTR
            have HY := Lib.hid hy
            clear hy
            obtain ⟨x, hx⟩ : ∃ x, s.extract fr k = x := ⟨_, rfl⟩
            go_upto_region 13 with fail
            rw [hx] at HTR
            go_wp2_with fail
            refine (HTR.out _).mono ?_
            rintro e w3 ⟨rfl, hx3⟩
            have HO := Lib.hid (HR.out.o.kept (hx3.grown' none) (fun k e => by cases e))
            have hl : out.length ≤ 200000 := by have := HR.out.n; omega
            have HX3 := Lib.hid (HR.out.x.trans hx3)
            have hsz : B ≤ w3.heap.size := by have := HB.out; have := HX3.out.size; omega
            have HXX := Lib.hid hx
            clear hx hx3
            go_wp2_with (at_builtin; refine wpList_append_str _ rfl _ _ rfl B y HO.out rfl rfl rfl hl hsz ?_; intro v' w9 hO9 hB9 hK9)
            go_roundw
            case rel =>
              refine ⟨k + 1, k + 1, false, out ++ [y], by omega, by omega, by omega, by go_num, by go_num, rfl, Lib.hid ?_⟩
              rw [← HY.out]
              exact HR.out.put HLT.out H1.out (Below.trans HX3.out.below (Below.mono hB9 (by have := HB.out; omega))) (by rw [HY.out]; exact hO9)
            case measure => simp [intOf]; omega
          · have h0' : ((c : Int) == 34) = false := by simp; omega
            have h1' : ((c : Int) == 44) = false := by simp; omega
            have H1 := Lib.hid (And.intro h1 h2)
            clear h1 h2
            go_wp2_with fail
            go_roundw
            case rel => exact ⟨k + 1, fr, false, out, by omega, by omega, by omega, by go_num, rfl, rfl, Lib.hid (HR.out.on (Ext.refl _) (by omega) (scn_on HLT.out (by simp) (by rw [HC.out]; exact H1.out.1) (fun h => H1.out.2 (by rw [← HC.out]; exact h.2))))⟩
            case measure => simp [intOf]; omega
      · have hki : ¬ (k : Int) < (s.size : Int) := by omega
        have HLT := Lib.hid hlt
        cases q with
        | true =>
          have HP2 : Hid (partsF s = none) := Lib.hid (by rw [HP.out, HR.out.t, scn_end HLT.out]; rfl)
          clear hlt
          go_wp2_with fail
          go_ret2
          exact ⟨⟨_, _, rfl, .inr ⟨HP2.out, rfl, rfl⟩⟩, HR.out.x⟩
        | false =>
          have hfri : (fr : Int) ≤ (s.size : Int) := by omega
          have HTR : Hid (∀ W, Calls Tryz.prog 50 #[.string (s.extract fr s.size), .string ⟨#[32, 9]⟩] W fun e w' => e = .returned (.string (trimF (s.extract fr s.size))) ∧ Ext W w') := Lib.hid (fun W => strim_any _ (by rw [ByteArray.size_extract]; omega) W)
          obtain ⟨y, hy⟩ : ∃ y, trimF (s.extract fr s.size) = y := ⟨_, rfl⟩
          rw [hy] at HTR
          have HP2 : Hid (partsF s = some (out ++ [y])) := Lib.hid (by rw [HP.out, HR.out.t, scn_end HLT.out, ← hy]; simp)
          clear hy hlt
          obtain ⟨x, hx⟩ : ∃ x, s.extract fr s.size = x := ⟨_, rfl⟩
          go_upto_region 17 with fail
          rw [hx] at HTR
          go_wp2_with fail
          refine (HTR.out _).mono ?_
          rintro e w3 ⟨rfl, hx3⟩
          have HO := Lib.hid (HR.out.o.kept (hx3.grown' none) (fun k e => by cases e))
          have hl : out.length ≤ 200000 := by have := HR.out.n; omega
          have HX3 := Lib.hid (HR.out.x.trans hx3)
          have hsz : B ≤ w3.heap.size := by have := HB.out; have := HX3.out.size; omega
          clear hx hx3
          go_wp2_with (at_builtin; refine wpList_append_str _ rfl _ _ rfl B y HO.out rfl rfl rfl hl hsz ?_; intro v' w9 hO9 hB9 hK9)
          go_ret2
          exact ⟨⟨_, _, rfl, .inl ⟨_, HP2.out, rfl, hO9.at⟩⟩, Below.trans HX3.out.below (Below.mono hB9 (by have := HB.out; omega))⟩
end Go.Proofs.YtlhnejcjeoecaaaGreatDoor
namespace Go.Proofs.YtlhnejcjeoecaaaGreatDoor
open Go.RowKit
end Go.Proofs.YtlhnejcjeoecaaaGreatDoor
namespace Go.Proofs.YtlhnejcjeoecaaaGreatDoor
open Go.RowKit
def neS (x : ByteArray) : Bool := decide (x.size ≠ 0)
def listF (s : ByteArray) : Option (List ByteArray) := (partsF s).map (·.filter neS)
theorem StrsAt.parts {w : World} {v : Value} {xs : List ByteArray} (h : StrsAt w v xs) : ∃ A cap, v = .slice A xs.length cap ∧ (0 < xs.length → ∃ g, A = some ⟨g, 0, none⟩ ∧ ∀ i x, xs[i]? = some x → w.cell? ⟨g, i, none⟩ = some (.string x)) := by
  rcases h with ⟨rfl, rfl⟩ | ⟨g, cap, hv, hc⟩
  · exact ⟨none, 0, rfl, fun h => absurd h (by simp)⟩
  · refine ⟨_, cap, hv, fun _ => ⟨g, rfl, fun i x hx => ?_⟩⟩
    have := hc i x hx 0 (.string x) rfl
    rwa [Nat.mul_one, Nat.add_zero] at this
theorem filter_snoc {l : List ByteArray} {k : Nat} {x : ByteArray} (h : l[k]? = some x) : (l.take (k + 1)).filter neS = (l.take k).filter neS ++ if x.size = 0 then [] else [x] := by
  rw [List.take_add_one, h]
  simp only [Option.toList_some, List.filter_append]
  congr 1
  by_cases hx : x.size = 0
  · have e : neS x = false := decide_eq_false (fun h => h hx)
    rw [if_pos hx]
    simp [e]
  · have e : neS x = true := decide_eq_true hx
    rw [if_neg hx]
    simp [e]
theorem scn_len (s : ByteArray) : ∀ (n i fr : Nat) (q : Bool), s.size ≤ i + n → ∀ l, scn s i fr q = some l → l.length ≤ n + 1
  | 0, i, fr, q, h, l, e => by
    rw [scn_end (by omega)] at e
    split at e
    · cases e
    · cases e; simp
  | n + 1, i, fr, q, h, l, e => by
    rw [scn] at e
    split at e
    · split at e
      · have := scn_len s n (i + 2) fr q (by omega) l e; omega
      · split at e
        · have := scn_len s n (i + 1) fr (!q) (by omega) l e; omega
        · split at e
          · cases e2 : scn s (i + 1) (i + 1) false with
            | none => rw [e2] at e; cases e
            | some m =>
              rw [e2] at e
              cases e
              have := scn_len s n (i + 1) (i + 1) false (by omega) m e2
              simp only [List.length_cons]
              omega
          · have := scn_len s n (i + 1) fr q (by omega) l e; omega
    · split at e
      · cases e
      · cases e; simp
theorem parts_len {s : ByteArray} {l : List ByteArray} (h : partsF s = some l) : l.length ≤ s.size + 1 := by
  unfold partsF at h
  split at h
  · exact scn_len s s.size 0 0 false (by omega) l h
  · cases h
set_option maxRecDepth 100000 in
set_option maxHeartbeats 2000000 in
theorem list_any (s : ByteArray) (hs : s.size ≤ 100000) (w : World) :
    Calls Tryz.prog 24 #[.string s] w fun e w' => (∃ v ev, e = .returned (.tuple #[v, ev]) ∧ ((∃ l, listF s = some l ∧ ev = .nilIface ∧ StrsAt w' v l) ∨ (listF s = none ∧ ev = errV 2 ∧ v = .slice none 0 0))) ∧ Ext w w' := by
  have HPA := Lib.hid (parts_any s hs w)
  go_enter Tryz.func24, Tryz.ntmps24
  go_upto_region 2 with (go_at_call 42; refine HPA.out.mono ?_; rintro e w1 ⟨⟨v1, ev, rfl, hc⟩, hx1⟩)
  rcases hc with ⟨l, hp, rfl, hl⟩ | ⟨hp, rfl, rfl⟩
  · have HLF : Hid (listF s = some (l.filter neS)) := Lib.hid (by unfold listF; rw [hp]; rfl)
    have hn := parts_len hp
    obtain ⟨A, cap, rfl, hr⟩ := hl.parts
    obtain ⟨n, hxn⟩ : ∃ n, l.length = n := ⟨_, rfl⟩
    have HN := Lib.hid hxn
    rw [hxn] at hr hn ⊢
    obtain ⟨B, hB⟩ : ∃ B, w1.heap.size = B := ⟨_, rfl⟩
    have HB := Lib.hid hB
    have HX1 := Lib.hid hx1
    clear hp hl hxn hB hx1
    go_wp2_with fail
    go_loopw [6, 19] (fun ov i wr => ∃ k : Nat, k ≤ n ∧ i = .int .i64 k ∧ Hid (StrOwn wr B ov ((l.take k).filter neS) ∧ Ext w1 wr)) (fun _ i _ => n - (intOf i).toNat)
    case atStart => exact ⟨0, by omega, rfl, Lib.hid ⟨StrOwn.nil _ _, Ext.refl _⟩⟩
    case round =>
      obtain ⟨k, hk, rfl, HR⟩ := hrel
      by_cases hlt : k < n
      · obtain ⟨g, rfl, hg⟩ := hr (by omega)
        obtain ⟨x, hx⟩ : ∃ x, l[k]? = some x := ⟨l[k]'(by rw [HN.out]; exact hlt), by simp⟩
        have hki : (k : Int) < (n : Int) := by omega
        have hk6 : (k : Int) < 200001 := by omega
        have a0 := HR.out.2.cell (hg k x hx)
        have HFS := Lib.hid (filter_snoc hx)
        have hlen : ((l.take k).filter neS).length ≤ 200000 := by have := List.length_filter_le neS (l.take k); rw [List.length_take] at this; omega
        have hsz : B ≤ wr.heap.size := by have := HB.out; have := HR.out.2.size; omega
        clear hx hg hr
        rcases Nat.eq_zero_or_pos x.size with h0 | h0
        · have he := empty_yes h0
          have H0 := Lib.hid h0
          clear h0
          go_wp2_with fail
          go_roundw
          case rel => exact ⟨k + 1, by omega, by go_num, Lib.hid ⟨by rw [HFS.out, if_pos H0.out, List.append_nil]; exact HR.out.1, HR.out.2⟩⟩
          case measure => simp [intOf]; omega
        · have he := empty_no h0
          have H0 := Lib.hid h0
          clear h0
          go_wp2_with (at_builtin; refine wpList_append_str _ rfl _ _ rfl B x HR.out.1 rfl rfl rfl hlen hsz ?_; intro v' w9 hO9 hB9 hK9)
          go_roundw
          case rel => exact ⟨k + 1, by omega, by go_num, Lib.hid ⟨by rw [HFS.out, if_neg (by have := H0.out; omega)]; exact hO9, Below.trans HR.out.2.below (Below.mono hB9 (by have := HB.out; omega))⟩⟩
          case measure => simp [intOf]; omega
      · obtain rfl : k = n := by omega
        have HLA : Hid ((l.take k).filter neS = l.filter neS) := Lib.hid (by rw [List.take_of_length_le (by have := HN.out; omega)])
        go_wp2_with fail
        go_ret2
        exact ⟨⟨_, _, rfl, .inl ⟨_, HLF.out, rfl, by rw [← HLA.out]; exact HR.out.1.at⟩⟩, HX1.out.trans HR.out.2⟩
  · have HLF : Hid (listF s = none) := Lib.hid (by unfold listF; rw [hp]; rfl)
    clear hp
    go_wp2_with fail
    go_ret2
    exact ⟨⟨_, _, rfl, .inr ⟨HLF.out, rfl, rfl⟩⟩, hx1⟩
end Go.Proofs.YtlhnejcjeoecaaaGreatDoor
namespace Go.Proofs.YtlhnejcjeoecaaaGreatDoor
open Go.RowKit Go.Maps
def rcs2 (p : Int × Int) : List Value := [.int .i64 p.1, .int .i64 p.2]
def RAt (w : World) (v : Value) (gs : List (Int × Int)) : Prop :=
  (v = .slice none 0 0 ∧ gs = []) ∨ ∃ g cap, v = .slice (some ⟨g, 0, none⟩) gs.length cap ∧ ∀ i e, gs[i]? = some e → ∀ j u, (rcs2 e)[j]? = some u → w.cell? ⟨g, i * 2 + j, none⟩ = some u
theorem RAt.ext {w w' : World} {v : Value} {gs : List (Int × Int)} (h : RAt w v gs) (hx : Ext w w') : RAt w' v gs := by
  rcases h with h | ⟨g, cap, hv, hc⟩
  · exact .inl h
  · exact .inr ⟨g, cap, hv, fun i e he j u hj => hx.cell (hc i e he j u hj)⟩
def ROwn (T : TypeId) (w : World) (B : Nat) (v : Value) (gs : List (Int × Int)) : Prop := w.ownsRow B T 2 v gs.length (gs.flatMap rcs2)
theorem ROwn.nil (T : TypeId) (w : World) (B : Nat) : ROwn T w B (.slice none 0 0) [] := World.ownsRow_nil _ _ _ _
theorem r_flat : ∀ (xs : List (Int × Int)) (i : Nat) (e : Int × Int), xs[i]? = some e → ∀ j, j < 2 → (xs.flatMap rcs2)[i * 2 + j]? = (rcs2 e)[j]?
  | [], i, e, h, _, _ => by simp at h
  | x :: r, 0, e, h, j, hj => by
    simp at h
    subst h
    simp only [List.flatMap_cons, Nat.zero_mul, Nat.zero_add]
    rw [List.getElem?_append_left (by simpa [rcs2] using hj)]
  | x :: r, i + 1, e, h, j, hj => by
    simp only [List.getElem?_cons_succ] at h
    simp only [List.flatMap_cons]
    have h4 : (rcs2 x).length = 2 := rfl
    rw [List.getElem?_append_right (by omega), h4, show (i + 1) * 2 + j - 2 = i * 2 + j by omega]
    exact r_flat r i e h j hj
theorem ROwn.at {T : TypeId} {w : World} {b : Nat} {v : Value} {gs : List (Int × Int)} (h : ROwn T w b v gs) : RAt w v gs := by
  rcases h.2 with ⟨hv, h0⟩ | ⟨g, cap, cur, hv, hb, hg, h1, h2, h3, h4⟩
  · exact .inl ⟨hv, List.length_eq_zero_iff.1 h0⟩
  · refine .inr ⟨g, cap, hv, fun i e he j u hj => ?_⟩
    have hj2 : j < 2 := by have := (List.getElem?_eq_some_iff.1 hj).1; simpa [rcs2] using this
    have hi := (List.getElem?_eq_some_iff.1 he).1
    rw [cell_of_row w g _ cur _ _ hg]
    have e1 := r_flat gs i e he j hj2
    rw [← h4, List.getElem?_take_of_lt (by omega), hj] at e1
    simpa using e1
theorem r_base {T : TypeId} {w : World} {B : Nat} {v : Value} {gs : List (Int × Int)} (h : ROwn T w B v gs) : ∀ k, v.ownBlock = some k → B ≤ k := by
  intro k hk
  rcases h.2 with ⟨rfl, _⟩ | ⟨g, cap, cur, rfl, hb, _⟩
  · simp [Value.ownBlock] at hk
  · simp [Value.ownBlock] at hk; omega
theorem ROwn.kept {T : TypeId} {w w' : World} {B : Nat} {v : Value} {gs : List (Int × Int)} (h : ROwn T w B v gs) {o : Option Nat} (hg : w.grownBy w' o) (hB : ∀ k, o = some k → k < B) : ROwn T w' B v gs := World.ownsRow.kept h hg (by
  rcases h.2 with ⟨rfl, _⟩ | ⟨g, cap, cur, rfl, hb, _⟩
  · exact .inl rfl
  · refine .inr (fun e => ?_)
    simp only [Value.ownBlock] at e
    have := hB g e.symm
    omega)
theorem wpList_append_r (T tS : TypeId) (hu : Tryz.prog.underlying tS = some (.slice T)) (hinf : (Tryz.prog.info? T).map (fun i => (i.zero, i.size, i.bytes)) = some (some (.agg #[.int .i64 0, .int .i64 0]), 2, 16))
    (w : World) {ops : Array Oper} {rest : List Oper} {o : Oper} {a : Act} {Q : Exit → Act → World → Prop} (hg : o.guard = none) (s x : Operand)
    (ho : o.op = .call { callee := .builtin .append, args := #[s, x], argTypes := #[tS, tS] }) (B : Nat) {v : Value} {es : List (Int × Int)} (e1 e2 : Int) (hown : ROwn T w B v es) (hs : a.eval s = v)
    {G : Nat} (hx : a.eval x = .slice (some ⟨G, 0, none⟩) 1 1) (hG : G = w.heap.size) (hlen : es.length ≤ 200000) (hB : B ≤ w.heap.size)
    (h : ∀ v' w', ROwn T w' B v' (es ++ [(e1, e2)]) → Below B w w' → (∀ j, j < w.heap.size → some j ≠ v.ownBlock → w'.heap[j]? = w.heap[j]?) → wpList Tryz.prog ops Q rest (a.put o.dst v') w') :
    wpList Tryz.prog ops Q (o :: rest) a (w.alloc (.cells #[.int .i64 e1, .int .i64 e2] T)) := by
  subst hG
  obtain ⟨i0, hi0, hz0, hz1, hz2⟩ := info_parts hinf
  refine wpList_append_own _ hg s x tS ho B T i0 _ 2 16 hu hi0 hz0 hz1 hz2 rfl (by decide) v es.length _ hs (hown.kept (World.grownBy_alloc w _ none) (fun k e => by cases e)) ⟨w.heap.size, 0, none⟩ 1 1 (rcs2 (e1, e2)) hx rfl (cells_new _ _ _) (by simp [rcs2, Value.oneCell']) (by unfold maxLen; omega) (by omega) (by simp; omega) ?_
  intro v' w1 hown' hgrow _
  refine h v' w1 ?_ ?_ (fun j hj hn => (hgrow.block j (by simp; omega) hn).trans ((MapKept.heap_alloc w _).2 j hj))
  · unfold ROwn
    rw [List.length_append, List.flatMap_append]
    simpa using hown'
  · exact Below.grown (Below.alloc (Below.refl _ _) hB _) hgrow (by simp; omega) (r_base hown)
theorem rng_info : (Tryz.prog.info? 27).map (fun i => (i.zero, i.size, i.bytes)) = some (some (.agg #[.int .i64 0, .int .i64 0]), 2, 16) := by kernel_rfl
theorem RAt.parts {w : World} {v : Value} {xs : List (Int × Int)} (h : RAt w v xs) : ∃ A cap, v = .slice A xs.length cap ∧ (0 < xs.length → ∃ g, A = some ⟨g, 0, none⟩ ∧ ∀ i p, xs[i]? = some p → w.cell? ⟨g, i * 2, none⟩ = some (.int .i64 p.1) ∧ w.cell? ⟨g, i * 2 + 1, none⟩ = some (.int .i64 p.2)) := by
  rcases h with ⟨rfl, rfl⟩ | ⟨g, cap, hv, hc⟩
  · exact ⟨none, 0, rfl, fun h => absurd h (by simp)⟩
  · exact ⟨_, cap, hv, fun _ => ⟨g, rfl, fun i p hp => ⟨hc i p hp 0 _ rfl, hc i p hp 1 _ rfl⟩⟩⟩
/-! ### the field's elements -/
def elsF (len : Int) : List ByteArray → Option (List (Int × Int))
  | [] => some []
  | x :: r => match elF x len with
    | none => none
    | some p => (elsF len r).map fun q => if p.1 < p.2 then p :: q else q
theorem els_none {len : Int} {l : List ByteArray} {out : List (Int × Int)} {k : Nat} {x : ByteArray} (ht : elsF len l = (elsF len (l.drop k)).map (out ++ ·)) (hx : l[k]? = some x) (he : elF x len = none) : elsF len l = none := by
  obtain ⟨hk, e⟩ := List.getElem?_eq_some_iff.1 hx
  rw [ht, List.drop_eq_getElem_cons hk, e, elsF, he]
  rfl
theorem els_some {len : Int} {l : List ByteArray} {out : List (Int × Int)} {k : Nat} {x : ByteArray} {p : Int × Int} (ht : elsF len l = (elsF len (l.drop k)).map (out ++ ·)) (hx : l[k]? = some x) (he : elF x len = some p) :
    elsF len l = (elsF len (l.drop (k + 1))).map ((out ++ if p.1 < p.2 then [p] else []) ++ ·) := by
  obtain ⟨hk, e⟩ := List.getElem?_eq_some_iff.1 hx
  rw [ht, List.drop_eq_getElem_cons hk, e, elsF, he]
  cases elsF len (l.drop (k + 1)) with
  | none => rfl
  | some q =>
    simp only [Option.map_some]
    split <;> simp
def pfxL : List UInt8 := [98, 121, 116, 101, 115, 61]
def pfx (s : ByteArray) : Bool := Lib.hasPrefix s.data.toList pfxL
def parseF (s : ByteArray) (len : Int) : List (Int × Int) × Int :=
  if pfx s = true then match listF (s.extract 6 s.size) with
    | none => ([], 2)
    | some l => if l.length = 0 then ([], 2) else match elsF (max 0 len) l with
      | none => ([], 2)
      | some out => if 8 < l.length then ([], 5) else if out.length = 0 then ([], 1) else (out, 0)
  else ([], 2)
end Go.Proofs.YtlhnejcjeoecaaaGreatDoor
namespace Go.Proofs.YtlhnejcjeoecaaaGreatDoor
open Go.RowKit Go.Maps
def errC (c : Int) : Value := if c = 0 then .nilIface else errV c
theorem scn_size (s : ByteArray) : ∀ (n i fr : Nat) (q : Bool), s.size ≤ i + n → ∀ l, scn s i fr q = some l → ∀ x ∈ l, x.size ≤ s.size
  | 0, i, fr, q, h, l, e => by
    rw [scn_end (by omega)] at e
    split at e
    · cases e
    · cases e
      intro x hx
      rw [List.mem_singleton] at hx
      rw [hx]
      exact Nat.le_trans (trimF_size _) (by rw [ByteArray.size_extract]; omega)
  | n + 1, i, fr, q, h, l, e => by
    rw [scn] at e
    split at e
    · split at e
      · exact scn_size s n (i + 2) fr q (by omega) l e
      · split at e
        · exact scn_size s n (i + 1) fr (!q) (by omega) l e
        · split at e
          · cases e2 : scn s (i + 1) (i + 1) false with
            | none => rw [e2] at e; cases e
            | some m =>
              rw [e2] at e
              cases e
              intro x hx
              rcases List.mem_cons.1 hx with rfl | hx
              · exact Nat.le_trans (trimF_size _) (by rw [ByteArray.size_extract]; omega)
              · exact scn_size s n (i + 1) (i + 1) false (by omega) m e2 x hx
          · exact scn_size s n (i + 1) fr q (by omega) l e
    · split at e
      · cases e
      · cases e
        intro x hx
        rw [List.mem_singleton] at hx
        rw [hx]
        exact Nat.le_trans (trimF_size _) (by rw [ByteArray.size_extract]; omega)
theorem list_facts {s : ByteArray} {l : List ByteArray} (h : listF s = some l) : l.length ≤ s.size + 1 ∧ ∀ x ∈ l, x.size ≤ s.size := by
  unfold listF at h
  cases hp : partsF s with
  | none => rw [hp] at h; cases h
  | some m =>
    rw [hp] at h
    cases h
    refine ⟨Nat.le_trans (List.length_filter_le _ _) (parts_len hp), fun x hx => ?_⟩
    have hm := (List.mem_filter.1 hx).1
    unfold partsF at hp
    split at hp
    · exact scn_size s s.size 0 0 false (by omega) m hp x hm
    · cases hp
theorem sprefix_any (s : ByteArray) (w : World) : Calls Tryz.prog 23 #[.string s, .string ⟨#[98, 121, 116, 101, 115, 61]⟩] w fun e w' => (∃ x, e = .returned (.tuple #[.string x, .bool (pfx s)]) ∧ x.size ≤ s.size ∧ (pfx s = true → x = s.extract 6 s.size)) ∧ w = w' := by
  refine (Any.strings_CutPrefix Tryz.lays103 s ⟨#[98, 121, 116, 101, 115, 61]⟩ w).mono ?_
  rintro e w' ⟨rfl, rfl⟩
  refine ⟨⟨_, rfl, ?_, fun hp => ?_⟩, rfl⟩
  · unfold Lib.trimPrefix
    rw [Lib.size_eq, Lib.size_eq]
    split <;> simp
  · have hp2 : Lib.hasPrefix s.data.toList [98, 121, 116, 101, 115, 61] = true := hp
    refine bs_ext ?_
    rw [bs_mk, Lib.extract_toList]
    unfold Lib.trimPrefix
    rw [if_pos hp2, List.take_of_length_le (by rw [List.length_drop, ← Lib.size_eq]; omega)]
    rfl
theorem pf_no {s : ByteArray} {len : Int} (h : pfx s = false) : parseF s len = ([], 2) := by
  unfold parseF
  rw [h, if_neg (by simp)]
theorem pf_none {s : ByteArray} {len : Int} (h : pfx s = true) (h2 : listF (s.extract 6 s.size) = none) : parseF s len = ([], 2) := by
  unfold parseF
  rw [h, if_pos rfl, h2]
theorem pf_nil {s : ByteArray} {len : Int} {l : List ByteArray} (h : pfx s = true) (h2 : listF (s.extract 6 s.size) = some l) (h3 : l.length = 0) : parseF s len = ([], 2) := by
  unfold parseF
  rw [h, if_pos rfl, h2]
  simp only
  rw [if_pos h3]
theorem pf_bad {s : ByteArray} {len : Int} {l : List ByteArray} (h : pfx s = true) (h2 : listF (s.extract 6 s.size) = some l) (h4 : elsF (max 0 len) l = none) : parseF s len = ([], 2) := by
  unfold parseF
  rw [h, if_pos rfl, h2]
  simp only
  rw [h4]
  split <;> rfl
theorem pf_some {s : ByteArray} {len : Int} {l : List ByteArray} {out : List (Int × Int)} (h : pfx s = true) (h2 : listF (s.extract 6 s.size) = some l) (h3 : 0 < l.length) (h4 : elsF (max 0 len) l = some out) :
    parseF s len = if 8 < l.length then ([], 5) else if out.length = 0 then ([], 1) else (out, 0) := by
  unfold parseF
  rw [h, if_pos rfl, h2]
  simp only
  rw [if_neg (by omega), h4]
set_option maxRecDepth 100000 in
set_option maxHeartbeats 2000000 in
theorem parse_any (s : ByteArray) (len : Int) (hl : -9223372036854775808 ≤ len ∧ len ≤ 9223372036854775807) (hs : s.size ≤ 90000) (w : World) (hM : MaxL w) :
    Calls Tryz.prog 10 #[.string s, .int .i64 len] w fun e w' => (∃ v ev, e = .returned (.tuple #[v, ev]) ∧ RAt w' v (parseF s len).1 ∧ ev = errC (parseF s len).2) ∧ Ext w w' := by
  have HCP := Lib.hid (sprefix_any s w)
  have HM := Lib.hid hM
  obtain ⟨R, C, hRC⟩ : ∃ R C, parseF s len = (R, C) := ⟨_, _, rfl⟩
  have HRC := Lib.hid hRC
  rw [hRC]
  simp only
  obtain ⟨pf, hpf⟩ : ∃ b, pfx s = b := ⟨_, rfl⟩
  have HPF := Lib.hid hpf
  rw [hpf] at HCP
  clear hpf hM hRC
  cases pf with
  | false =>
    obtain ⟨rfl, rfl⟩ : R = [] ∧ C = 2 := by have h := HRC.out.symm.trans (pf_no HPF.out); cases h; exact ⟨rfl, rfl⟩
    go_enter Tryz.func10, Tryz.ntmps10
    go_upto_region 2 with (go_at_call 23; refine HCP.out.mono ?_; rintro e w' ⟨⟨x, rfl, hx, -⟩, rfl⟩)
    have HLI : Hid (∀ W, Calls Tryz.prog 24 #[.string x] W fun e w' => (∃ v ev, e = .returned (.tuple #[v, ev])) ∧ Ext W w') := Lib.hid (fun W => (list_any x (by omega) W).mono (fun e w' ⟨⟨v, ev, h, _⟩, hx⟩ => ⟨⟨v, ev, h⟩, hx⟩))
    go_wp2_with (go_at_call 24; refine (HLI.out _).mono ?_; rintro e w1 ⟨⟨v, ev, rfl⟩, hx1⟩)
    go_ret2
    exact ⟨⟨_, _, rfl, .inl ⟨rfl, rfl⟩, rfl⟩, hx1⟩
  | true =>
    have HLI : Hid (∀ W, Calls Tryz.prog 24 #[.string (s.extract 6 s.size)] W fun e w' => (∃ v ev, e = .returned (.tuple #[v, ev]) ∧ Hid ((∃ l, listF (s.extract 6 s.size) = some l ∧ ev = .nilIface ∧ StrsAt w' v l) ∨ (listF (s.extract 6 s.size) = none ∧ ev = errV 2 ∧ v = .slice none 0 0))) ∧ Ext W w') := Lib.hid (fun W => (list_any _ (by rw [ByteArray.size_extract]; omega) W).mono (fun e w' ⟨⟨v, ev, h, hc⟩, hx⟩ => ⟨⟨v, ev, h, Lib.hid hc⟩, hx⟩))
    obtain ⟨y, hy⟩ : ∃ y, s.extract 6 s.size = y := ⟨_, rfl⟩
    have HY := Lib.hid hy
    have hys : y.size ≤ s.size := by rw [← hy, ByteArray.size_extract]; omega
    rw [hy] at HLI HCP
    clear hy
    go_enter Tryz.func10, Tryz.ntmps10
    go_upto_region 2 with (go_at_call 23; refine HCP.out.mono ?_; rintro e w' ⟨⟨x, rfl, hx, hxx⟩, rfl⟩; obtain rfl := hxx rfl)
    go_upto_region 3 with (go_at_call 24; refine (HLI.out _).mono ?_; rintro e w1 ⟨⟨v, ev, rfl, HC⟩, hx1⟩)
    clear HLI HCP
    rcases HC.out with ⟨l, hlf, rfl, hla⟩ | ⟨hlf, rfl, rfl⟩
    · obtain ⟨A, cap, rfl, hr⟩ := hla.parts
      obtain ⟨hn, hsz⟩ := list_facts hlf
      have HLF := Lib.hid hlf
      obtain ⟨n, hxn⟩ : ∃ n, l.length = n := ⟨_, rfl⟩
      have HN := Lib.hid hxn
      rw [hxn] at hr hn ⊢
      have HSZ : Hid (∀ x ∈ l, x.size ≤ 90000) := Lib.hid (fun x hx => Nat.le_trans (hsz x hx) (by omega))
      have hn2 : n ≤ 100000 := by omega
      clear hlf hla hxn hsz HC hn hx hxx hs hys
      rcases Nat.eq_zero_or_pos n with hn0 | hn0
      · obtain ⟨rfl, rfl⟩ : R = [] ∧ C = 2 := by have h := HRC.out.symm.trans (pf_nil HPF.out (by rw [HY.out]; exact HLF.out) (by rw [HN.out]; exact hn0)); cases h; exact ⟨rfl, rfl⟩
        have hn0' : ((n : Int) == 0) = true := by simp; omega
        clear hn0
        go_wp2_with fail
        go_ret2
        exact ⟨⟨_, _, rfl, .inl ⟨rfl, rfl⟩, rfl⟩, hx1⟩
      · have hn0' : ((n : Int) == 0) = false := by simp; omega
        have H0 := Lib.hid hn0
        obtain ⟨L, hL⟩ : ∃ L, max 0 len = L := ⟨_, rfl⟩
        have hL0 : 0 ≤ L := by omega
        have hL1 : L ≤ 9223372036854775807 := by omega
        have HLB := Lib.hid (And.intro hL (And.intro hL0 hL1))
        obtain ⟨B, hB⟩ : ∃ B, w1.heap.size = B := ⟨_, rfl⟩
        have HB := Lib.hid hB
        have HX1 := Lib.hid hx1
        clear hB hx1 hn0 hL0 hL1
        go_upto_region 6 with fail
        clear hL
        go_wp2_with fail
        go_loopw [10, 41] (fun ov i wr => ∃ (k : Nat) (out : List (Int × Int)), k ≤ n ∧ i = .int .i64 k ∧ out.length ≤ k ∧ Hid (ROwn 27 wr B ov out ∧ Ext w1 wr ∧ elsF L l = (elsF L (l.drop k)).map (out ++ ·))) (fun _ i _ => n - (intOf i).toNat)
        case atStart => exact ⟨0, [], by omega, rfl, by simp, Lib.hid ⟨ROwn.nil _ _ _, Ext.refl _, by rw [List.drop_zero]; cases elsF L l <;> rfl⟩⟩
        case round =>
          obtain ⟨k, out, hk, rfl, ho, HR⟩ := hrel
          by_cases hlt : k < n
          · obtain ⟨g, rfl, hg⟩ := hr (by omega)
            obtain ⟨x, hx⟩ : ∃ x, l[k]? = some x := ⟨l[k]'(by rw [HN.out]; exact hlt), by simp⟩
            have hki : (k : Int) < (n : Int) := by omega
            have hk6 : (k : Int) < 200001 := by omega
            have a0 := HR.out.2.1.cell (hg k x hx)
            have HX := Lib.hid hx
            have HEL : Hid (Calls Tryz.prog 25 #[.string x, .int .i64 L] wr fun e w' => (∃ f t ok, e = .returned (.tuple #[.agg #[.int .i64 f, .int .i64 t], .bool ok]) ∧ Hid (ok = (elF x L).isSome ∧ ∀ p, elF x L = some p → p = (f, t))) ∧ Ext wr w') := Lib.hid ((element_any x L HLB.out.2.1 HLB.out.2.2 (by have := HSZ.out x (List.mem_of_getElem? hx); omega) wr (HM.out.ext (HX1.out.trans HR.out.2.1))).mono (by
              rintro e w' ⟨⟨f, t, ok, h1, h2, h3⟩, h4⟩
              exact ⟨⟨f, t, ok, h1, Lib.hid ⟨h2, h3⟩⟩, h4⟩))
            clear hx hg hr
            go_upto_region 10 with fail
            go_wp2_with fail
            refine HEL.out.mono ?_
            rintro e w3 ⟨⟨f, t, ok, rfl, HOK⟩, hx3⟩
            have HX3 := Lib.hid hx3
            clear hx3
            obtain ⟨wa, hwa⟩ : ∃ wa, wa = w3.alloc (.cells #[.int .i64 f, .int .i64 t] 27) := ⟨_, rfl⟩
            have XA : Ext w3 wa := by rw [hwa]; exact (Ext.refl w3).alloc _
            have HT : Hid (RowB wa w3.heap.size 27 [.int .i64 f, .int .i64 t]) := Lib.hid (by rw [hwa]; exact row_laid _ _ _)
            have HXA := Lib.hid (HX3.out.trans XA)
            cases ok with
            | false =>
              obtain ⟨rfl, rfl⟩ : R = [] ∧ C = 2 := by
                have he : elF x L = none := by
                  have := HOK.out.1
                  cases h : elF x L with
                  | none => rfl
                  | some p => rw [h] at this; cases this
                have h := HRC.out.symm.trans (pf_bad HPF.out (by rw [HY.out]; exact HLF.out) (by rw [HLB.out.1]; exact els_none HR.out.2.2 HX.out he))
                cases h
                exact ⟨rfl, rfl⟩
              clear a0
              go_upto_region 11 with fail
              rw [← hwa]
              clear hwa
              go_wp2_with fail
              go_ret2
              exact ⟨⟨_, _, rfl, .inl ⟨rfl, rfl⟩, rfl⟩, HX1.out.trans (HR.out.2.1.trans HXA.out)⟩
            | true =>
              have HE : Hid (elF x L = some (f, t)) := Lib.hid (by
                have := HOK.out.1
                cases h : elF x L with
                | none => rw [h] at this; cases this
                | some p => rw [HOK.out.2 p h])
              clear a0
              go_upto_region 11 with fail
              rw [← hwa]
              clear hwa
              obtain ⟨tg, htg⟩ : ∃ tg, w3.heap.size = tg := ⟨_, rfl⟩
              rw [htg] at HT ⊢
              clear htg XA
              obtain ⟨t0, t1, f0, f1⟩ := rng_cells HT.out
              by_cases hft : f < t
              · have HS := Lib.hid (els_some HR.out.2.2 HX.out HE.out)
                have HFT := Lib.hid hft
                have hsz : B ≤ wa.heap.size := by have := HB.out; have := HR.out.2.1.size; have := HXA.out.size; omega
                have HOW := Lib.hid (HR.out.1.kept (HXA.out.grown' none) (fun k e => by cases e))
                have ho2 : out.length ≤ 200000 := by omega
                go_wp2_with (at_builtin; refine wpList_append_r 27 23 Tryz.underlying23 rng_info _ rfl _ _ rfl B f t HOW.out rfl rfl rfl ho2 hsz ?_; intro v' w9 hO9 hB9 hK9)
                go_roundw
                case rel =>
                  refine ⟨k + 1, out ++ [(f, t)], by omega, by go_num, by rw [List.length_append, List.length_singleton]; omega, Lib.hid ⟨hO9, ?_, ?_⟩⟩
                  · exact Below.trans (HR.out.2.1.trans HXA.out).below (Below.mono hB9 (by have := HB.out; omega))
                  · have h := HS.out
                    rwa [if_pos (show (f, t).1 < (f, t).2 from HFT.out)] at h
                case measure => simp [intOf]; omega
              · have HS := Lib.hid (els_some HR.out.2.2 HX.out HE.out)
                have HFT := Lib.hid hft
                have HOW := Lib.hid (HR.out.1.kept (HXA.out.grown' none) (fun k e => by cases e))
                go_wp2_with fail
                go_roundw
                case rel =>
                  refine ⟨k + 1, out, by omega, by go_num, by omega, Lib.hid ⟨HOW.out, HR.out.2.1.trans HXA.out, ?_⟩⟩
                  have h := HS.out
                  rwa [if_neg (show ¬ (f, t).1 < (f, t).2 from HFT.out), List.append_nil] at h
                case measure => simp [intOf]; omega
          · obtain rfl : k = n := by omega
            have HEL : Hid (elsF (max 0 len) l = some out) := Lib.hid (by
              rw [HLB.out.1, HR.out.2.2, List.drop_eq_nil_iff.2 (by have := HN.out; omega), elsF]
              simp)
            have HPS := Lib.hid (HRC.out.symm.trans (pf_some HPF.out (by rw [HY.out]; exact HLF.out) (by rw [HN.out]; exact H0.out) HEL.out))
            have HOA := Lib.hid HR.out.1.at
            have HXR := Lib.hid (HX1.out.trans HR.out.2.1)
            by_cases h8 : 8 < k
            · obtain ⟨rfl, rfl⟩ : R = [] ∧ C = 5 := by have h := HPS.out; rw [if_pos (by rw [HN.out]; exact h8)] at h; cases h; exact ⟨rfl, rfl⟩
              have h8' : (8 : Int) < (k : Int) := by omega
              clear h8
              go_wp2_with fail
              go_ret2
              first | exact ⟨⟨_, _, rfl, .inl ⟨rfl, rfl⟩, rfl⟩, HXR.out⟩ | exact ⟨⟨_, rfl, .inl ⟨rfl, rfl⟩⟩, HXR.out⟩
            · have h8' : ¬ (8 : Int) < (k : Int) := by omega
              have H8 := Lib.hid h8
              obtain ⟨A2, cap2, hov, -⟩ := HOA.out.parts
              obtain ⟨m, hm⟩ : ∃ m, out.length = m := ⟨_, rfl⟩
              have HM2 := Lib.hid hm
              rw [hm] at hov
              subst hov
              clear h8 hm
              by_cases hm0 : m = 0
              · obtain ⟨rfl, rfl⟩ : R = [] ∧ C = 1 := by have h := HPS.out; rw [if_neg (by rw [HN.out]; exact H8.out), if_pos (by rw [HM2.out]; exact hm0)] at h; cases h; exact ⟨rfl, rfl⟩
                have hm0' : ((m : Int) == 0) = true := by simp; omega
                clear hm0
                go_wp2_with fail
                go_ret2
                first | exact ⟨⟨_, _, rfl, .inl ⟨rfl, rfl⟩, rfl⟩, HXR.out⟩ | exact ⟨⟨_, rfl, .inl ⟨rfl, rfl⟩⟩, HXR.out⟩
              · obtain ⟨rfl, rfl⟩ : R = out ∧ C = 0 := by have h := HPS.out; rw [if_neg (by rw [HN.out]; exact H8.out), if_neg (by rw [HM2.out]; exact hm0)] at h; cases h; exact ⟨rfl, rfl⟩
                have hm0' : ((m : Int) == 0) = false := by simp; omega
                clear hm0
                go_wp2_with fail
                go_ret2
                first | exact ⟨⟨_, _, rfl, HOA.out, rfl⟩, HXR.out⟩ | exact ⟨⟨_, rfl, HOA.out⟩, HXR.out⟩
    · obtain ⟨rfl, rfl⟩ : R = [] ∧ C = 2 := by have h := HRC.out.symm.trans (pf_none HPF.out (by rw [HY.out]; exact hlf)); cases h; exact ⟨rfl, rfl⟩
      clear hlf HC hx hxx hs hys
      go_wp2_with fail
      go_ret2
      exact ⟨⟨_, _, rfl, .inl ⟨rfl, rfl⟩, rfl⟩, hx1⟩
end Go.Proofs.YtlhnejcjeoecaaaGreatDoor
namespace Go.Proofs.YtlhnejcjeoecaaaGreatDoor
open Go.RowKit Go.Maps
theorem pfx_short {s : ByteArray} (h : s.size < 6) : pfx s = false := by
  cases hp : pfx s with
  | false => rfl
  | true =>
    have h1 : pfxL.isPrefixOf s.data.toList = true := hp
    have h2 := (List.isPrefixOf_iff_prefix.1 h1).length_le
    rw [Lib.size_eq] at h
    have : pfxL.length = 6 := rfl
    omega
theorem pfx_cut (s : ByteArray) : ((s.extract 0 6).toList == pfxL) = pfx s := by
  rw [Lib.extract_toList, List.drop_zero, Bool.eq_iff_iff, beq_iff_eq]
  show s.data.toList.take 6 = pfxL ↔ pfxL.isPrefixOf s.data.toList = true
  rw [List.isPrefixOf_iff_prefix]
  constructor
  · intro e
    rw [← e]
    exact List.take_prefix _ _
  · intro hp
    exact (List.prefix_iff_eq_take.1 hp).symm
end Go.Proofs.YtlhnejcjeoecaaaGreatDoor
namespace Go.Proofs.YtlhnejcjeoecaaaGreatDoor
open Go.RowKit Go.Maps
/-- the scan with fuel: to reckon with -/
def scnN (s : ByteArray) : Nat → Nat → Nat → Bool → Option (List ByteArray)
  | 0, _, fr, q => if q = true then none else some [trimF (s.extract fr s.size)]
  | n + 1, i, fr, q => if i < s.size then
      (if q = true ∧ byt s i = 92 then scnN s n (i + 2) fr q
      else if byt s i = 34 then scnN s n (i + 1) fr (!q)
      else if q = false ∧ byt s i = 44 then (scnN s n (i + 1) (i + 1) false).map (trimF (s.extract fr i) :: ·)
      else scnN s n (i + 1) fr q)
    else if q = true then none else some [trimF (s.extract fr s.size)]
theorem scnN_eq (s : ByteArray) : ∀ (n i fr : Nat) (q : Bool), s.size ≤ i + n → scnN s n i fr q = scn s i fr q
  | 0, i, fr, q, h => by
    rw [scn_end (by omega)]
    rfl
  | n + 1, i, fr, q, h => by
    rw [scnN, scn]
    split
    · split
      · exact scnN_eq s n _ _ _ (by omega)
      · split
        · exact scnN_eq s n _ _ _ (by omega)
        · split
          · rw [scnN_eq s n _ _ _ (by omega)]
          · exact scnN_eq s n _ _ _ (by omega)
    · rfl
def exS : ByteArray := ⟨#[98, 121, 116, 101, 115, 61, 48, 45, 52, 44, 32, 45, 51, 44, 50, 48, 45]⟩
theorem ex_scn : scnN (exS.extract 6 exS.size) 13 0 0 false = some [⟨#[48, 45, 52]⟩, ⟨#[45, 51]⟩, ⟨#[50, 48, 45]⟩] := by kernel_rfl
theorem ex_list : listF (exS.extract 6 exS.size) = some [⟨#[48, 45, 52]⟩, ⟨#[45, 51]⟩, ⟨#[50, 48, 45]⟩] := by
  unfold listF partsF
  rw [show cleanF (exS.extract 6 exS.size) = true by kernel_rfl, if_pos rfl, ← scnN_eq _ 13 0 0 false (of_decide_eq_true (by kernel_rfl)), ex_scn]
  kernel_rfl
theorem ex_parse : parseF exS 10 = ([(0, 5), (7, 10)], 0) := by
  unfold parseF
  rw [show pfx exS = true by kernel_rfl, if_pos rfl, ex_list]
  kernel_rfl
theorem list_ext_uptoR {α : Type} {es fs : List α} {n : Nat} (h1 : es.length = n) (h2 : fs.length = n) (h : ∀ i, i < n → es[i]? = fs[i]?) : es = fs := by
  apply List.ext_getElem?
  intro i
  by_cases hi : i < n
  · exact h i hi
  · rw [List.getElem?_eq_none (by omega), List.getElem?_eq_none (by omega)]
end Go.Proofs.YtlhnejcjeoecaaaGreatDoor
namespace Go.Proofs.YtlhnejcjeoecaaaGreatDoor
open Go.RowKit Go.Maps
theorem parse_len (s : ByteArray) (len : Int) : (parseF s len).1.length ≤ 8 := by
  have hels : ∀ (L : Int) (l : List ByteArray) (out : List (Int × Int)), elsF L l = some out → out.length ≤ l.length := by
    intro L l
    induction l with
    | nil => intro out h; cases h; simp
    | cons x r ih =>
      intro out h
      unfold elsF at h
      split at h
      · cases h
      · cases h2 : elsF L r with
        | none => rw [h2] at h; cases h
        | some q =>
          rw [h2] at h
          simp only [Option.map_some, Option.some.injEq] at h
          have := ih q h2
          rw [← h]
          split <;> simp <;> omega
  unfold parseF
  split
  · split
    · simp
    · split
      · simp
      · split
        · simp
        · rename_i out ho
          split
          · simp
          · split
            · simp
            · have := hels _ _ _ ho
              simp only
              omega
  · simp
end Go.Proofs.YtlhnejcjeoecaaaGreatDoor
