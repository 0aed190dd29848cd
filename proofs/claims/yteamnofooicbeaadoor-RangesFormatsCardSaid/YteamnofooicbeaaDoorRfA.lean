/- Chapter 09: the text of a list of ranges, and what Parse reads of it (plain). -/
import Derived.Test.YteamnofooicbeaaDoorRgQ
import Derived.Test.YteamnofooicbeaaDoorRgS
import Derived.Lib.Join
namespace Go.Proofs.YteamnofooicbeaaDoor
open Go.RowKit
/-- what follows the first element -/
def tl : List (List UInt8) → List UInt8
  | [] => []
  | y :: r => 44 :: (y ++ tl r)
theorem tl_join (r : List (List UInt8)) : Lib.joinTail [44] r = tl r := by
  induction r with
  | nil => rfl
  | cons y r ih =>
    show ((y :: r).map ([44] ++ ·)).flatten = _
    rw [List.map_cons, List.flatten_cons]
    have : (r.map ([44] ++ ·)).flatten = tl r := ih
    rw [this]
    rfl
theorem scn_skip {s : ByteArray} {fr : Nat} : ∀ (n i : Nat), i + n ≤ s.size → (∀ k, i ≤ k → k < i + n → byt s k ≠ 34 ∧ byt s k ≠ 44) → scn s i fr false = scn s (i + n) fr false
  | 0, _, _, _ => rfl
  | n + 1, i, hn, h => by
    have h0 := h i (Nat.le_refl _) (by omega)
    rw [scn_on (by omega) (by simp) h0.1 (fun hh => h0.2 hh.2), scn_skip n (i + 1) (by omega) (fun k h1 h2 => h k (by omega) (by omega)), show i + 1 + n = i + (n + 1) by omega]
theorem ext_mid (pre x z : List UInt8) : (bs (pre ++ (x ++ z))).extract pre.length (pre.length + x.length) = bs x := by
  refine bs_ext ?_
  rw [ext_list, bs_mk, bs_mk, List.drop_left, Nat.add_sub_cancel_left, List.take_left]
theorem byt_mid {pre x z : List UInt8} {k : Nat} (h1 : pre.length ≤ k) (h2 : k < pre.length + x.length) : ∃ c ∈ x, byt (bs (pre ++ (x ++ z))) k = c.toNat := by
  have hk : k < (pre ++ (x ++ z)).length := by simp; omega
  refine ⟨x[k - pre.length], List.getElem_mem _, ?_⟩
  rw [byt_mk _ k hk, List.getElem_append_right h1, List.getElem_append_left (by omega)]
theorem scn_join : ∀ (r : List (List UInt8)) (x pre : List UInt8), plain x → (∀ y ∈ r, plain y) → scn (bs (pre ++ (x ++ tl r))) pre.length pre.length false = some (bs x :: r.map bs)
  | [], x, pre, hx, _ => by
    have hsz : (bs (pre ++ (x ++ tl []))).size = pre.length + x.length := by rw [bs_size]; simp [tl]
    rw [scn_skip x.length pre.length (by omega) (fun k h1 h2 => by
      obtain ⟨c, hc, e⟩ := byt_mid (z := tl []) h1 h2
      have := hx c hc
      omega), scn_end (by omega), hsz, ext_mid, trim_plain hx]
    rfl
  | y :: r, x, pre, hx, hr => by
    have hsz : (bs (pre ++ (x ++ tl (y :: r)))).size = pre.length + x.length + 1 + (y ++ tl r).length := by rw [bs_size]; simp [tl]; omega
    rw [scn_skip x.length pre.length (by omega) (fun k h1 h2 => by
      obtain ⟨c, hc, e⟩ := byt_mid (z := tl (y :: r)) h1 h2
      have := hx c hc
      omega)]
    have hb : byt (bs (pre ++ (x ++ tl (y :: r)))) (pre.length + x.length) = 44 := by
      rw [byt_mk _ _ (by simp [tl]), List.getElem_append_right (by omega), List.getElem_append_right (by omega)]
      simp [tl]
    rw [scn_sep (by omega) hb, ext_mid, trim_plain hx]
    have ih := scn_join r y (pre ++ (x ++ [44])) (hr y (by simp)) (fun z hz => hr z (by simp [hz]))
    have e1 : pre ++ (x ++ [44]) ++ (y ++ tl r) = pre ++ (x ++ tl (y :: r)) := by simp [tl]
    have e2 : (pre ++ (x ++ [44])).length = pre.length + x.length + 1 := by simp; omega
    rw [e1, e2] at ih
    rw [ih]
    rfl
theorem list_join {x : List UInt8} {r : List (List UInt8)} (hx : plain x) (hr : ∀ y ∈ r, plain y) (h0 : 0 < x.length) (h1 : ∀ y ∈ r, 0 < y.length) : listF (bs (x ++ tl r)) = some (bs x :: r.map bs) := by
  have hb : ∀ (r : List (List UInt8)), (∀ y ∈ r, plain y) → ∀ c ∈ tl r, 44 ≤ c.toNat ∧ c.toNat ≤ 57 := by
    intro r
    induction r with
    | nil => intro _ c hc; cases hc
    | cons y r ih =>
      intro h c hc
      rcases List.mem_cons.1 hc with rfl | hc
      · decide
      · rcases List.mem_append.1 hc with hc | hc
        · have := h y (by simp) c hc; omega
        · exact ih (fun z hz => h z (by simp [hz])) c hc
  have hall : ∀ c ∈ x ++ tl r, 44 ≤ c.toNat ∧ c.toNat ≤ 57 := by
    intro c hc
    rcases List.mem_append.1 hc with hc | hc
    · have := hx c hc; omega
    · exact hb r hr c hc
  have hc : cleanF (bs (x ++ tl r)) = true := decide_eq_true fun i hi => by
    obtain ⟨c, hc, e⟩ := bs_byt hi
    have := hall c hc
    rw [e]
    unfold ctl
    simp
    omega
  have hs := scn_join r x [] hx hr
  unfold listF partsF
  rw [hc, if_pos rfl]
  have e : scn (bs (x ++ tl r)) 0 0 false = some (bs x :: r.map bs) := hs
  rw [e, Option.map_some]
  have hf : (bs x :: r.map bs).filter neS = bs x :: r.map bs := by
    rw [List.filter_eq_self]
    intro z hz
    rcases List.mem_cons.1 hz with rfl | hz
    · exact decide_eq_true (by rw [bs_size]; omega)
    · obtain ⟨y, hy, rfl⟩ := List.mem_map.1 hz
      have := h1 y hy
      exact decide_eq_true (by rw [bs_size]; omega)
  rw [hf]
/-- an element -/
def elL (p : Int × Int) : List UInt8 := Lib.itoa p.1 ++ 45 :: Lib.itoa (p.2 - 1)
theorem okR_parts {f t : Int} (h : okR f t = true) : 0 ≤ f ∧ f < t ∧ t ≤ 999999999999999 := of_decide_eq_true h
theorem el_facts {p : Int × Int} (h : okR p.1 p.2 = true) : plain (elL p) ∧ 0 < (elL p).length ∧ (elL p).length ≤ 40 ∧ ∀ len, p.2 ≤ len → elF (bs (elL p)) len = some p := by
  obtain ⟨f, t⟩ := p
  obtain ⟨h0, h1, h2⟩ := okR_parts h
  obtain ⟨u, rfl⟩ := Int.eq_ofNat_of_zero_le h0
  obtain ⟨v, rfl⟩ : ∃ v : Nat, t = (v : Int) + 1 := ⟨(t - 1).toNat, by omega⟩
  unfold elL
  simp only
  rw [show (v : Int) + 1 - 1 = (v : Int) by omega]
  refine ⟨plain_dash (itoa_digs u) (itoa_digs v), by simp; omega, ?_, fun len hl => ?_⟩
  · have k1 := (itoa_len u 15 (by omega) (by omega)).2
    have k2 := (itoa_len v 15 (by omega) (by omega)).2
    simp only [List.length_append, List.length_cons]
    omega
  · rw [el_two (by omega) (by omega) (by omega) len, show min len ((v : Int) + 1) = (v : Int) + 1 by omega]
theorem els_all (len : Int) : ∀ (xs : List (Int × Int)), (∀ p ∈ xs, okR p.1 p.2 = true ∧ p.2 ≤ len) → elsF len (xs.map fun p => bs (elL p)) = some xs
  | [], _ => rfl
  | p :: r, h => by
    have h1 := h p (by simp)
    have h2 := (okR_parts h1.1).2.1
    rw [List.map_cons, elsF, (el_facts h1.1).2.2.2 len h1.2]
    simp only
    rw [els_all len r (fun q hq => h q (by simp [hq]))]
    simp [h2]
/-- the elements, joined by commas -/
def fmtL : List (Int × Int) → List UInt8
  | [] => []
  | p :: r => elL p ++ tl (r.map elL)
theorem fmt_parse (xs : List (Int × Int)) (len : Int) (h0 : xs ≠ []) (hl : 0 ≤ len) (h : ∀ p ∈ xs, okR p.1 p.2 = true ∧ p.2 ≤ len) : parseF (bs (pfxL ++ fmtL xs)) len = if 8 < xs.length then ([], 5) else (xs, 0) := by
  cases xs with
  | nil => exact absurd rfl h0
  | cons p r =>
    have hp := el_facts (h p (by simp)).1
    have hr : ∀ y ∈ r.map elL, plain y ∧ 0 < y.length := fun y hy => by
      obtain ⟨q, hq, rfl⟩ := List.mem_map.1 hy
      have := el_facts (h q (by simp [hq])).1
      exact ⟨this.1, this.2.1⟩
    have hlist := list_join hp.1 (fun y hy => (hr y hy).1) hp.2.1 (fun y hy => (hr y hy).2)
    have he := els_all len (p :: r) h
    rw [List.map_cons] at he
    unfold parseF
    rw [pfx_app, if_pos rfl, rest_app]
    have e1 : fmtL (p :: r) = elL p ++ tl (r.map elL) := rfl
    rw [e1, hlist]
    simp only
    rw [if_neg (by simp), show max 0 len = len by omega]
    have e2 : bs (elL p) :: (r.map elL).map bs = bs (elL p) :: r.map fun p => bs (elL p) := by simp
    rw [e2, he]
    simp only
    by_cases h8 : 8 < (p :: r).length
    · rw [if_pos (by simpa using h8), if_pos h8]
    · rw [if_neg (by simpa using h8), if_neg h8, if_neg (by simp)]
theorem tl_length (n : Nat) : ∀ (r : List (List UInt8)), (∀ y ∈ r, y.length ≤ n) → (tl r).length ≤ r.length * (n + 1)
  | [], _ => by simp [tl]
  | y :: r, h => by
    have h1 := tl_length n r (fun z hz => h z (by simp [hz]))
    have h2 := h y (by simp)
    simp only [tl, List.length_cons, List.length_append]
    rw [Nat.succ_mul]
    omega
theorem fmt_length (xs : List (Int × Int)) (h : ∀ p ∈ xs, okR p.1 p.2 = true) : (fmtL xs).length ≤ xs.length * 41 := by
  cases xs with
  | nil => simp [fmtL]
  | cons p r =>
    have h1 := (el_facts (h p (by simp))).2.2.1
    have h2 := tl_length 40 (r.map elL) (fun y hy => by
      obtain ⟨q, hq, rfl⟩ := List.mem_map.1 hy
      exact (el_facts (h q (by simp [hq]))).2.2.1)
    simp only [fmtL, List.length_append, List.length_cons]
    rw [List.length_map] at h2
    omega
theorem tl_append : ∀ (r : List (List UInt8)) (y : List UInt8), tl (r ++ [y]) = tl r ++ 44 :: y
  | [], y => by simp [tl]
  | z :: r, y => by simp [tl, tl_append r y]
/-- one element more -/
theorem fmt_snoc (xs : List (Int × Int)) (p : Int × Int) : fmtL (xs ++ [p]) = if xs = [] then elL p else fmtL xs ++ 44 :: elL p := by
  cases xs with
  | nil => simp [fmtL, tl]
  | cons q r => simp [fmtL, tl_append]
theorem fmt_join (xs : List (Int × Int)) : Lib.join (xs.map elL) [44] = fmtL xs := by
  cases xs with
  | nil => rfl
  | cons p r =>
    rw [List.map_cons, Lib.join_cons, tl_join]
    rfl
end Go.Proofs.YteamnofooicbeaaDoor
