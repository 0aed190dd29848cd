/- Plain law of chapter 53: what a charge is, that it grows, that together costs at most as much, that a divided tier changes nothing. -/
import Derived.Test.YtepcnpnpjfdfmaaInvB
namespace Go.Proofs.Ytepcnpnpjfdfmaa
/-- the bytes that lie in tier i -/
def ins (n : Nat) (up : Nat → Int) (i : Nat) (b : Int) : Int := max 0 ((if i + 1 = n then b else min b (up i)) - bel up i)
def tierSum (n : Nat) (up pr : Nat → Int) (b : Int) : Nat → Nat
  | 0 => 0
  | k + 1 => tierSum n up pr b k + (pr k).toNat * (ins n up k b).toNat
def cost (n : Nat) (unit hit : Int) (up pr : Nat → Int) (h b : Int) : Nat := hit.toNat * h.toNat * unit.toNat + tierSum n up pr b n
def ceilD (a n : Nat) : Nat := (a + n - 1) / n
/-- what a charge is: the cents and the error's number -/
def ChgP (n : Nat) (unit hit least : Int) (up pr : Nat → Int) (hits bytes : Int) (c code : Int) : Prop :=
  (¬ okTar n unit hit least up pr ∧ c = 0 ∧ code = 2) ∨
  (okTar n unit hit least up pr ∧ (1099511627776 < hits ∨ 1099511627776 < bytes) ∧ c = 0 ∧ code = 5) ∨
  (okTar n unit hit least up pr ∧ hits ≤ 0 ∧ bytes ≤ 0 ∧ c = 0 ∧ code = 0) ∨
  (okTar n unit hit least up pr ∧ hits ≤ 1099511627776 ∧ bytes ≤ 1099511627776 ∧ (0 < hits ∨ 0 < bytes) ∧
    1125899906842624 < ceilD (cost n unit hit up pr (max hits 0) (max bytes 0)) (unit.toNat * 1000000) ∧ c = 0 ∧ code = 5) ∨
  (okTar n unit hit least up pr ∧ hits ≤ 1099511627776 ∧ bytes ≤ 1099511627776 ∧ (0 < hits ∨ 0 < bytes) ∧
    ceilD (cost n unit hit up pr (max hits 0) (max bytes 0)) (unit.toNat * 1000000) ≤ 1125899906842624 ∧ c = max ((ceilD (cost n unit hit up pr (max hits 0) (max bytes 0)) (unit.toNat * 1000000) : Nat) : Int) least ∧ code = 0)
theorem ChgP.uniq {n : Nat} {unit hit least : Int} {up pr : Nat → Int} {hits bytes c code c' code' : Int} (h : ChgP n unit hit least up pr hits bytes c code) (h' : ChgP n unit hit least up pr hits bytes c' code') : c = c' ∧ code = code' := by
  unfold ChgP at h h'
  rcases h with ⟨a, rfl, rfl⟩ | ⟨a, b, rfl, rfl⟩ | ⟨a, b, b2, rfl, rfl⟩ | ⟨a, b, b2, b3, b4, rfl, rfl⟩ | ⟨a, b, b2, b3, b4, rfl, rfl⟩ <;>
    rcases h' with ⟨a', rfl, rfl⟩ | ⟨a', d, rfl, rfl⟩ | ⟨a', d, d2, rfl, rfl⟩ | ⟨a', d, d2, d3, d4, rfl, rfl⟩ | ⟨a', d, d2, d3, d4, rfl, rfl⟩ <;>
    first | exact ⟨rfl, rfl⟩ | exact absurd a' a | exact absurd a a' | (exfalso; omega)
theorem ceil_mono {a b n : Nat} (h : a ≤ b) : ceilD a n ≤ ceilD b n := Nat.div_le_div_right (by omega)
theorem ceil_iff {a n q : Nat} (hn : 1 ≤ n) : ceilD a n ≤ q ↔ a ≤ q * n := by
  unfold ceilD
  rw [← Nat.lt_succ_iff, Nat.div_lt_iff_lt_mul (by omega), Nat.succ_mul]
  omega
theorem ceil_add {a b n : Nat} (hn : 1 ≤ n) : ceilD (a + b) n ≤ ceilD a n + ceilD b n := by
  rw [ceil_iff hn, Nat.add_mul]
  have h1 := (ceil_iff (a := a) (q := ceilD a n) hn).1 (Nat.le_refl _)
  have h2 := (ceil_iff (a := b) (q := ceilD b n) hn).1 (Nat.le_refl _)
  omega
theorem ceil_zero {n : Nat} (hn : 1 ≤ n) : ceilD 0 n = 0 := by
  have := (ceil_iff (a := 0) (q := 0) hn).2 (by omega)
  omega
theorem ins_bd (n : Nat) (up : Nat → Int) (i : Nat) (b : Int) (hb : 0 ≤ bel up i) (h0 : 0 ≤ b) : 0 ≤ ins n up i b ∧ ins n up i b ≤ b := by unfold ins; omega
theorem bel_ok {n : Nat} {unit hit least : Int} {up pr : Nat → Int} (h : okTar n unit hit least up pr) {k : Nat} (hk : k < n) : 0 ≤ bel up k := by
  rcases k with _ | k
  · exact Int.le_refl 0
  · rw [bel_succ]; exact (okB_yes (h.2.2.2.2.2.2 k (by omega)).2.1).1
theorem ins_mono (n : Nat) (up : Nat → Int) (i : Nat) {b b' : Int} (h : b ≤ b') : ins n up i b ≤ ins n up i b' := by unfold ins; split <;> omega
theorem tierSum_mono (n : Nat) (up pr : Nat → Int) {b b' : Int} (h : b ≤ b') (k : Nat) : tierSum n up pr b k ≤ tierSum n up pr b' k := by
  induction k with
  | zero => exact Nat.le_refl 0
  | succ k ih =>
    have h1 := ins_mono n up k h
    exact Nat.add_le_add ih (Nat.mul_le_mul_left _ (by omega))
theorem cost_mono (n : Nat) (unit hit : Int) (up pr : Nat → Int) {h h' b b' : Int} (hh : h ≤ h') (hb : b ≤ b') : cost n unit hit up pr h b ≤ cost n unit hit up pr h' b' := by
  unfold cost
  exact Nat.add_le_add (Nat.mul_le_mul_right _ (Nat.mul_le_mul_left _ (by omega))) (tierSum_mono n up pr hb n)
theorem tierSum_bd {n : Nat} {unit hit least : Int} {up pr : Nat → Int} (h : okTar n unit hit least up pr) {b : Int} (h0 : 0 ≤ b) (h1 : b ≤ 1099511627776) (k : Nat) (hk : k ≤ n) : tierSum n up pr b k ≤ k * 1208925819614629174706176 := by
  induction k with
  | zero => exact Nat.le_refl 0
  | succ k ih =>
    have h2 := ins_bd n up k b (bel_ok h (by omega)) h0
    have h3 := okB_yes (h.2.2.2.2.2.2 k (by omega)).1
    have h4 := Nat.mul_le_mul (show (pr k).toNat ≤ 1099511627776 by omega) (show (ins n up k b).toNat ≤ 1099511627776 by omega)
    have h5 := ih (by omega)
    unfold tierSum
    omega
theorem cost_bd {n : Nat} {unit hit least : Int} {up pr : Nat → Int} (h : okTar n unit hit least up pr) {x b : Int} (h0 : 0 ≤ b) (h1 : b ≤ 1099511627776) (x0 : 0 ≤ x) (x1 : x ≤ 1099511627776) : hit.toNat * x.toNat ≤ 1208925819614629174706176 ∧ hit.toNat * x.toNat * unit.toNat ≤ 1267650600228229401496703205376 ∧ cost n unit hit up pr x b ≤ 1267669943041383175361510670336 := by
  have h2 := tierSum_bd h h0 h1 n (Nat.le_refl n)
  obtain ⟨a1, a2, a3, a4, a5, -, -⟩ := h
  have h3 := okB_yes a5
  have h4 := Nat.mul_le_mul (show hit.toNat ≤ 1099511627776 by omega) (show x.toNat ≤ 1099511627776 by omega)
  have h5 := Nat.mul_le_mul h4 (show unit.toNat ≤ 1048576 by omega)
  have h6 := Nat.mul_le_mul_right 1208925819614629174706176 a2
  unfold cost
  refine ⟨by omega, by omega, by omega⟩
/-- a price that falls: together costs at most as much -/
theorem tier_sub {n : Nat} {unit hit least : Int} {up pr : Nat → Int} (h : okTar n unit hit least up pr) (hf : ∀ k, k + 1 < n → pr (k + 1) ≤ pr k) {x y : Int} (x0 : 0 ≤ x) (y0 : 0 ≤ y) (k : Nat) (hk : k < n) :
    (tierSum n up pr (x + y) k : Int) + pr k * ((x + y) - min (x + y) (bel up k)) ≤ tierSum n up pr x k + pr k * (x - min x (bel up k)) + (tierSum n up pr y k + pr k * (y - min y (bel up k))) := by
  induction k with
  | zero =>
    rw [bel_zero]
    show (0 : Int) + _ ≤ 0 + _ + (0 + _)
    rw [Int.min_eq_right x0, Int.min_eq_right y0, Int.min_eq_right (by omega : 0 ≤ x + y)]
    simp only [Int.sub_zero, Int.zero_add, Int.mul_add]
    exact Int.le_refl _
  | succ k ih =>
    have ih := ih (by omega)
    have hq := hf k hk
    have p0 := (okB_yes (h.2.2.2.2.2.2 k (by omega)).1).1
    have b0 := bel_ok h (show k < n by omega)
    have b1 := (h.2.2.2.2.2.2 k (by omega)).2.2.2 hk
    have hT : ∀ z : Int, 0 ≤ z → (tierSum n up pr z (k + 1) : Int) = tierSum n up pr z k + pr k * (min z (up k) - min z (bel up k)) := by
      intro z z0
      show ((tierSum n up pr z k + (pr k).toNat * (ins n up k z).toNat : Nat) : Int) = _
      have e1 : ((ins n up k z).toNat : Int) = min z (up k) - min z (bel up k) := by
        unfold ins
        rw [if_neg (by omega)]
        omega
      rw [Int.natCast_add, Int.natCast_mul, e1, Int.toNat_of_nonneg p0]
    rw [hT _ (by omega), hT _ x0, hT _ y0, bel_succ]
    have key : (pr k - pr (k + 1)) * ((x - min x (up k)) + (y - min y (up k))) ≤ (pr k - pr (k + 1)) * ((x + y) - min (x + y) (up k)) := Int.mul_le_mul_of_nonneg_left (by omega) (by omega)
    generalize pr k = p at *
    generalize pr (k + 1) = q at *
    generalize min x (up k) = a1 at *
    generalize min y (up k) = a2 at *
    generalize min (x + y) (up k) = a3 at *
    generalize min x (bel up k) = c1 at *
    generalize min y (bel up k) = c2 at *
    generalize min (x + y) (bel up k) = c3 at *
    generalize (tierSum n up pr x k : Int) = t1 at *
    generalize (tierSum n up pr y k : Int) = t2 at *
    generalize (tierSum n up pr (x + y) k : Int) = t3 at *
    simp only [Int.mul_sub, Int.mul_add, Int.sub_mul] at *
    omega
theorem tierSum_sub {n : Nat} {unit hit least : Int} {up pr : Nat → Int} (h : okTar n unit hit least up pr) (hf : ∀ k, k + 1 < n → pr (k + 1) ≤ pr k) {x y : Int} (x0 : 0 ≤ x) (y0 : 0 ≤ y) :
    tierSum n up pr (x + y) n ≤ tierSum n up pr x n + tierSum n up pr y n := by
  obtain ⟨m, rfl⟩ : ∃ m, n = m + 1 := ⟨n - 1, by have := h.1; omega⟩
  have hs := tier_sub h hf x0 y0 m (by omega)
  have p0 := (okB_yes (h.2.2.2.2.2.2 m (by omega)).1).1
  have b0 := bel_ok h (show m < m + 1 by omega)
  have hT : ∀ z : Int, 0 ≤ z → (tierSum (m + 1) up pr z (m + 1) : Int) = tierSum (m + 1) up pr z m + pr m * (z - min z (bel up m)) := by
    intro z z0
    show ((tierSum (m + 1) up pr z m + (pr m).toNat * (ins (m + 1) up m z).toNat : Nat) : Int) = _
    have e1 : ((ins (m + 1) up m z).toNat : Int) = z - min z (bel up m) := by
      unfold ins
      rw [if_pos rfl]
      omega
    rw [Int.natCast_add, Int.natCast_mul, e1, Int.toNat_of_nonneg p0]
  have := hT x x0
  have := hT y y0
  have := hT (x + y) (by omega)
  omega
theorem cost_sub {n : Nat} {unit hit least : Int} {up pr : Nat → Int} (h : okTar n unit hit least up pr) (hf : ∀ k, k + 1 < n → pr (k + 1) ≤ pr k) {x y u v : Int} (x0 : 0 ≤ x) (y0 : 0 ≤ y) (u0 : 0 ≤ u) (v0 : 0 ≤ v) :
    cost n unit hit up pr (u + v) (x + y) ≤ cost n unit hit up pr u x + cost n unit hit up pr v y := by
  have hs := tierSum_sub h hf x0 y0
  have e : hit.toNat * (u + v).toNat * unit.toNat = hit.toNat * u.toNat * unit.toNat + hit.toNat * v.toNat * unit.toNat := by
    rw [Int.toNat_add u0 v0, Nat.mul_add, Nat.add_mul]
  unfold cost
  omega
/-- a tier that is divided -/
def upS (up : Nat → Int) (i : Nat) (cut : Int) (j : Nat) : Int := if j < i then up j else if j = i then cut else up (j - 1)
def prS (pr : Nat → Int) (i j : Nat) : Int := if j ≤ i then pr j else pr (j - 1)
theorem bel_upS_le {up : Nat → Int} {i : Nat} {cut : Int} {j : Nat} (h : j ≤ i) : bel (upS up i cut) j = bel up j := by
  rcases j with _ | j
  · rfl
  · rw [bel_succ, bel_succ]; unfold upS; rw [if_pos (by omega)]
theorem bel_upS_gt {up : Nat → Int} {i : Nat} {cut : Int} {j : Nat} (h : i < j) : bel (upS up i cut) (j + 1) = bel up j := by
  rcases j with _ | j
  · omega
  · rw [bel_succ, bel_succ]; unfold upS; rw [if_neg (by omega), if_neg (by omega)]; rfl
theorem split_ok {n : Nat} {unit hit least : Int} {up pr : Nat → Int} (h : okTar n unit hit least up pr) {i : Nat} (hi : i < n) (hn : n ≤ 15) {cut : Int} (h0 : bel up i < cut) (h1 : cut < if i + 1 < n then up i else 1099511627777) :
    okTar (n + 1) unit hit least (upS up i cut) (prS pr i) := by
  obtain ⟨a1, a2, a3, a4, a5, a6, a7⟩ := h
  have hb := bel_ok ⟨a1, a2, a3, a4, a5, a6, a7⟩ hi
  refine ⟨by omega, by omega, a3, a4, a5, a6, fun k hk => ?_⟩
  by_cases c1 : k < i
  · have e1 : upS up i cut k = up k := if_pos c1
    have e2 : prS pr i k = pr k := if_pos (by omega)
    obtain ⟨b1, b2, b3, b4⟩ := a7 k (by omega)
    refine ⟨by rw [e2]; exact b1, by rw [e1]; exact b2, fun h => by omega, fun _ => ?_⟩
    rw [e1, bel_upS_le (by omega)]
    exact b4 (by omega)
  · by_cases c2 : k = i
    · subst c2
      have e1 : upS up k cut k = cut := by unfold upS; rw [if_neg (by omega), if_pos rfl]
      have e2 : prS pr k k = pr k := if_pos (by omega)
      obtain ⟨b1, b2, b3, b4⟩ := a7 k (by omega)
      have b5 := okB_yes b2
      refine ⟨by rw [e2]; exact b1, ?_, fun h => by omega, fun _ => ?_⟩
      · rw [e1]; unfold okB; simp only [decide_eq_true_eq]; split at h1 <;> omega
      · rw [e1, bel_upS_le (by omega)]; exact h0
    · obtain ⟨j, rfl⟩ : ∃ j, k = j + 1 := ⟨k - 1, by omega⟩
      have e1 : upS up i cut (j + 1) = up j := by unfold upS; rw [if_neg (by omega), if_neg (by omega)]; rfl
      have e2 : prS pr i (j + 1) = pr j := by unfold prS; rw [if_neg (by omega)]; rfl
      obtain ⟨b1, b2, b3, b4⟩ := a7 j (by omega)
      refine ⟨by rw [e2]; exact b1, by rw [e1]; exact b2, fun h => by rw [e1]; exact b3 (by omega), fun h => ?_⟩
      rw [e1]
      by_cases c3 : j = i
      · subst c3
        rw [bel_succ]
        have e3 : upS up j cut j = cut := by unfold upS; rw [if_neg (by omega), if_pos rfl]
        rw [e3]
        rw [if_pos (by omega)] at h1
        exact h1
      · rw [bel_upS_gt (by omega)]; exact b4 (by omega)
theorem split_low {n : Nat} {up pr : Nat → Int} {i : Nat} (hi : i < n) {cut b : Int} (k : Nat) (hk : k ≤ i) : tierSum (n + 1) (upS up i cut) (prS pr i) b k = tierSum n up pr b k := by
  induction k with
  | zero => rfl
  | succ k ih =>
    have e1 : upS up i cut k = up k := if_pos (by omega)
    have e2 : prS pr i k = pr k := if_pos (by omega)
    unfold tierSum
    rw [ih (by omega), e2]
    congr 2
    unfold ins
    rw [e1, bel_upS_le (by omega), if_neg (by omega), if_neg (by omega)]
theorem split_high {n : Nat} {up pr : Nat → Int} {i : Nat} (hi : i < n) {cut b : Int} (h0 : bel up i < cut) (h1 : i + 1 < n → cut < up i) (hb : 0 ≤ bel up i) (k : Nat) (hk : i < k) (hkn : k ≤ n) :
    tierSum (n + 1) (upS up i cut) (prS pr i) b (k + 1) = tierSum n up pr b k := by
  induction k with
  | zero => omega
  | succ k ih =>
    by_cases c : k = i
    · subst c
      have e1 : upS up k cut k = cut := by unfold upS; rw [if_neg (by omega), if_pos rfl]
      have e2 : prS pr k k = pr k := if_pos (by omega)
      have e3 : upS up k cut (k + 1) = up k := by unfold upS; rw [if_neg (by omega), if_neg (by omega)]; rfl
      have e4 : prS pr k (k + 1) = pr k := by unfold prS; rw [if_neg (by omega)]; rfl
      show tierSum (n + 1) (upS up k cut) (prS pr k) b k + (prS pr k k).toNat * (ins (n + 1) (upS up k cut) k b).toNat + (prS pr k (k + 1)).toNat * (ins (n + 1) (upS up k cut) (k + 1) b).toNat = tierSum n up pr b k + (pr k).toNat * (ins n up k b).toNat
      rw [split_low hi k (Nat.le_refl k), e2, e4, Nat.add_assoc, ← Nat.mul_add]
      congr 2
      unfold ins
      rw [bel_succ, bel_upS_le (Nat.le_refl k), e1, e3, if_neg (by omega : ¬ k + 1 = n + 1)]
      by_cases c5 : k + 1 = n
      · rw [if_pos (by omega), if_pos c5]; omega
      · have := h1 (by omega)
        rw [if_neg (by omega), if_neg c5]; omega
    · have e3 : upS up i cut (k + 1) = up k := by unfold upS; rw [if_neg (by omega), if_neg (by omega)]; rfl
      have e4 : prS pr i (k + 1) = pr k := by unfold prS; rw [if_neg (by omega)]; rfl
      have ih := ih (by omega) (by omega)
      show tierSum (n + 1) (upS up i cut) (prS pr i) b (k + 1) + (prS pr i (k + 1)).toNat * (ins (n + 1) (upS up i cut) (k + 1) b).toNat = tierSum n up pr b k + (pr k).toNat * (ins n up k b).toNat
      rw [ih, e4]
      congr 2
      unfold ins
      rw [bel_upS_gt (by omega), e3]
      by_cases c5 : k + 1 = n
      · rw [if_pos (by omega), if_pos c5]
      · rw [if_neg (by omega), if_neg c5]
theorem split_cost {n : Nat} {unit hit least : Int} {up pr : Nat → Int} (h : okTar n unit hit least up pr) {i : Nat} (hi : i < n) {cut : Int} (h0 : bel up i < cut) (h1 : cut < if i + 1 < n then up i else 1099511627777) (x b : Int) :
    cost (n + 1) unit hit (upS up i cut) (prS pr i) x b = cost n unit hit up pr x b := by
  unfold cost
  rw [split_high hi h0 (fun h => by rw [if_pos h] at h1; exact h1) (bel_ok h hi) n hi (Nat.le_refl n)]
theorem split_chg {n : Nat} {unit hit least : Int} {up pr : Nat → Int} (h : okTar n unit hit least up pr) {i : Nat} (hi : i < n) (hn : n ≤ 15) {cut : Int} (h0 : bel up i < cut) (h1 : cut < if i + 1 < n then up i else 1099511627777)
    {x b c code c' code' : Int} (g : ChgP n unit hit least up pr x b c code) (g' : ChgP (n + 1) unit hit least (upS up i cut) (prS pr i) x b c' code') : c = c' ∧ code = code' := by
  have hk := split_ok h hi hn h0 h1
  have g2 : ChgP n unit hit least up pr x b c' code' := by
    unfold ChgP at g' ⊢
    rw [split_cost h hi h0 h1] at g'
    simpa only [hk, h] using g'
  exact g.uniq g2
/-- more usage never costs less -/
theorem chg_grows {n : Nat} {unit hit least : Int} {up pr : Nat → Int} {x b x' b' c code c' code' : Int} (hx : x ≤ x') (hb : b ≤ b') (x0 : 0 ≤ x) (b0 : 0 ≤ b) (x1 : x ≤ 1099511627776) (b1 : b ≤ 1099511627776)
    (g : ChgP n unit hit least up pr x b c code) (g' : ChgP n unit hit least up pr x' b' c' code') :
    (code ≠ 0 → code' ≠ 0) ∧ (code = 0 → (x = 0 → b = 0 → c = 0) ∧ ((0 < x ∨ 0 < b) → least ≤ c) ∧ (code' = 0 → c ≤ c')) := by
  have hm := cost_mono n unit hit up pr (show max x 0 ≤ max x' 0 by omega) (show max b 0 ≤ max b' 0 by omega)
  have hc := ceil_mono (n := unit.toNat * 1000000) hm
  clear hm
  unfold ChgP at g g'
  generalize ceilD (cost n unit hit up pr (max x 0) (max b 0)) (unit.toNat * 1000000) = C at *
  generalize ceilD (cost n unit hit up pr (max x' 0) (max b' 0)) (unit.toNat * 1000000) = C' at *
  by_cases hk : okTar n unit hit least up pr
  · have hl := okB_yes hk.2.2.2.2.2.1
    simp only [hk, not_true, false_and, true_and, false_or] at g g'
    omega
  · simp only [hk, not_false_eq_true, true_and, false_and, or_false] at g g'
    omega
theorem chg_together {n : Nat} {unit hit least : Int} {up pr : Nat → Int} (hf : ∀ k, k + 1 < n → pr (k + 1) ≤ pr k) {x b x' b' c code c' code' d : Int} (x0 : 0 ≤ x) (b0 : 0 ≤ b) (x1 : 0 ≤ x') (b1 : 0 ≤ b')
    (g : ChgP n unit hit least up pr x b c code) (g' : ChgP n unit hit least up pr x' b' c' code') {code'' : Int} (g'' : ChgP n unit hit least up pr (x + x') (b + b') d code'') (h1 : code = 0) (h2 : code' = 0) (h3 : code'' = 0) : d ≤ c + c' := by
  by_cases hk : okTar n unit hit least up pr
  · have hl := okB_yes hk.2.2.2.2.2.1
    have hu := hk.2.2.1
    have hs := cost_sub hk hf b0 b1 x0 x1
    have hc := Nat.le_trans (ceil_mono (n := unit.toNat * 1000000) hs) (ceil_add (show 1 ≤ unit.toNat * 1000000 by omega))
    have z1 : x = 0 → b = 0 → cost n unit hit up pr (x + x') (b + b') = cost n unit hit up pr x' b' := by rintro rfl rfl; rw [Int.zero_add, Int.zero_add]
    have z2 : x' = 0 → b' = 0 → cost n unit hit up pr (x + x') (b + b') = cost n unit hit up pr x b := by rintro rfl rfl; rw [Int.add_zero, Int.add_zero]
    unfold ChgP at g g' g''
    rw [Int.max_eq_left x0, Int.max_eq_left b0] at g
    rw [Int.max_eq_left x1, Int.max_eq_left b1] at g'
    rw [Int.max_eq_left (by omega), Int.max_eq_left (by omega)] at g''
    simp only [hk, not_true, false_and, true_and, false_or] at g g' g''
    subst h1
    subst h2
    subst h3
    by_cases y1 : x = 0 ∧ b = 0
    · rw [z1 y1.1 y1.2] at g''
      clear hc hs z1 z2
      generalize ceilD (cost n unit hit up pr x b) (unit.toNat * 1000000) = A at *
      generalize ceilD (cost n unit hit up pr x' b') (unit.toNat * 1000000) = B at *
      omega
    · by_cases y2 : x' = 0 ∧ b' = 0
      · rw [z2 y2.1 y2.2] at g''
        clear hc hs z1 z2
        generalize ceilD (cost n unit hit up pr x b) (unit.toNat * 1000000) = A at *
        generalize ceilD (cost n unit hit up pr x' b') (unit.toNat * 1000000) = B at *
        omega
      · clear hs z1 z2
        generalize ceilD (cost n unit hit up pr x b) (unit.toNat * 1000000) = A at *
        generalize ceilD (cost n unit hit up pr x' b') (unit.toNat * 1000000) = B at *
        generalize ceilD (cost n unit hit up pr (x + x') (b + b')) (unit.toNat * 1000000) = C at *
        omega
  · unfold ChgP at g
    simp only [hk, not_false_eq_true, true_and, false_and, or_false] at g
    omega
end Go.Proofs.Ytepcnpnpjfdfmaa
