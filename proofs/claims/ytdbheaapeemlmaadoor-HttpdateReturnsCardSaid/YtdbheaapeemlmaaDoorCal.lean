/- Plain calendar arithmetic of chapter 04 (no program in sight). -/
namespace Go.Proofs.YtdbheaapeemlmaaDoor.Cal

def leapB (y : Int) : Bool := (y % 4 == 0 && !(y % 100 == 0)) || y % 400 == 0
def lp (y : Int) : Int := if leapB y = true then 1 else 0
def dim (y m : Int) : Int := if m = 2 then 28 + lp y else if m = 4 ∨ m = 6 ∨ m = 9 ∨ m = 11 then 30 else 31
def bef (y : Int) : Int := 365 * (y - 1970) + (y - 1) / 4 - (y - 1) / 100 + (y - 1) / 400 - 477
def cum (y m : Int) : Int := if m ≤ 1 then 0 else if m = 2 then 31 else 59 + lp y + (153 * (m - 3) + 2) / 5
def num (y m d : Int) : Int := bef y + cum y m + d - 1
/-- a date from 1970 to 9999 -/
def Vld (y m d : Int) : Prop := 1970 ≤ y ∧ y ≤ 9999 ∧ 1 ≤ m ∧ m ≤ 12 ∧ 1 ≤ d ∧ d ≤ dim y m
def vldB (y m d : Int) : Bool := decide (1970 ≤ y ∧ y ≤ 9999 ∧ 1 ≤ m ∧ m ≤ 12 ∧ 1 ≤ d ∧ d ≤ dim y m)
theorem vldB_iff {y m d : Int} : vldB y m d = true ↔ Vld y m d := by unfold vldB Vld; simp
theorem vldB_not {y m d : Int} : vldB y m d = false ↔ ¬ Vld y m d := by
  rw [← vldB_iff]; simp

theorem lp_cases (y : Int) : lp y = 0 ∨ lp y = 1 := by unfold lp; split <;> simp
theorem lp_iff (y : Int) : (lp y = 1 ↔ (y % 4 = 0 ∧ y % 100 ≠ 0 ∨ y % 400 = 0)) := by
  unfold lp leapB
  by_cases a : y % 4 = 0 <;> by_cases b : y % 100 = 0 <;> by_cases c : y % 400 = 0 <;> simp [a, b, c]
theorem leapB_lp (y : Int) : leapB y = decide (lp y = 1) := by
  unfold lp; cases leapB y <;> simp
theorem dim_lo (y m : Int) : 28 ≤ dim y m := by
  have := lp_cases y
  unfold dim; (repeat' split) <;> omega
theorem dim_hi (y m : Int) : dim y m ≤ 31 := by
  have := lp_cases y
  unfold dim; (repeat' split) <;> omega
theorem bef_mono (a b : Int) (h : a ≤ b) : bef a ≤ bef b := by unfold bef; omega
theorem bef_succ (y : Int) : bef (y + 1) = bef y + 365 + lp y := by
  have h1 := lp_cases y
  have h2 := lp_iff y
  have e : y + 1 - 1 = y := by omega
  unfold bef
  rw [e]
  by_cases c : lp y = 1
  · have := h2.1 c; omega
  · have h3 : ¬ (y % 4 = 0 ∧ y % 100 ≠ 0 ∨ y % 400 = 0) := fun x => c (h2.2 x)
    omega
theorem bef_1970 : bef 1970 = 0 := by decide
theorem bef_10000 : bef 10000 = 2932897 := by decide
theorem bef_bd (y : Int) (h0 : 1970 ≤ y) (h1 : y ≤ 10000) : 0 ≤ bef y ∧ bef y ≤ 2932897 := by
  have a := bef_mono 1970 y h0
  have b := bef_mono y 10000 h1
  rw [bef_1970] at a
  rw [bef_10000] at b
  exact ⟨a, b⟩
theorem cum_1 (y : Int) : cum y 1 = 0 := by simp [cum]
theorem cum_succ (y m : Int) (h0 : 1 ≤ m) (h1 : m ≤ 12) : cum y (m + 1) = cum y m + dim y m := by
  have h : m = 1 ∨ m = 2 ∨ m = 3 ∨ m = 4 ∨ m = 5 ∨ m = 6 ∨ m = 7 ∨ m = 8 ∨ m = 9 ∨ m = 10 ∨ m = 11 ∨ m = 12 := by omega
  rcases h with rfl | rfl | rfl | rfl | rfl | rfl | rfl | rfl | rfl | rfl | rfl | rfl <;> simp [cum, dim] <;> omega
theorem cum_13 (y : Int) : cum y 13 = 365 + lp y := by simp [cum]; omega
theorem cum_bd (y m : Int) (h0 : 1 ≤ m) (h1 : m ≤ 13) : 0 ≤ cum y m ∧ cum y m ≤ 366 := by
  have := lp_cases y
  unfold cum; (repeat' split) <;> omega
theorem cum_mono (y m : Int) (h0 : 1 ≤ m) (h1 : m ≤ 12) : cum y m + dim y m ≤ 365 + lp y := by
  have h : m = 1 ∨ m = 2 ∨ m = 3 ∨ m = 4 ∨ m = 5 ∨ m = 6 ∨ m = 7 ∨ m = 8 ∨ m = 9 ∨ m = 10 ∨ m = 11 ∨ m = 12 := by omega
  have := lp_cases y
  rcases h with rfl | rfl | rfl | rfl | rfl | rfl | rfl | rfl | rfl | rfl | rfl | rfl <;> simp [cum, dim] <;> omega
theorem cum_12 (y : Int) : cum y 12 + dim y 12 = 365 + lp y := by simp [cum, dim]; omega
theorem cum_lt (y m k : Int) (h0 : 1 ≤ m) (h1 : m < k) (h2 : k ≤ 12) : cum y m + dim y m ≤ cum y k := by
  have hl := lp_cases y
  have hs := cum_succ y m h0 (by omega)
  rw [← hs]
  have h : k = m + 1 ∨ m + 1 < k := by omega
  rcases h with rfl | h
  · exact Int.le_refl _
  · unfold cum; (repeat' split) <;> omega

theorem num_bd {y m d : Int} (h : Vld y m d) : bef y ≤ num y m d ∧ num y m d < bef (y + 1) := by
  obtain ⟨h1, h2, h3, h4, h5, h6⟩ := h
  have a := cum_bd y m h3 (by omega)
  have b := cum_mono y m h3 h4
  have c := bef_succ y
  unfold num
  omega
theorem num_range {y m d : Int} (h : Vld y m d) : 0 ≤ num y m d ∧ num y m d ≤ 2932896 := by
  have a := num_bd h
  have b := bef_bd y h.1 (by have := h.2.1; omega)
  have c := bef_bd (y + 1) (by have := h.1; omega) (by have := h.2.1; omega)
  omega
/-- a day has one date -/
theorem num_inj {y m d y' m' d' : Int} (h : Vld y m d) (h' : Vld y' m' d') (e : num y m d = num y' m' d') : y = y' ∧ m = m' ∧ d = d' := by
  have a := num_bd h
  have b := num_bd h'
  have hy : y = y' := by
    rcases Int.lt_trichotomy y y' with c | c | c
    · have := bef_mono (y + 1) y' (by omega); omega
    · exact c
    · have := bef_mono (y' + 1) y (by omega); omega
  subst hy
  obtain ⟨_, _, h3, h4, h5, h6⟩ := h
  obtain ⟨_, _, g3, g4, g5, g6⟩ := h'
  unfold num at e
  have hm : m = m' := by
    rcases Int.lt_trichotomy m m' with c | c | c
    · have := cum_lt y m m' h3 c g4; omega
    · exact c
    · have := cum_lt y m' m g3 c h4; omega
  subst hm
  exact ⟨rfl, rfl, by omega⟩
/-- the first guess of a year is not too late -/
theorem guess (n : Int) (h0 : 0 ≤ n) (h1 : n ≤ 2932896) : bef (1970 + n / 366) ≤ n ∧ 1970 ≤ 1970 + n / 366 ∧ 1970 + n / 366 ≤ 9999 := by
  unfold bef; omega
end Go.Proofs.YtdbheaapeemlmaaDoor.Cal
