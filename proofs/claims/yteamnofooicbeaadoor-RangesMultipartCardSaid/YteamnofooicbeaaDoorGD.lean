/- Chapter 09: what a multipart body reads as (plain). Chapter 09: what a multipart body reads as: the parts that are still to come (plain). Chapter 09: slices of parts (both kinds): rows of three cells. Chapter 09: what is asked of a part's bytes (plain). Chapter 09: a part's bytes in memory; the program's parts. Chapter 09: the append of a part to the program's parts, between two steps of the reader. -/
import Derived.Test.YteamnofooicbeaaDoorRdE
import Derived.Test.YteamnofooicbeaaDoorRdA
import Derived.Test.YteamnofooicbeaaDoorRdB
import Derived.Test.YteamnofooicbeaaDoorRgY
import Derived.Test.YteamnofooicbeaaDoorRmM
import Derived.Laws.IdiomStrings
namespace Go.Proofs.YteamnofooicbeaaDoor
open Go.RowKit
theorem prefix_app : ∀ (p q l : List UInt8), (p ++ q).isPrefixOf l = (p.isPrefixOf l && q.isPrefixOf (l.drop p.length))
  | [], q, l => by simp
  | a :: p, q, [] => by simp
  | a :: p, q, b :: l => by
    have ih := prefix_app p q l
    simp only [List.cons_append, List.isPrefixOf, List.length_cons, List.drop_succ_cons]
    rw [ih, Bool.and_assoc]
/-- what stands behind a beginning -/
def aft (p s : ByteArray) : ByteArray := s.extract p.size s.size
theorem aft_list (p s : ByteArray) : (aft p s).data.toList = s.data.toList.drop p.data.toList.length := by
  unfold aft
  rw [← ByteArray.toList_eq, Lib.extract_toList, List.take_of_length_le (by rw [List.length_drop, ← Lib.size_eq]; exact Nat.le_refl _), Lib.size_eq]
theorem aft_size (p s : ByteArray) : (aft p s).size = s.size - p.size := by
  unfold aft
  rw [ByteArray.size_extract]
  omega
theorem app_list (p q : ByteArray) : (p ++ q).data.toList = p.data.toList ++ q.data.toList := by simp
theorem app_size (p q : ByteArray) : (p ++ q).size = p.size + q.size := by
  rw [Lib.size_eq, app_list, List.length_append, ← Lib.size_eq, ← Lib.size_eq]
theorem pfxB_app (p q s : ByteArray) : pfxB (p ++ q) s = (pfxB p s && pfxB q (aft p s)) := by
  show (p ++ q).data.toList.isPrefixOf s.data.toList = _
  rw [app_list, prefix_app]
  show _ = (p.data.toList.isPrefixOf s.data.toList && q.data.toList.isPrefixOf (aft p s).data.toList)
  rw [aft_list]
theorem aft_app (p q s : ByteArray) : aft (p ++ q) s = aft q (aft p s) := by
  refine bs_ext ?_
  rw [ByteArray.toList_eq, ByteArray.toList_eq, aft_list, aft_list, aft_list, app_list, List.length_append, List.drop_drop]
def crlB : ByteArray := ⟨#[13, 10]⟩
theorem cutB_head {t : ByteArray} (h : pfxB crlB t = true) : cutB t = (⟨#[]⟩, aft crlB t, true) := by
  have hs : 2 ≤ t.size := pfxB_size h
  have hp := List.isPrefixOf_iff_prefix.1 h
  have hb : ∀ j, j < 2 → t.data.toList[j]? = ([13, 10] : List UInt8)[j]? := by
    intro j hj
    obtain ⟨r, hr⟩ := hp
    rw [← hr, List.getElem?_append_left (by exact hj)]
    rfl
  have h0 := hb 0 (by omega)
  have h1 := hb 1 (by omega)
  rw [byt_list t 0 (by omega)] at h0
  rw [byt_list t 1 (by omega)] at h1
  rw [cutB_at (i := 0) (by omega) (by rw [byt_is (by omega : 0 < t.size), Option.some.inj h0]; rfl) (by rw [byt_is (by omega : 0 + 1 < t.size), Option.some.inj h1]; rfl) (fun j hj => by omega)]
  refine Prod.ext ?_ (Prod.ext ?_ rfl)
  · exact bs_ext (by rw [Lib.extract_toList, ByteArray.toList_eq]; rfl)
  · rfl
theorem cutB_empty {t : ByteArray} (h : (cutB t).2.2 = true) (h1 : (cutB t).1 = ⟨#[]⟩) : pfxB crlB t = true := by
  unfold cutB Lib.cut at h h1
  rcases Lib.index_spec t.data.toList [13, 10] with ⟨e, _⟩ | ⟨k, e, h2, h3, _⟩
  · rw [e, if_neg (by omega)] at h
    cases h
  · rw [e, if_pos (by omega)] at h1
    simp only at h1
    have h4 : t.data.toList.take k = [] := by
      have := congrArg (fun x : ByteArray => x.data.toList) h1
      simpa using this
    have h5 : k = 0 := by
      rcases List.take_eq_nil_iff.1 h4 with h | h
      · exact h
      · rw [h] at h2
        simpa using h2
    subst h5
    exact h3
theorem line_head {p s : ByteArray} : (lineF p s).2.2 = true ∧ (lineF p s).1 = ⟨#[]⟩ ↔ pfxB (p ++ crlB) s = true := by
  rw [pfxB_app, Bool.and_eq_true]
  unfold lineF
  show _ ↔ pfxB p s = true ∧ pfxB crlB (aft p s) = true
  constructor
  · rintro ⟨h1, h2⟩
    by_cases hp : pfxB p s = true
    · rw [if_pos hp] at h1 h2
      by_cases hc : (cutB (s.extract p.size s.size)).2.2 = true
      · rw [if_pos hc] at h1 h2
        exact ⟨hp, cutB_empty hc h2⟩
      · rw [if_neg hc] at h1
        cases h1
    · rw [if_neg hp] at h1
      cases h1
  · rintro ⟨h1, h2⟩
    have e := cutB_head h2
    have e' : cutB (s.extract p.size s.size) = (⟨#[]⟩, aft crlB (aft p s), true) := e
    rw [if_pos h1, e', if_pos rfl]
    exact ⟨rfl, rfl⟩
theorem line_rest {p s : ByteArray} (h : pfxB (p ++ crlB) s = true) : (lineF p s).2.1 = aft (p ++ crlB) s := by
  rw [pfxB_app, Bool.and_eq_true] at h
  have e' : cutB (s.extract p.size s.size) = (⟨#[]⟩, aft crlB (aft p s), true) := cutB_head h.2
  unfold lineF
  rw [if_pos h.1, e', if_pos rfl, aft_app]
theorem line_ok {p s : ByteArray} : (lineF p s).2.2 = true ↔ pfxB p s = true ∧ (cutB (aft p s)).2.2 = true := by
  unfold lineF
  constructor
  · intro h
    by_cases hp : pfxB p s = true
    · rw [if_pos hp] at h
      by_cases hc : (cutB (s.extract p.size s.size)).2.2 = true
      · exact ⟨hp, hc⟩
      · rw [if_neg hc] at h
        cases h
    · rw [if_neg hp] at h
      cases h
  · rintro ⟨h1, h2⟩
    have h2' : (cutB (s.extract p.size s.size)).2.2 = true := h2
    rw [if_pos h1, if_pos h2']
    exact h2'
theorem line_is {p s : ByteArray} (h : (lineF p s).2.2 = true) : lineF p s = cutB (aft p s) := by
  obtain ⟨h1, h2⟩ := line_ok.1 h
  have h2' : (cutB (s.extract p.size s.size)).2.2 = true := h2
  unfold lineF
  rw [if_pos h1, if_pos h2']
  rfl
def ctB : ByteArray := ⟨#[67, 111, 110, 116, 101, 110, 116, 45, 84, 121, 112, 101, 58, 32]⟩
def crB : ByteArray := ⟨#[67, 111, 110, 116, 101, 110, 116, 45, 82, 97, 110, 103, 101, 58, 32]⟩
def e1B (b : ByteArray) : ByteArray := ⟨#[45, 45]⟩ ++ b
def hdB (b : ByteArray) : ByteArray := ⟨#[45, 45]⟩ ++ b ++ ⟨#[13, 10, 67, 111, 110, 116, 101, 110, 116, 45, 84, 121, 112, 101, 58, 32]⟩
def finB (b : ByteArray) : ByteArray := ⟨#[45, 45]⟩ ++ b ++ ⟨#[45, 45, 13, 10]⟩
theorem hd_is (b : ByteArray) : hdB b = (e1B b ++ crlB) ++ ctB := by
  unfold hdB e1B
  rw [ByteArray.append_assoc (b := crlB)]
  rfl
/-- a part's head, as the program reads it: its kind, its range, what follows -/
def k1 (b s : ByteArray) : ByteArray × ByteArray × Bool := cutB (aft (hdB b) s)
def k2 (b s : ByteArray) : ByteArray × ByteArray × Bool := cutB (aft crB (k1 b s).2.1)
def okP (b s : ByteArray) : Prop := pfxB (hdB b) s = true ∧ (k1 b s).2.2 = true ∧ pfxB crB (k1 b s).2.1 = true ∧ (k2 b s).2.2 = true ∧ pfxB crlB (k2 b s).2.1 = true
/-- and as the reference does -/
def l1 (b s : ByteArray) : ByteArray × ByteArray × Bool := lineF (e1B b) s
def l2 (b s : ByteArray) : ByteArray × ByteArray × Bool := lineF ctB (l1 b s).2.1
def l3 (b s : ByteArray) : ByteArray × ByteArray × Bool := lineF crB (l2 b s).2.1
def l4 (b s : ByteArray) : ByteArray × ByteArray × Bool := lineF ⟨#[]⟩ (l3 b s).2.1
def okQ (b s : ByteArray) : Prop := (l1 b s).2.2 = true ∧ (l2 b s).2.2 = true ∧ (l3 b s).2.2 = true ∧ (l4 b s).2.2 = true ∧ (l1 b s).1 = ⟨#[]⟩ ∧ (l4 b s).1 = ⟨#[]⟩
theorem empty_app (p : ByteArray) : (⟨#[]⟩ : ByteArray) ++ p = p := bs_ext (by rw [ByteArray.toList_eq, ByteArray.toList_eq, app_list]; rfl)
section
attribute [local irreducible] cutB lineF aft pfxB crlB
theorem head_gen {E C R s H Z : ByteArray} {L1 L2 L3 L4 K1 K2 : ByteArray × ByteArray × Bool} (hH : H = (E ++ crlB) ++ C) (hZ : Z = ⟨#[]⟩) (g0 : L1 = lineF E s) (g1 : L2 = lineF C L1.2.1) (g2 : L3 = lineF R L2.2.1) (g3 : L4 = lineF Z L3.2.1) (f1 : K1 = cutB (aft H s)) (f2 : K2 = cutB (aft R K1.2.1)) :
    ((L1.2.2 = true ∧ L2.2.2 = true ∧ L3.2.2 = true ∧ L4.2.2 = true ∧ L1.1 = ⟨#[]⟩ ∧ L4.1 = ⟨#[]⟩) ↔ (pfxB H s = true ∧ K1.2.2 = true ∧ pfxB R K1.2.1 = true ∧ K2.2.2 = true ∧ pfxB crlB K2.2.1 = true)) ∧
    ((pfxB H s = true ∧ K1.2.2 = true ∧ pfxB R K1.2.1 = true ∧ K2.2.2 = true ∧ pfxB crlB K2.2.1 = true) → L2.1 = K1.1 ∧ L3.1 = K2.1 ∧ L4.2.1 = aft crlB K2.2.1) := by
  have hp1 : pfxB H s = (pfxB (E ++ crlB) s && pfxB C (aft (E ++ crlB) s)) := by rw [hH, pfxB_app]
  have ha : aft H s = aft C (aft (E ++ crlB) s) := by rw [hH, aft_app]
  have key : (pfxB H s = true ∧ K1.2.2 = true ∧ pfxB R K1.2.1 = true ∧ K2.2.2 = true ∧ pfxB crlB K2.2.1 = true) → (L1.2.2 = true ∧ L1.1 = ⟨#[]⟩) ∧ L2 = K1 ∧ L3 = K2 ∧ (L4.2.2 = true ∧ L4.1 = ⟨#[]⟩) ∧ L4.2.1 = aft crlB K2.2.1 := by
    rintro ⟨a1, a2, a3, a4, a5⟩
    rw [hp1, Bool.and_eq_true] at a1
    have e1 : L1.2.1 = aft (E ++ crlB) s := by rw [g0]; exact line_rest a1.1
    have b2 : (lineF C L1.2.1).2.2 = true := by
      rw [e1, line_ok]
      exact ⟨a1.2, by rw [← ha, ← f1]; exact a2⟩
    have e2 : L2 = K1 := by
      rw [g1, line_is b2, e1, ← ha, ← f1]
    have b3 : (lineF R L2.2.1).2.2 = true := by
      rw [e2, line_ok]
      exact ⟨a3, by rw [← f2]; exact a4⟩
    have e3 : L3 = K2 := by
      rw [g2, line_is b3, e2, ← f2]
    have a5' : pfxB (Z ++ crlB) L3.2.1 = true := by rw [hZ, empty_app, e3]; exact a5
    have b4 := line_head.2 a5'
    have e4 := line_rest a5'
    rw [← g3] at b4 e4
    rw [hZ, empty_app, e3] at e4
    have b1 := line_head.2 a1.1
    rw [← g0] at b1
    exact ⟨b1, e2, e3, b4, e4⟩
  constructor
  · constructor
    · rintro ⟨c1, c2, c3, c4, c5, c6⟩
      have a1 : pfxB (E ++ crlB) s = true := line_head.1 (by rw [← g0]; exact ⟨c1, c5⟩)
      have e1 : L1.2.1 = aft (E ++ crlB) s := by rw [g0]; exact line_rest a1
      have c2' : (lineF C L1.2.1).2.2 = true := by rw [← g1]; exact c2
      have d2 := line_ok.1 c2'
      have e2 : L2 = K1 := by rw [g1, line_is c2', e1, ← ha, ← f1]
      have c3' : (lineF R L2.2.1).2.2 = true := by rw [← g2]; exact c3
      have d3 := line_ok.1 c3'
      have e3 : L3 = K2 := by rw [g2, line_is c3', e2, ← f2]
      have a5 : pfxB (Z ++ crlB) L3.2.1 = true := line_head.1 (by rw [← g3]; exact ⟨c4, c6⟩)
      rw [hZ, empty_app, e3] at a5
      rw [e1] at d2
      rw [e2] at d3
      exact ⟨by rw [hp1, a1, d2.1]; rfl, by rw [f1, ha]; exact d2.2, d3.1, by rw [f2]; exact d3.2, a5⟩
    · intro h
      obtain ⟨⟨d1, d2⟩, e2, e3, ⟨d5, d6⟩, -⟩ := key h
      exact ⟨d1, by rw [e2]; exact h.2.1, by rw [e3]; exact h.2.2.2.1, d5, d2, d6⟩
  · intro h
    obtain ⟨-, e2, e3, -, e4⟩ := key h
    rw [e2, e3]
    exact ⟨rfl, rfl, e4⟩
end
theorem head_same (b s : ByteArray) : (okQ b s ↔ okP b s) ∧ (okP b s → (l2 b s).1 = (k1 b s).1 ∧ (l3 b s).1 = (k2 b s).1 ∧ (l4 b s).2.1 = aft crlB (k2 b s).2.1) :=
  head_gen (E := e1B b) (C := ctB) (R := crB) (s := s) (H := hdB b) (Z := ⟨#[]⟩) (L1 := l1 b s) (L2 := l2 b s) (L3 := l3 b s) (L4 := l4 b s) (K1 := k1 b s) (K2 := k2 b s) (hd_is b) rfl rfl rfl rfl rfl rfl rfl
end Go.Proofs.YteamnofooicbeaaDoor
namespace Go.Proofs.YteamnofooicbeaaDoor
open Go.RowKit
open Classical in
/-- the range and the length of a Content-Range field -/
noncomputable def crO (c : ByteArray) : Option (Int × Int × Int) :=
  if h : ∃ p : Int × Int × Int, okC p.1 p.2.1 p.2.2 = true ∧ crS p.1 p.2.1 p.2.2 = c then some (Classical.choose h) else none
theorem crO_yes {f t n : Int} {c : ByteArray} (h : okC f t n = true) (e : crS f t n = c) : crO c = some (f, t, n) := by
  have hx : ∃ p : Int × Int × Int, okC p.1 p.2.1 p.2.2 = true ∧ crS p.1 p.2.1 p.2.2 = c := ⟨(f, t, n), h, e⟩
  unfold crO
  rw [dif_pos hx]
  obtain ⟨h1, h2⟩ := Classical.choose_spec hx
  obtain ⟨e1, e2, e3⟩ := cr_inj h h1 (h2.trans e.symm)
  exact congrArg some (Prod.ext e1 (Prod.ext e2 e3))
theorem crO_no {c : ByteArray} (h : ∀ f t n, okC f t n = true → crS f t n ≠ c) : crO c = none := by
  unfold crO
  rw [dif_neg]
  rintro ⟨p, h1, h2⟩
  exact h _ _ _ h1 h2
theorem crO_ok {c : ByteArray} {f t n : Int} (h : crO c = some (f, t, n)) : okC f t n = true := by
  unfold crO at h
  by_cases hx : ∃ p : Int × Int × Int, okC p.1 p.2.1 p.2.2 = true ∧ crS p.1 p.2.1 p.2.2 = c
  · rw [dif_pos hx] at h
    have h1 := (Classical.choose_spec hx).1
    rw [Option.some.inj h] at h1
    exact h1
  · rw [dif_neg hx] at h
    cases h
/-- what follows a part's head -/
def eB (b s : ByteArray) : ByteArray := aft crlB (k2 b s).2.1
def szI (f t : Int) : Nat := (t - f).toNat
/-- what is asked of a part beside its head -/
def condP (b s : ByteArray) (st : Option (ByteArray × Int)) (f t n : Int) : Prop :=
  kindF (k1 b s).1 = true ∧ (st = none ∨ st = some ((k1 b s).1, n)) ∧ szI f t ≤ (eB b s).size ∧ pfxB crlB ((eB b s).extract (szI f t) (eB b s).size) = true ∧ holdF ((eB b s).extract 0 (szI f t)) b = false
open Classical in
noncomputable def partF (b s : ByteArray) (st : Option (ByteArray × Int)) : Option ((Int × Int × ByteArray) × (ByteArray × Int) × ByteArray) :=
  if okP b s then match crO (k2 b s).1 with
    | none => none
    | some (f, t, n) => if condP b s st f t n then some ((f, t, (eB b s).extract 0 (szI f t)), ((k1 b s).1, n), aft crlB ((eB b s).extract (szI f t) (eB b s).size)) else none
  else none
theorem part_no1 {b s : ByteArray} {st : Option (ByteArray × Int)} (h : ¬ okP b s) : partF b s st = none := by unfold partF; rw [if_neg h]
theorem part_no2 {b s : ByteArray} {st : Option (ByteArray × Int)} (h : crO (k2 b s).1 = none) : partF b s st = none := by
  unfold partF
  by_cases h1 : okP b s
  · rw [if_pos h1, h]
  · rw [if_neg h1]
theorem part_no3 {b s : ByteArray} {st : Option (ByteArray × Int)} {f t n : Int} (h : crO (k2 b s).1 = some (f, t, n)) (h2 : ¬ condP b s st f t n) : partF b s st = none := by
  unfold partF
  by_cases h1 : okP b s
  · rw [if_pos h1, h]
    simp only
    rw [if_neg h2]
  · rw [if_neg h1]
theorem part_yes {b s : ByteArray} {st : Option (ByteArray × Int)} {f t n : Int} (h0 : okP b s) (h : crO (k2 b s).1 = some (f, t, n)) (h2 : condP b s st f t n) :
    partF b s st = some ((f, t, (eB b s).extract 0 (szI f t)), ((k1 b s).1, n), aft crlB ((eB b s).extract (szI f t) (eB b s).size)) := by
  unfold partF
  rw [if_pos h0, h]
  simp only
  rw [if_pos h2]
theorem cutB_size (s : ByteArray) : (cutB s).1.size ≤ s.size ∧ (cutB s).2.1.size ≤ s.size := by
  unfold cutB Lib.cut
  simp only
  rw [Lib.size_eq, Lib.size_eq, Lib.size_eq]
  split
  · simp only [List.length_take, List.length_drop]
    omega
  · simp
theorem hd_pos (b : ByteArray) : 18 ≤ (hdB b).size := by
  unfold hdB
  rw [app_size, app_size]
  have h1 : (⟨#[45, 45]⟩ : ByteArray).size = 2 := rfl
  have h2 : (⟨#[13, 10, 67, 111, 110, 116, 101, 110, 116, 45, 84, 121, 112, 101, 58, 32]⟩ : ByteArray).size = 16 := rfl
  omega
theorem eB_size {b s : ByteArray} : (k1 b s).1.size ≤ s.size ∧ (k1 b s).2.1.size ≤ s.size ∧ (k2 b s).1.size ≤ s.size ∧ (k2 b s).2.1.size ≤ s.size ∧ (eB b s).size ≤ s.size ∧ (eB b s).size ≤ (aft (hdB b) s).size := by
  have h1 := cutB_size (aft (hdB b) s)
  have h2 := cutB_size (aft crB (k1 b s).2.1)
  have e1 := aft_size (hdB b) s
  have e2 := aft_size crB (k1 b s).2.1
  have e3 := aft_size crlB (k2 b s).2.1
  unfold eB
  have g1 : (k1 b s).1.size ≤ (aft (hdB b) s).size := h1.1
  have g2 : (k1 b s).2.1.size ≤ (aft (hdB b) s).size := h1.2
  have g3 : (k2 b s).1.size ≤ (aft crB (k1 b s).2.1).size := h2.1
  have g4 : (k2 b s).2.1.size ≤ (aft crB (k1 b s).2.1).size := h2.2
  omega
theorem part_less {b s : ByteArray} {st : Option (ByteArray × Int)} {x : Int × Int × ByteArray} {st' : ByteArray × Int} {r : ByteArray} (h : partF b s st = some (x, st', r)) : r.size < s.size := by
  unfold partF at h
  by_cases h1 : okP b s
  · rw [if_pos h1] at h
    cases hc : crO (k2 b s).1 with
    | none => rw [hc] at h; cases h
    | some p =>
      obtain ⟨f, t, n⟩ := p
      rw [hc] at h
      simp only at h
      by_cases h2 : condP b s st f t n
      · rw [if_pos h2] at h
        have h3 := congrArg (fun q => q.2.2) (Option.some.inj h)
        simp only at h3
        rw [← h3, aft_size, ByteArray.size_extract]
        have h4 := (eB_size (b := b) (s := s)).2.2.2.2.2
        have h5 := aft_size (hdB b) s
        have h6 := hd_pos b
        have h7 := pfxB_size h1.1
        omega
      · rw [if_neg h2] at h; cases h
  · rw [if_neg h1] at h; cases h
open Classical in
noncomputable def rdN (b : ByteArray) : Nat → ByteArray → Option (ByteArray × Int) → Option (List (Int × Int × ByteArray) × Int)
  | 0, _, _ => none
  | m + 1, s, st => if s = finB b then st.map fun p => ([], p.2) else match partF b s st with
    | none => none
    | some (x, st', r) => (rdN b m r (some st')).map fun q => (x :: q.1, q.2)
theorem rdN_fuel (b : ByteArray) : ∀ (m m' : Nat) (s : ByteArray) (st : Option (ByteArray × Int)), s.size < m → s.size < m' → rdN b m s st = rdN b m' s st
  | 0, _, s, st, h, _ => by omega
  | _, 0, s, st, _, h => by omega
  | m + 1, m' + 1, s, st, h, h' => by
    unfold rdN
    by_cases hf : s = finB b
    · rw [if_pos hf, if_pos hf]
    · rw [if_neg hf, if_neg hf]
      cases hp : partF b s st with
      | none => rfl
      | some q =>
        obtain ⟨x, st', r⟩ := q
        have := part_less hp
        simp only
        rw [rdN_fuel b m m' r (some st') (by omega) (by omega)]
/-- what is still to come -/
noncomputable def rdF (b s : ByteArray) (st : Option (ByteArray × Int)) : Option (List (Int × Int × ByteArray) × Int) := rdN b (s.size + 1) s st
theorem rd_fin {b s : ByteArray} {st : Option (ByteArray × Int)} (h : s = finB b) : rdF b s st = st.map fun p => ([], p.2) := by
  unfold rdF rdN
  rw [if_pos h]
theorem rd_bad {b s : ByteArray} {st : Option (ByteArray × Int)} (h : s ≠ finB b) (hp : partF b s st = none) : rdF b s st = none := by
  unfold rdF rdN
  rw [if_neg h, hp]
theorem rd_step {b s : ByteArray} {st : Option (ByteArray × Int)} {x : Int × Int × ByteArray} {st' : ByteArray × Int} {r : ByteArray} (h : s ≠ finB b) (hp : partF b s st = some (x, st', r)) : rdF b s st = (rdF b r (some st')).map fun q => (x :: q.1, q.2) := by
  have hl := part_less hp
  unfold rdF
  rw [show rdN b (s.size + 1) s st = (rdN b s.size r (some st')).map fun q => (x :: q.1, q.2) by
    rw [rdN, if_neg h, hp]]
  rw [rdN_fuel b s.size (r.size + 1) r (some st') (by omega) (by omega)]
/-- between two parts: the parts so far, then what is still to come -/
def Still (b : ByteArray) (tot : Option (List (Int × Int × ByteArray) × Int)) (s : ByteArray) (st : Option (ByteArray × Int)) (out : List (Int × Int × ByteArray)) : Prop :=
  tot = (rdF b s st).map (fun q => (out ++ q.1, q.2)) ∧ (out = [] ↔ st = none)
theorem Still.bad {b : ByteArray} {tot : Option (List (Int × Int × ByteArray) × Int)} {s : ByteArray} {st : Option (ByteArray × Int)} {out : List (Int × Int × ByteArray)} (h : Still b tot s st out) (hf : s ≠ finB b) (hp : partF b s st = none) : tot = none := by
  rw [h.1, rd_bad hf hp]
  rfl
theorem Still.step {b : ByteArray} {tot : Option (List (Int × Int × ByteArray) × Int)} {s : ByteArray} {st : Option (ByteArray × Int)} {out : List (Int × Int × ByteArray)} {x : Int × Int × ByteArray} {st' : ByteArray × Int} {r : ByteArray} (h : Still b tot s st out) (hf : s ≠ finB b) (hp : partF b s st = some (x, st', r)) : Still b tot r (some st') (out ++ [x]) := by
  refine ⟨?_, by simp⟩
  rw [h.1, rd_step hf hp, Option.map_map]
  congr 1
  funext q
  simp
theorem Still.fin {b : ByteArray} {tot : Option (List (Int × Int × ByteArray) × Int)} {s : ByteArray} {st : Option (ByteArray × Int)} {out : List (Int × Int × ByteArray)} (h : Still b tot s st out) (hf : s = finB b) : (out = [] ∧ tot = none) ∨ (out ≠ [] ∧ ∃ k n, st = some (k, n) ∧ tot = some (out, n)) := by
  have h1 := h.1
  rw [rd_fin hf] at h1
  cases st with
  | none => exact .inl ⟨h.2.2 rfl, h1⟩
  | some p =>
    obtain ⟨k, n⟩ := p
    refine .inr ⟨fun e => ?_, k, n, rfl, ?_⟩
    · have := h.2.1 e
      cases this
    · rw [h1]
      simp
theorem Still.start (b s : ByteArray) : Still b (rdF b s none) s none [] := ⟨by cases rdF b s none <;> rfl, by simp⟩
end Go.Proofs.YteamnofooicbeaaDoor
namespace Go.Proofs.YteamnofooicbeaaDoor
open Go.RowKit
def c3 (q : Int × Int × Value) : List Value := [.int .i64 q.1, .int .i64 q.2.1, q.2.2]
def P3 (T : TypeId) (w : World) (B : Nat) (v : Value) (qs : List (Int × Int × Value)) : Prop := w.ownsRow B T 3 v qs.length (qs.flatMap c3)
theorem P3.nil (T : TypeId) (w : World) (B : Nat) : P3 T w B (.slice none 0 0) [] := World.ownsRow_nil _ _ _ _
theorem P3.ext {T : TypeId} {w w' : World} {B : Nat} {v : Value} {qs : List (Int × Int × Value)} (h : P3 T w B v qs) (hx : Ext w w') : P3 T w' B v qs := own_kept h hx
theorem P3.other {T : TypeId} {w : World} {B : Nat} {v : Value} {qs : List (Int × Int × Value)} (h : P3 T w B v qs) {b i : Nat} (hp : b < B) (u : Value) : P3 T (w.setCell ⟨b, i, none⟩ u) B v qs := own_other h hp u
theorem c3_flat : ∀ (xs : List (Int × Int × Value)) (i : Nat) (e : Int × Int × Value), xs[i]? = some e → ∀ j, j < 3 → (xs.flatMap c3)[i * 3 + j]? = (c3 e)[j]?
  | [], i, e, h, _, _ => by simp at h
  | x :: r, 0, e, h, j, hj => by
    simp at h
    subst h
    simp only [List.flatMap_cons, Nat.zero_mul, Nat.zero_add]
    rw [List.getElem?_append_left (by simpa [c3] using hj)]
  | x :: r, i + 1, e, h, j, hj => by
    simp only [List.getElem?_cons_succ] at h
    simp only [List.flatMap_cons]
    have h4 : (c3 x).length = 3 := rfl
    rw [List.getElem?_append_right (by omega), h4, show (i + 1) * 3 + j - 3 = i * 3 + j by omega]
    exact c3_flat r i e h j hj
theorem P3.shape {T : TypeId} {w : World} {B : Nat} {v : Value} {xs : List (Int × Int × Value)} (h : P3 T w B v xs) : (v = .slice none 0 0 ∧ xs = []) ∨ ∃ g cap, v = .slice (some ⟨g, 0, none⟩) xs.length cap ∧ xs.length ≤ cap ∧ B ≤ g ∧ g < w.heap.size ∧ ∀ i p, xs[i]? = some p → w.cell? ⟨g, i * 3, none⟩ = some (.int .i64 p.1) ∧ w.cell? ⟨g, i * 3 + 1, none⟩ = some (.int .i64 p.2.1) ∧ w.cell? ⟨g, i * 3 + 2, none⟩ = some p.2.2 := by
  rcases h.2 with ⟨rfl, e⟩ | ⟨g, cap, cur, rfl, hb, hh, hl, hm, hc, ht⟩
  · exact .inl ⟨rfl, List.eq_nil_of_length_eq_zero e⟩
  · refine .inr ⟨g, cap, rfl, hl, hb, (Array.getElem?_eq_some_iff.1 hh).1, fun i p hp => ?_⟩
    have hi := (List.getElem?_eq_some_iff.1 hp).1
    have key : ∀ j, j < 3 → w.cell? ⟨g, i * 3 + j, none⟩ = (c3 p)[j]? := by
      intro j hj
      rw [cell_of_row w g _ cur _ _ hh]
      have e1 := c3_flat xs i p hp j hj
      rw [← ht, List.getElem?_take_of_lt (by omega)] at e1
      rw [← e1]
      simp
    exact ⟨key 0 (by omega), key 1 (by omega), key 2 (by omega)⟩
theorem P3.parts {T : TypeId} {w : World} {B : Nat} {v : Value} {xs : List (Int × Int × Value)} (h : P3 T w B v xs) : ∃ A cap, v = .slice A xs.length cap ∧ xs.length ≤ cap ∧ ∀ i p, xs[i]? = some p → ∃ g, A = some ⟨g, 0, none⟩ ∧ w.cell? ⟨g, i * 3, none⟩ = some (.int .i64 p.1) ∧ w.cell? ⟨g, i * 3 + 1, none⟩ = some (.int .i64 p.2.1) ∧ w.cell? ⟨g, i * 3 + 2, none⟩ = some p.2.2 := by
  rcases h.shape with ⟨rfl, rfl⟩ | ⟨g, cap, rfl, h1, h2, h3, h4⟩
  · exact ⟨none, 0, rfl, Nat.le_refl _, fun i p hp => by simp at hp⟩
  · exact ⟨_, cap, rfl, h1, fun i p hp => ⟨g, rfl, h4 i p hp⟩⟩
theorem part_info : (Tryd.prog.info? 65).map (fun i => (i.zero, i.size, i.bytes)) = some (some (.agg #[.int .i64 0, .int .i64 0, .slice none 0 0]), 3, 40) := by kernel_rfl
theorem rpart_info : (Tryd.prog.info? 67).map (fun i => (i.zero, i.size, i.bytes)) = some (some (.agg #[.int .i64 0, .int .i64 0, .string ByteArray.empty]), 3, 32) := by kernel_rfl
theorem reads_one3 {w : World} {G : Nat} {e : TypeId} {a b c : Value} (h : RowB w G e [a, b, c]) : Reads w w.heap.size 3 (some ⟨G, 0, none⟩) 1 [a, b, c] := by
  refine ⟨rfl, fun _ => ⟨_, rfl, h.lt, fun j u hu => ?_⟩⟩
  rw [Addr.add_lit, Nat.zero_add]
  exact h.cell hu
/-- the reference's parts -/
def rq (ps : List (Int × Int × ByteArray)) : List (Int × Int × Value) := ps.map fun p => (p.1, p.2.1, .string p.2.2)
theorem rq_length (ps : List (Int × Int × ByteArray)) : (rq ps).length = ps.length := by simp [rq]
theorem rq_snoc (ps : List (Int × Int × ByteArray)) (p : Int × Int × ByteArray) : rq (ps ++ [p]) = rq ps ++ [(p.1, p.2.1, .string p.2.2)] := by simp [rq]
/-! ### what makes a part fail, as the reference asks it -/
theorem part_noQ {b s : ByteArray} {st : Option (ByteArray × Int)} (h : ¬ okQ b s) : partF b s st = none := part_no1 (fun h2 => h ((head_same b s).1.2 h2))
theorem part_noR {b s : ByteArray} {st : Option (ByteArray × Int)} (h : crO (l3 b s).1 = none) : partF b s st = none := by
  by_cases h1 : okP b s
  · exact part_no2 (by rw [← ((head_same b s).2 h1).2.1]; exact h)
  · exact part_no1 h1
theorem part_noK {b s : ByteArray} {st : Option (ByteArray × Int)} (h : kindF (k1 b s).1 = false) : partF b s st = none := by
  cases hc : crO (k2 b s).1 with
  | none => exact part_no2 hc
  | some p =>
    obtain ⟨f, t, n⟩ := p
    refine part_no3 hc (fun h2 => ?_)
    rw [h2.1] at h
    cases h
theorem part_noL {b s : ByteArray} {st : Option (ByteArray × Int)} (h : kindF (l2 b s).1 = false) : partF b s st = none := by
  by_cases h1 : okP b s
  · exact part_noK (by rw [← ((head_same b s).2 h1).1]; exact h)
  · exact part_no1 h1
end Go.Proofs.YteamnofooicbeaaDoor
namespace Go.Proofs.YteamnofooicbeaaDoor
open Go.RowKit
theorem crlB_list : crlB.toList = [13, 10] := by
  rw [ByteArray.toList_eq]
  rfl
theorem crlB_size : crlB.size = 2 := rfl
theorem lineF_size (p s : ByteArray) : (lineF p s).1.size ≤ s.size ∧ (lineF p s).2.1.size ≤ s.size := by
  have h := cutB_size (s.extract p.size s.size)
  have h2 : (s.extract p.size s.size).size ≤ s.size := by rw [ByteArray.size_extract]; omega
  have h3 : (⟨#[]⟩ : ByteArray).size = 0 := rfl
  unfold lineF
  split
  · split
    · omega
    · simp only; omega
  · simp only; omega
theorem empty_is {s : ByteArray} (h : s.size = 0) : s = ⟨#[]⟩ := bs_ext (by
  rw [ByteArray.toList_eq, ByteArray.toList_eq]
  exact List.length_eq_zero_iff.1 (by rw [← Lib.size_eq]; exact h))
section
attribute [local irreducible] crlB pfxB holdF kindF k1 k2 okP eB partF crO
theorem ext_ext {s : ByteArray} {z : Nat} (h : z + 2 ≤ s.size) : (s.extract z s.size).extract 0 crlB.size = s.extract z (z + 2) := by
  refine bs_ext ?_
  rw [crlB_size, ext_list, ext_list, ext_list, List.drop_zero, List.take_take]
  congr 1
  omega
theorem aft_ext {s : ByteArray} {z : Nat} (h : z + 2 ≤ s.size) : aft crlB (s.extract z s.size) = s.extract (z + 2) s.size := by
  unfold aft
  refine bs_ext ?_
  rw [crlB_size, ByteArray.size_extract, ext_list, ext_list, ext_list, List.drop_take, List.drop_drop, List.take_take]
  congr 1
  omega
theorem cr_cmp {e : ByteArray} {z : Nat} (h2 : z + 2 ≤ e.size) : ((e.extract z (z + 2)).toList == [13, 10]) = pfxB crlB (e.extract z e.size) := by
  rw [← pfxB_cut, ext_ext h2, crlB_list]
theorem cond_len {b s e : ByteArray} {st : Option (ByteArray × Int)} {f t n : Int} {z : Nat} (hz : szI f t = z) (he : e = eB b s) (h : ¬ z + 2 ≤ e.size) : ¬ condP b s st f t n := by
  unfold condP
  rw [← he, hz]
  rintro ⟨-, -, h3, h4, -⟩
  have h5 := pfxB_size h4
  rw [ByteArray.size_extract, crlB_size] at h5
  omega
theorem cond_cr {b s e : ByteArray} {st : Option (ByteArray × Int)} {f t n : Int} {z : Nat} (hz : szI f t = z) (he : e = eB b s) (h : pfxB crlB (e.extract z e.size) = false) : ¬ condP b s st f t n := by
  unfold condP
  rw [← he, hz, h]
  rintro ⟨-, -, -, h4, -⟩
  cases h4
theorem cond_hold {b s e : ByteArray} {st : Option (ByteArray × Int)} {f t n : Int} {z : Nat} (hz : szI f t = z) (he : e = eB b s) (h : holdF (e.extract 0 z) b = true) : ¬ condP b s st f t n := by
  unfold condP
  rw [← he, hz, h]
  rintro ⟨-, -, -, -, h4⟩
  cases h4
theorem cond_state {b s : ByteArray} {st : Option (ByteArray × Int)} {f t n : Int} {k : ByteArray} {n' : Int} (hst : st = some (k, n')) (h : ¬ ((k1 b s).1 = k ∧ n = n')) : ¬ condP b s st f t n := by
  unfold condP
  rw [hst]
  rintro ⟨-, h2 | h2, -⟩
  · cases h2
  · have h3 := Prod.mk.inj (Option.some.inj h2)
    exact h ⟨h3.1.symm, h3.2.symm⟩
theorem part_go {b s e : ByteArray} {st : Option (ByteArray × Int)} {f t n : Int} {z : Nat} (hP : okP b s) (hc : crO (k2 b s).1 = some (f, t, n)) (hk : kindF (k1 b s).1 = true) (hst : st = none ∨ st = some ((k1 b s).1, n))
    (hz : szI f t = z) (he : e = eB b s) (h2 : z + 2 ≤ e.size) (hcr : pfxB crlB (e.extract z e.size) = true) (hh : holdF (e.extract 0 z) b = false) :
    partF b s st = some ((f, t, e.extract 0 z), ((k1 b s).1, n), e.extract (z + 2) e.size) := by
  have hcond : condP b s st f t n := by
    unfold condP
    rw [← he, hz]
    exact ⟨hk, hst, by omega, hcr, hh⟩
  have h3 := part_yes hP hc hcond
  rw [← he, hz, aft_ext h2] at h3
  exact h3
end
end Go.Proofs.YteamnofooicbeaaDoor
namespace Go.Proofs.YteamnofooicbeaaDoor
open Go.RowKit
/-- a slice that holds the bytes of a text, in a block from B on -/
def BytesV (w : World) (B : Nat) (v : Value) (s : ByteArray) : Prop := ∃ g cap, v = .slice (some ⟨g, 0, none⟩) s.size cap ∧ B ≤ g ∧ RowB w g 5 (s.data.toList.map fun b => Value.int .u8 b.toNat)
theorem BytesV.ext {w w' : World} {B : Nat} {v : Value} {s : ByteArray} (h : BytesV w B v s) (hx : Ext w w') : BytesV w' B v s := by
  obtain ⟨g, cap, e, hb, hr⟩ := h
  exact ⟨g, cap, e, hb, hr.ext hx⟩
theorem RowB.other' {w : World} {g : Nat} {e : TypeId} {xs : List Value} (h : RowB w g e xs) {b i : Nat} (hb : b ≠ g) (u : Value) : RowB (w.setCell ⟨b, i, none⟩ u) g e xs :=
  h.kept (Go.Deep.blk_setCell_other w ⟨b, i, none⟩ u g (fun e => hb (show b = g from e.symm)))
theorem BytesV.other {w : World} {B : Nat} {v : Value} {s : ByteArray} (h : BytesV w B v s) {b i : Nat} (hb : b < B) (u : Value) : BytesV (w.setCell ⟨b, i, none⟩ u) B v s := by
  obtain ⟨g, cap, e, hg, hr⟩ := h
  exact ⟨g, cap, e, hg, hr.other' (by omega) u⟩
/-- the program's parts: the rows, and behind each one its bytes -/
def PPt (w : World) (B : Nat) (v : Value) (ps : List (Int × Int × ByteArray)) : Prop := ∃ ds : List Value, ds.length = ps.length ∧ P3 65 w B v ((ps.zip ds).map fun q => (q.1.1, q.1.2.1, q.2)) ∧ ∀ (i : Nat) (d : Value) (p : Int × Int × ByteArray), ds[i]? = some d → ps[i]? = some p → BytesV w B d p.2.2
theorem PPt.nil (w : World) (B : Nat) : PPt w B (.slice none 0 0) [] := ⟨[], rfl, P3.nil _ _ _, fun i d p h _ => by simp at h⟩
theorem PPt.ext {w w' : World} {B : Nat} {v : Value} {ps : List (Int × Int × ByteArray)} (h : PPt w B v ps) (hx : Ext w w') : PPt w' B v ps := by
  obtain ⟨ds, h1, h2, h3⟩ := h
  exact ⟨ds, h1, h2.ext hx, fun i d p hd hp => (h3 i d p hd hp).ext hx⟩
theorem PPt.other {w : World} {B : Nat} {v : Value} {ps : List (Int × Int × ByteArray)} (h : PPt w B v ps) {b i : Nat} (hb : b < B) (u : Value) : PPt (w.setCell ⟨b, i, none⟩ u) B v ps := by
  obtain ⟨ds, h1, h2, h3⟩ := h
  exact ⟨ds, h1, h2.other hb u, fun i d p hd hp => (h3 i d p hd hp).other hb u⟩
theorem BytesV.conv {w : World} {B : Nat} {v : Value} {s : ByteArray} (h : BytesV w B v s) : (convert 60 9 v).run Tryd.prog w = .ok (.string s) w := by
  obtain ⟨g, cap, rfl, -, hr⟩ := h
  have hc := run_convert_bytes_back (P := Tryd.prog) w 60 9 5 ⟨g, 0, none⟩ cap s.data.toList Tryd.underlying60 Tryd.underlying5 Tryd.underlying9 (fun j hj => by
    rw [Addr.add_lit, Nat.zero_add]
    exact hr.cell (by rw [List.getElem?_map, List.getElem?_eq_getElem hj]; rfl))
  rw [← Lib.size_eq] at hc
  simpa using hc
/-- all blocks but one stay -/
def Keep (g : Nat) (w w' : World) : Prop := ∀ k, k ≠ g → k < w.heap.size → w'.heap[k]? = w.heap[k]?
theorem Keep.row {g : Nat} {w w' : World} (h : Keep g w w') {q : Nat} {e : TypeId} {xs : List Value} (hr : RowB w q e xs) (hq : q ≠ g) : RowB w' q e xs := hr.kept (h q hq hr.lt)
theorem keep_set (w : World) (g i : Nat) (u : Value) : Keep g w (w.setCell ⟨g, i, none⟩ u) := fun k hk _ => Go.Deep.blk_setCell_other w ⟨g, i, none⟩ u k (fun e => hk e)
theorem Keep.trans {g : Nat} {a b c : World} (h : Keep g a b) (k : Keep g b c) (hs : a.heap.size ≤ b.heap.size) : Keep g a c := fun j hj hl => (k j hj (Nat.lt_of_lt_of_le hl hs)).trans (h j hj hl)
theorem keep_ext {g : Nat} {a b : World} (h : Ext a b) : Keep g a b := fun k _ hl => Below.block h k hl
/-- what holds between two steps of the reader -/
structure RS (w0 w : World) (g B : Nat) (s : ByteArray) (bd : Bool) (v : Value) (ps : List (Int × Int × ByteArray)) : Prop where
  row : RowB w g 118 [.string s, .bool bd]
  pts : PPt w B v ps
  ext : Ext w0 w
  lo : w0.heap.size ≤ g
  hi : g < B
theorem RS.grow {w0 w w' : World} {g B : Nat} {s : ByteArray} {bd : Bool} {v : Value} {ps : List (Int × Int × ByteArray)} (h : RS w0 w g B s bd v ps) (hx : Ext w w') : RS w0 w' g B s bd v ps :=
  ⟨h.row.ext hx, h.pts.ext hx, h.ext.trans hx, h.lo, h.hi⟩
theorem RS.set {w0 w : World} {g B : Nat} {s : ByteArray} {bd : Bool} {v : Value} {ps : List (Int × Int × ByteArray)} (h : RS w0 w g B s bd v ps) (x : ByteArray) (y : Bool) : RS w0 ((w.setCell ⟨g, 0, none⟩ (.string x)).setCell ⟨g, 1, none⟩ (.bool y)) g B x y v ps :=
  ⟨(h.row.set 0 (.string x) (by simp)).set 1 (.bool y) (by simp), (h.pts.other h.hi _).other h.hi _, (h.ext.setCell h.lo _).setCell h.lo _, h.lo, h.hi⟩
theorem skip_rs {w0 w : World} {g B : Nat} {s : ByteArray} {bd : Bool} {v : Value} {ps : List (Int × Int × ByteArray)} (h : RS w0 w g B s bd v ps) (p : ByteArray) :
    Calls Tryd.prog 57 #[.pointer (some ⟨g, 0, none⟩), .string p] w fun e w' => e = .returned (.tuple #[]) ∧ ∃ x, x.size ≤ s.size ∧ (pfxB p s = true → x = aft p s) ∧ RS w0 w' g B x (bd || !pfxB p s) v ps ∧ Keep g w w' := by
  refine (skip_any h.row p).mono ?_
  rintro e w' ⟨rfl, x, h1, h2, rfl⟩
  exact ⟨rfl, x, h1, h2, h.set x _, (keep_set w g 0 _).trans (keep_set _ g 1 _) (by simp [World.setCell])⟩
theorem line_rs {w0 w : World} {g B : Nat} {s : ByteArray} {bd : Bool} {v : Value} {ps : List (Int × Int × ByteArray)} (h : RS w0 w g B s bd v ps) (hs : s.size ≤ 100000) (hM : MaxL w0) :
    Calls Tryd.prog 58 #[.pointer (some ⟨g, 0, none⟩)] w fun e w' => e = .returned (.string (cutB s).1) ∧ RS w0 w' g B (cutB s).2.1 (bd || !(cutB s).2.2) v ps ∧ Keep g w w' := by
  refine (line_any h.row hs (hM.ext h.ext)).mono ?_
  rintro e w' ⟨rfl, n, rfl⟩
  have hx : Ext w (w.drewN n) := (Ext.refl w).drewN n
  exact ⟨rfl, (h.grow hx).set _ _, ((keep_ext hx).trans (keep_set _ g 0 _) hx.size).trans (keep_set _ g 1 _) (by simp [World.setCell, World.drewN])⟩
end Go.Proofs.YteamnofooicbeaaDoor
namespace Go.Proofs.YteamnofooicbeaaDoor
open Go.RowKit
theorem P3.ne {T : TypeId} {w : World} {B g : Nat} {v : Value} {qs : List (Int × Int × Value)} {e : TypeId} {xs : List Value} (h : P3 T w B v qs) (hr : RowB w g e xs) (he : e ≠ T) : some g ≠ v.ownBlock := by
  rcases h.2 with ⟨rfl, _⟩ | ⟨g', cap, cur, rfl, _, hg, _⟩
  · simp [Value.ownBlock]
  · intro e'
    simp only [Value.ownBlock, Option.some.injEq] at e'
    obtain ⟨C, fr, rest, hc, _⟩ := hr
    rw [e', hg] at hc
    cases hc
    exact he rfl
theorem wpList_append_part (w : World) {ops : Array Oper} {rest : List Oper} {o : Oper} {a : Act} {Q : Exit → Act → World → Prop} (hg : o.guard = none) (s x : Operand)
    (ho : o.op = .call { callee := .builtin .append, args := #[s, x], argTypes := #[57, 57] })
    {w0 : World} {g B : Nat} {y : ByteArray} {bd : Bool} {v : Value} {ps : List (Int × Int × ByteArray)} (hRS : RS w0 w g B y bd v ps)
    (f t : Int) (d : ByteArray) {dv : Value} (hd : BytesV w B dv d) (hs : a.eval s = v)
    {G : Nat} (hx : a.eval x = .slice (some ⟨G, 0, none⟩) 1 1) (hG : G = w.heap.size) (hlen : ps.length ≤ 1000000000) (hB : B ≤ w.heap.size)
    (h : ∀ A w' c, ps.length + 1 ≤ c → RS w0 w' g B y bd (.slice A (ps.length + 1) c) (ps ++ [(f, t, d)]) → wpList Tryd.prog ops Q rest (a.put o.dst (.slice A (ps.length + 1) c)) w') :
    wpList Tryd.prog ops Q (o :: rest) a (w.alloc (.cells #[.int .i64 f, .int .i64 t, dv] 65)) := by
  subst hG
  obtain ⟨i0, hi0, hz0, hz1, hz2⟩ := info_parts part_info
  obtain ⟨ds, h1, h2, h3⟩ := hRS.pts
  have hzl : ((ps.zip ds).map fun q => (q.1.1, q.1.2.1, q.2)).length = ps.length := by simp [h1]
  have hX : Ext w (w.alloc (.cells #[.int .i64 f, .int .i64 t, dv] 65)) := (Ext.refl w).alloc _
  have hown := h2.ext hX
  have hone : dv.oneCell' = true := by
    obtain ⟨g', cap, rfl, -⟩ := hd
    rfl
  have hown' := hown
  unfold P3 at hown'
  rw [hzl] at hown'
  refine wpList_append_any (w.alloc (.cells #[.int .i64 f, .int .i64 t, dv] 65)) hg s x 57 ho B 65 i0 _ 3 40 Tryd.underlying57 hi0 hz0 hz1 hz2 rfl (by omega) v ps.length _ hs hown' (w.heap.size + 1) (some ⟨w.heap.size, 0, none⟩) 1 1 [.int .i64 f, .int .i64 t, dv] hx ?_ ?_ ?_ ?_ ?_ ?_
  · have hrow : RowB (w.alloc (.cells #[.int .i64 f, .int .i64 t, dv] 65)) w.heap.size 65 [.int .i64 f, .int .i64 t, dv] := row_laid w 65 [.int .i64 f, .int .i64 t, dv]
    have := reads_one3 hrow
    simpa using this
  · intro u hu
    simp at hu
    rcases hu with rfl | rfl | rfl
    · rfl
    · rfl
    · exact hone
  · simp only [maxLen]; omega
  · omega
  · simp; omega
  · intro v' w' hw hgr hat
    have hb2 : Below B w w' := by
      have hb1 : Below B w (w.alloc (.cells #[.int .i64 f, .int .i64 t, dv] 65)) := (Below.refl B w).alloc hB _
      exact hb1.grown hgr (Nat.le_trans hB hX.size) (own_base hown')
    have hP : P3 65 w' B v' (((ps ++ [(f, t, d)]).zip (ds ++ [dv])).map fun q => (q.1.1, q.1.2.1, q.2)) := by
      unfold P3
      rw [List.zip_append h1.symm, List.map_append, List.length_append, List.flatMap_append, hzl]
      exact hw
    have hbytes : ∀ {d' : Value} {z : ByteArray}, BytesV w B d' z → BytesV w' B d' z := by
      rintro d' z ⟨g', cap, rfl, hg', hr⟩
      have hr2 := hr.ext hX
      exact ⟨g', cap, rfl, hg', hr2.kept (hgr.block g' hr2.lt (hown.ne hr2 (by decide)))⟩
    have hPP : PPt w' B v' (ps ++ [(f, t, d)]) := by
      refine ⟨ds ++ [dv], by simp [h1], hP, fun i d' p hd' hp => ?_⟩
      by_cases hi : i < ps.length
      · rw [List.getElem?_append_left (by omega)] at hd' hp
        exact hbytes (h3 i d' p hd' hp)
      · rw [List.getElem?_append_right (by omega)] at hd' hp
        by_cases h0 : i = ps.length
        · subst h0
          rw [h1, Nat.sub_self] at hd'
          rw [Nat.sub_self] at hp
          simp at hd' hp
          subst hd'
          subst hp
          exact hbytes hd
        · rw [List.getElem?_eq_none (by simp; omega)] at hp
          cases hp
    obtain ⟨A, c, e, hc, -⟩ := hP.parts
    have hl : (((ps ++ [(f, t, d)]).zip (ds ++ [dv])).map fun q => (q.1.1, q.1.2.1, q.2)).length = ps.length + 1 := by simp [h1]
    rw [hl] at e hc
    subst e
    refine h A w' c hc ⟨?_, hPP, ?_, hRS.lo, hRS.hi⟩
    · exact hRS.row.below hb2 hRS.hi
    · exact Below.trans hRS.ext (hb2.mono (Nat.le_trans hRS.lo (Nat.le_of_lt hRS.hi)))
end Go.Proofs.YteamnofooicbeaaDoor
