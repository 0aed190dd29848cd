/- Chapter 09: what a multipart body reads as: the parts that are still to come (plain). The shelf's laying for slices.SortFunc at this dump (first written by the kit's lay-shelf and lay-plain). Chapter 09: Clone of a list of ranges; the comparison of Merge; the library's sort of ranges by From. Chapter 09: what Merge of an ordered list covers, and that the offsets fix the list (plain lists). Chapter 09: the reference's Merge as a function of lists, and what it covers (plain lists). -/
import Derived.Test.YtlhnejcjeoecaaaGreatDoorGAG
import Derived.Shelf.SlSortCmp.WholeK
import Derived.Ground.SlsfProg
import Derived.Test.YtlhnejcjeoecaaaGreatDoorProg
import Derived.Test.YtlhnejcjeoecaaaGreatDoorGAF
import Derived.Test.YtlhnejcjeoecaaaGreatDoorGAA
import Derived.Shelf.SlSortCmp.NoneTotal
namespace Go.Proofs.YtlhnejcjeoecaaaGreatDoor
open Go.RowKit
open Classical in
/-- the range and the length of a Content-Range field -/
noncomputable def crO (c : ByteArray) : Option (Int × Int × Int) :=
  if h : ∃ p : Int × Int × Int, okC p.1 p.2.1 p.2.2 = true ∧ crS p.1 p.2.1 p.2.2 = c then some (Classical.choose h) else none
theorem crO_yes {f t n : Int} {c : ByteArray} (h : okC f t n = true) (e : crS f t n = c) : crO c = some (f, t, n) := by
  have hx : ∃ p : Int × Int × Int, okC p.1 p.2.1 p.2.2 = true ∧ crS p.1 p.2.1 p.2.2 = c := ⟨(f, t, n), h, e⟩
  unfold crO
  rw [dif_pos hx]
  obtain ⟨h1, h2⟩ := Classical.choose_spec hx
  obtain ⟨e1, e2, e3⟩ := cr_inj h h1 (h2.trans e.symm)
  exact congrArg some (Prod.ext e1 (Prod.ext e2 e3))
theorem crO_no {c : ByteArray} (h : ∀ f t n, okC f t n = true → crS f t n ≠ c) : crO c = none := by
  unfold crO
  rw [dif_neg]
  rintro ⟨p, h1, h2⟩
  exact h _ _ _ h1 h2
theorem crO_ok {c : ByteArray} {f t n : Int} (h : crO c = some (f, t, n)) : okC f t n = true := by
  unfold crO at h
  by_cases hx : ∃ p : Int × Int × Int, okC p.1 p.2.1 p.2.2 = true ∧ crS p.1 p.2.1 p.2.2 = c
  · rw [dif_pos hx] at h
    have h1 := (Classical.choose_spec hx).1
    rw [Option.some.inj h] at h1
    exact h1
  · rw [dif_neg hx] at h
    cases h
/-- what follows a part's head -/
def eB (b s : ByteArray) : ByteArray := aft crlB (k2 b s).2.1
def szI (f t : Int) : Nat := (t - f).toNat
/-- what is asked of a part beside its head -/
def condP (b s : ByteArray) (st : Option (ByteArray × Int)) (f t n : Int) : Prop :=
  kindF (k1 b s).1 = true ∧ (st = none ∨ st = some ((k1 b s).1, n)) ∧ szI f t ≤ (eB b s).size ∧ pfxB crlB ((eB b s).extract (szI f t) (eB b s).size) = true ∧ holdF ((eB b s).extract 0 (szI f t)) b = false
open Classical in
noncomputable def partF (b s : ByteArray) (st : Option (ByteArray × Int)) : Option ((Int × Int × ByteArray) × (ByteArray × Int) × ByteArray) :=
  if okP b s then match crO (k2 b s).1 with
    | none => none
    | some (f, t, n) => if condP b s st f t n then some ((f, t, (eB b s).extract 0 (szI f t)), ((k1 b s).1, n), aft crlB ((eB b s).extract (szI f t) (eB b s).size)) else none
  else none
theorem part_no1 {b s : ByteArray} {st : Option (ByteArray × Int)} (h : ¬ okP b s) : partF b s st = none := by unfold partF; rw [if_neg h]
theorem part_no2 {b s : ByteArray} {st : Option (ByteArray × Int)} (h : crO (k2 b s).1 = none) : partF b s st = none := by
  unfold partF
  by_cases h1 : okP b s
  · rw [if_pos h1, h]
  · rw [if_neg h1]
theorem part_no3 {b s : ByteArray} {st : Option (ByteArray × Int)} {f t n : Int} (h : crO (k2 b s).1 = some (f, t, n)) (h2 : ¬ condP b s st f t n) : partF b s st = none := by
  unfold partF
  by_cases h1 : okP b s
  · rw [if_pos h1, h]
    simp only
    rw [if_neg h2]
  · rw [if_neg h1]
theorem part_yes {b s : ByteArray} {st : Option (ByteArray × Int)} {f t n : Int} (h0 : okP b s) (h : crO (k2 b s).1 = some (f, t, n)) (h2 : condP b s st f t n) :
    partF b s st = some ((f, t, (eB b s).extract 0 (szI f t)), ((k1 b s).1, n), aft crlB ((eB b s).extract (szI f t) (eB b s).size)) := by
  unfold partF
  rw [if_pos h0, h]
  simp only
  rw [if_pos h2]
theorem cutB_size (s : ByteArray) : (cutB s).1.size ≤ s.size ∧ (cutB s).2.1.size ≤ s.size := by
  unfold cutB Lib.cut
  simp only
  rw [Lib.size_eq, Lib.size_eq, Lib.size_eq]
  split
  · simp only [List.length_take, List.length_drop]
    omega
  · simp
theorem hd_pos (b : ByteArray) : 18 ≤ (hdB b).size := by
  unfold hdB
  rw [app_size, app_size]
  have h1 : (⟨#[45, 45]⟩ : ByteArray).size = 2 := rfl
  have h2 : (⟨#[13, 10, 67, 111, 110, 116, 101, 110, 116, 45, 84, 121, 112, 101, 58, 32]⟩ : ByteArray).size = 16 := rfl
  omega
theorem eB_size {b s : ByteArray} : (k1 b s).1.size ≤ s.size ∧ (k1 b s).2.1.size ≤ s.size ∧ (k2 b s).1.size ≤ s.size ∧ (k2 b s).2.1.size ≤ s.size ∧ (eB b s).size ≤ s.size ∧ (eB b s).size ≤ (aft (hdB b) s).size := by
  have h1 := cutB_size (aft (hdB b) s)
  have h2 := cutB_size (aft crB (k1 b s).2.1)
  have e1 := aft_size (hdB b) s
  have e2 := aft_size crB (k1 b s).2.1
  have e3 := aft_size crlB (k2 b s).2.1
  unfold eB
  have g1 : (k1 b s).1.size ≤ (aft (hdB b) s).size := h1.1
  have g2 : (k1 b s).2.1.size ≤ (aft (hdB b) s).size := h1.2
  have g3 : (k2 b s).1.size ≤ (aft crB (k1 b s).2.1).size := h2.1
  have g4 : (k2 b s).2.1.size ≤ (aft crB (k1 b s).2.1).size := h2.2
  omega
theorem part_less {b s : ByteArray} {st : Option (ByteArray × Int)} {x : Int × Int × ByteArray} {st' : ByteArray × Int} {r : ByteArray} (h : partF b s st = some (x, st', r)) : r.size < s.size := by
  unfold partF at h
  by_cases h1 : okP b s
  · rw [if_pos h1] at h
    cases hc : crO (k2 b s).1 with
    | none => rw [hc] at h; cases h
    | some p =>
      obtain ⟨f, t, n⟩ := p
      rw [hc] at h
      simp only at h
      by_cases h2 : condP b s st f t n
      · rw [if_pos h2] at h
        have h3 := congrArg (fun q => q.2.2) (Option.some.inj h)
        simp only at h3
        rw [← h3, aft_size, ByteArray.size_extract]
        have h4 := (eB_size (b := b) (s := s)).2.2.2.2.2
        have h5 := aft_size (hdB b) s
        have h6 := hd_pos b
        have h7 := pfxB_size h1.1
        omega
      · rw [if_neg h2] at h; cases h
  · rw [if_neg h1] at h; cases h
open Classical in
noncomputable def rdN (b : ByteArray) : Nat → ByteArray → Option (ByteArray × Int) → Option (List (Int × Int × ByteArray) × Int)
  | 0, _, _ => none
  | m + 1, s, st => if s = finB b then st.map fun p => ([], p.2) else match partF b s st with
    | none => none
    | some (x, st', r) => (rdN b m r (some st')).map fun q => (x :: q.1, q.2)
theorem rdN_fuel (b : ByteArray) : ∀ (m m' : Nat) (s : ByteArray) (st : Option (ByteArray × Int)), s.size < m → s.size < m' → rdN b m s st = rdN b m' s st
  | 0, _, s, st, h, _ => by omega
  | _, 0, s, st, _, h => by omega
  | m + 1, m' + 1, s, st, h, h' => by
    unfold rdN
    by_cases hf : s = finB b
    · rw [if_pos hf, if_pos hf]
    · rw [if_neg hf, if_neg hf]
      cases hp : partF b s st with
      | none => rfl
      | some q =>
        obtain ⟨x, st', r⟩ := q
        have := part_less hp
        simp only
        rw [rdN_fuel b m m' r (some st') (by omega) (by omega)]
/-- what is still to come -/
noncomputable def rdF (b s : ByteArray) (st : Option (ByteArray × Int)) : Option (List (Int × Int × ByteArray) × Int) := rdN b (s.size + 1) s st
theorem rd_fin {b s : ByteArray} {st : Option (ByteArray × Int)} (h : s = finB b) : rdF b s st = st.map fun p => ([], p.2) := by
  unfold rdF rdN
  rw [if_pos h]
theorem rd_bad {b s : ByteArray} {st : Option (ByteArray × Int)} (h : s ≠ finB b) (hp : partF b s st = none) : rdF b s st = none := by
  unfold rdF rdN
  rw [if_neg h, hp]
theorem rd_step {b s : ByteArray} {st : Option (ByteArray × Int)} {x : Int × Int × ByteArray} {st' : ByteArray × Int} {r : ByteArray} (h : s ≠ finB b) (hp : partF b s st = some (x, st', r)) : rdF b s st = (rdF b r (some st')).map fun q => (x :: q.1, q.2) := by
  have hl := part_less hp
  unfold rdF
  rw [show rdN b (s.size + 1) s st = (rdN b s.size r (some st')).map fun q => (x :: q.1, q.2) by
    rw [rdN, if_neg h, hp]]
  rw [rdN_fuel b s.size (r.size + 1) r (some st') (by omega) (by omega)]
/-- between two parts: the parts so far, then what is still to come -/
def Still (b : ByteArray) (tot : Option (List (Int × Int × ByteArray) × Int)) (s : ByteArray) (st : Option (ByteArray × Int)) (out : List (Int × Int × ByteArray)) : Prop :=
  tot = (rdF b s st).map (fun q => (out ++ q.1, q.2)) ∧ (out = [] ↔ st = none)
theorem Still.bad {b : ByteArray} {tot : Option (List (Int × Int × ByteArray) × Int)} {s : ByteArray} {st : Option (ByteArray × Int)} {out : List (Int × Int × ByteArray)} (h : Still b tot s st out) (hf : s ≠ finB b) (hp : partF b s st = none) : tot = none := by
  rw [h.1, rd_bad hf hp]
  rfl
theorem Still.step {b : ByteArray} {tot : Option (List (Int × Int × ByteArray) × Int)} {s : ByteArray} {st : Option (ByteArray × Int)} {out : List (Int × Int × ByteArray)} {x : Int × Int × ByteArray} {st' : ByteArray × Int} {r : ByteArray} (h : Still b tot s st out) (hf : s ≠ finB b) (hp : partF b s st = some (x, st', r)) : Still b tot r (some st') (out ++ [x]) := by
  refine ⟨?_, by simp⟩
  rw [h.1, rd_step hf hp, Option.map_map]
  congr 1
  funext q
  simp
theorem Still.fin {b : ByteArray} {tot : Option (List (Int × Int × ByteArray) × Int)} {s : ByteArray} {st : Option (ByteArray × Int)} {out : List (Int × Int × ByteArray)} (h : Still b tot s st out) (hf : s = finB b) : (out = [] ∧ tot = none) ∨ (out ≠ [] ∧ ∃ k n, st = some (k, n) ∧ tot = some (out, n)) := by
  have h1 := h.1
  rw [rd_fin hf] at h1
  cases st with
  | none => exact .inl ⟨h.2.2 rfl, h1⟩
  | some p =>
    obtain ⟨k, n⟩ := p
    refine .inr ⟨fun e => ?_, k, n, rfl, ?_⟩
    · have := h.2.1 e
      cases this
    · rw [h1]
      simp
theorem Still.start (b s : ByteArray) : Still b (rdF b s none) s none [] := ⟨by cases rdF b s none <;> rfl, by simp⟩
end Go.Proofs.YtlhnejcjeoecaaaGreatDoor
namespace Go.Proofs
open Go.Shelf
def Tryz.laysSr_ren : Go.Shelf.Ren := ⟨fun | 6 => 46 | 15 => 61 | 14 => 60 | 28 => 87 | 29 => 88 | 20 => 79 | 21 => 80 | 22 => 81 | 23 => 82 | 24 => 83 | 25 => 84 | 26 => 85 | 27 => 86 | 46 => 102 | 47 => 103 | 48 => 104 | 49 => 105 | 50 => 106 | 57 => 116 | n => n, fun | 22 => 23 | 24 => 27 | 25 => 99 | 3 => 3 | 39 => 106 | 0 => 0 | 53 => 128 | 55 => 130 | 4 => 4 | 46 => 122 | 45 => 121 | 50 => 95 | 5 => 5 | 9 => 9 | 66 => 141 | 70 => 145 | 76 => 152 | 77 => 153 | n => n, fun | n => n⟩
theorem Tryz.laysSr : Go.Proofs.SlLaysF0.n6 Tryz.prog Tryz.laysSr_ren := {
  mixed := by kernel_rfl
  f6 := ⟨Tryz.f46.name, by decide, Tryz.func46.trans (congrArg some (by kernel_rfl))⟩
  f14 := ⟨Tryz.f60.name, by decide, Tryz.func60.trans (congrArg some (by kernel_rfl))⟩
  f15 := Tryz.func61.trans (congrArg some (by kernel_rfl))
  f20 := ⟨Tryz.f79.name, by decide, Tryz.func79.trans (congrArg some (by kernel_rfl))⟩
  f21 := ⟨Tryz.f80.name, by decide, Tryz.func80.trans (congrArg some (by kernel_rfl))⟩
  f22 := ⟨Tryz.f81.name, by decide, Tryz.func81.trans (congrArg some (by kernel_rfl))⟩
  f23 := ⟨Tryz.f82.name, by decide, Tryz.func82.trans (congrArg some (by kernel_rfl))⟩
  f24 := ⟨Tryz.f83.name, by decide, Tryz.func83.trans (congrArg some (by kernel_rfl))⟩
  f25 := ⟨Tryz.f84.name, by decide, Tryz.func84.trans (congrArg some (by kernel_rfl))⟩
  f26 := ⟨Tryz.f85.name, by decide, Tryz.func85.trans (congrArg some (by kernel_rfl))⟩
  f27 := ⟨Tryz.f86.name, by decide, Tryz.func86.trans (congrArg some (by kernel_rfl))⟩
  f28 := Tryz.func87.trans (congrArg some (by kernel_rfl))
  f29 := Tryz.func88.trans (congrArg some (by kernel_rfl))
  f46 := ⟨Tryz.f102.name, by decide, Tryz.func102.trans (congrArg some (by kernel_rfl))⟩
  f47 := Tryz.func103.trans (congrArg some (by kernel_rfl))
  f48 := Tryz.func104.trans (congrArg some (by kernel_rfl))
  f49 := ⟨Tryz.f105.name, by decide, Tryz.func105.trans (congrArg some (by kernel_rfl))⟩
  f50 := ⟨Tryz.f106.name, by decide, Tryz.func106.trans (congrArg some (by kernel_rfl))⟩
  f57 := ⟨Tryz.f116.name, by decide, Tryz.func116.trans (congrArg some (by kernel_rfl))⟩
  t0 := Tryz.underlying0
  a0 := Tryz.isAgg0
  z0 := Tryz.sizeOf0
  v0 := Tryz.zeroValue0
  t3 := Tryz.underlying3
  a3 := Tryz.isAgg3
  z3 := Tryz.sizeOf3
  v3 := Tryz.zeroValue3
  t4 := Tryz.underlying4
  a4 := Tryz.isAgg4
  z4 := Tryz.sizeOf4
  v4 := Tryz.zeroValue4
  t5 := Tryz.underlying5
  a5 := Tryz.isAgg5
  z5 := Tryz.sizeOf5
  v5 := Tryz.zeroValue5
  t9 := Tryz.underlying9
  a9 := Tryz.isAgg9
  z9 := Tryz.sizeOf9
  v9 := Tryz.zeroValue9
  t22 := Tryz.underlying23
  a22 := Tryz.isAgg23
  z22 := Tryz.sizeOf23
  v22 := Tryz.zeroValue23
  t25 := Tryz.underlying99
  a25 := Tryz.isAgg99
  z25 := Tryz.sizeOf99
  v25 := Tryz.zeroValue99
  t39 := Tryz.underlying106
  a39 := Tryz.isAgg106
  z39 := Tryz.sizeOf106
  v39 := Tryz.zeroValue106
  t45 := Tryz.underlying121
  a45 := Tryz.isAgg121
  z45 := Tryz.sizeOf121
  v45 := Tryz.zeroValue121
  t46 := Tryz.underlying122
  a46 := Tryz.isAgg122
  z46 := Tryz.sizeOf122
  v46 := Tryz.zeroValue122
  t50 := Tryz.underlying95
  a50 := Tryz.isAgg95
  z50 := Tryz.sizeOf95
  v50 := Tryz.zeroValue95
  t53 := Tryz.underlying128
  a53 := Tryz.isAgg128
  z53 := Tryz.sizeOf128
  v53 := Tryz.zeroValue128
  t55 := Tryz.underlying130
  a55 := Tryz.isAgg130
  z55 := Tryz.sizeOf130
  v55 := Tryz.zeroValue130
  t66 := Tryz.underlying141
  a66 := Tryz.isAgg141
  z66 := Tryz.sizeOf141
  v66 := Tryz.zeroValue141
  t70 := Tryz.underlying145
  a70 := Tryz.isAgg145
  z70 := Tryz.sizeOf145
  v70 := Tryz.zeroValue145
  t76 := Tryz.underlying152
  a76 := Tryz.isAgg152
  z76 := Tryz.sizeOf152
  v76 := Tryz.zeroValue152
  t77 := Tryz.underlying153
  a77 := Tryz.isAgg153
  z77 := Tryz.sizeOf153
  v77 := Tryz.zeroValue153 }
end Go.Proofs
namespace Go.Proofs.YtlhnejcjeoecaaaGreatDoor
open Go.RowKit Go.Lib Go.Sort Go.Maps
theorem isnan_int (a : Int) (w : World) : Calls Tryz.prog 62 #[.int .i64 a] w fun e w' => e = .returned (.bool false) ∧ w = w' := by
  have hq : (a != a) = false := by simp
  go_enter Tryz.func62, Tryz.ntmps62
  go_wp2_with fail
  go_ret
  exact ⟨rfl, rfl⟩
def cmpI (a b : Int) : Int := if a < b then -1 else if b < a then 1 else 0
theorem cmp_any (a b : Int) (w : World) : Calls Tryz.prog 48 #[.int .i64 a, .int .i64 b] w fun e w' => e = .returned (.int .i64 (cmpI a b)) ∧ w = w' := by
  unfold cmpI
  rcases Int.lt_or_le a b with h | h
  · rw [if_pos h]
    go_enter Tryz.func48, Tryz.ntmps48
    go_wp2_with (go_at_call 62; refine (isnan_int _ _).mono ?_; rintro e w' ⟨rfl, rfl⟩)
    go_ret
    exact ⟨rfl, rfl⟩
  · rw [if_neg (by omega)]
    rcases Int.lt_or_le b a with h2 | h2
    · rw [if_pos h2]
      go_enter Tryz.func48, Tryz.ntmps48
      go_wp2_with (go_at_call 62; refine (isnan_int _ _).mono ?_; rintro e w' ⟨rfl, rfl⟩)
      go_ret
      exact ⟨rfl, rfl⟩
    · rw [if_neg (by omega)]
      go_enter Tryz.func48, Tryz.ntmps48
      go_wp2_with (go_at_call 62; refine (isnan_int _ _).mono ?_; rintro e w' ⟨rfl, rfl⟩)
      go_ret
      exact ⟨rfl, rfl⟩
def cmpR (a b : Int × Int) : Int := cmpI a.1 b.1
theorem grow_two (w : World) (A B : Obj) : (w.alloc A).alloc B = Go.Sort.grow (w.drewN 0) #[A, B] := by
  have h : (w.heap.push A).push B = w.heap ++ #[A, B] := by
    apply Array.toList_inj.1
    simp
  unfold World.drewN Go.Sort.grow World.alloc
  rw [← h]
  rfl
theorem clos_any (x y : Int × Int) (w : World) : Calls Tryz.prog 47 #[.agg (rcs2 x).toArray, .agg (rcs2 y).toArray] w fun e w' => e = .returned (.int .i64 (cmpR x y)) ∧ ∃ q os', w' = Go.Sort.grow (w.drewN q) os' := by
  obtain ⟨a, b⟩ := x
  obtain ⟨c, d⟩ := y
  dsimp only [rcs2]
  go_enter Tryz.func47, Tryz.ntmps47
  go_wp2_with (go_at_call 48; refine (cmp_any a c _).mono ?_; rintro e w' ⟨rfl, rfl⟩)
  go_ret
  exact ⟨rfl, 0, _, grow_two _ _ _⟩
theorem ltOf_R (a b : Int × Int) : ltOf cmpR a b = true ↔ a.1 < b.1 := by
  unfold ltOf cmpR cmpI
  split
  · simp_all
  · split <;> simp <;> omega
theorem ltOf_Rf (a b : Int × Int) : ltOf cmpR a b = false ↔ b.1 ≤ a.1 := by
  rw [← Bool.not_eq_true, ltOf_R]
  omega
theorem swo_R : SWO (ltOf cmpR) where
  irrefl _ := (ltOf_Rf _ _).2 (Int.le_refl _)
  trans _ _ _ h1 h2 := (ltOf_R _ _).2 (Int.lt_trans ((ltOf_R _ _).1 h1) ((ltOf_R _ _).1 h2))
  ntrans _ _ _ h1 h2 := (ltOf_Rf _ _).2 (Int.le_trans ((ltOf_Rf _ _).1 h2) ((ltOf_Rf _ _).1 h1))
theorem cmp_lays (blk off size : Nat) (w : World) : CmpLays Tryz.prog 47 #[] rcs2 2 cmpR blk off size w := fun _ _ _ _ x y => clos_any x y _
theorem r2_len (e : Int × Int) : (rcs2 e).length = 2 := rfl
theorem r2_flat_len (xs : List (Int × Int)) : (xs.flatMap rcs2).length = xs.length * 2 := by
  induction xs with
  | nil => rfl
  | cons x r ih => simp [ih, r2_len]; omega
theorem r2_one (xs : List (Int × Int)) : ∀ v ∈ xs.flatMap rcs2, v.oneCell' = true := by
  intro v hv
  obtain ⟨r, -, h⟩ := List.mem_flatMap.1 hv
  simp [rcs2] at h
  rcases h with rfl | rfl <;> rfl
theorem rholds {T : TypeId} {w : World} {b g cap : Nat} {es : List (Int × Int)} (h : ROwn T w b (.slice (some ⟨g, 0, none⟩) es.length cap) es) :
    HoldsK rcs2 2 w g 0 es.toArray ∧ b ≤ g ∧ g < w.heap.size := by
  rcases h.2 with ⟨hv, _⟩ | ⟨g', cap', cur, hv, hb, hg, h1, h2, h3, h4⟩
  · cases hv
  · cases hv
    refine ⟨fun t ht => ?_, hb, (Array.getElem?_eq_some_iff.1 hg).1⟩
    have ht' : t < es.length * 2 := by simpa using ht
    have hi : t / 2 < es.length := by omega
    rw [cell_of_row w g _ cur _ _ hg, get_flatK _ _ _ _ (by simpa using ht')]
    have e1 := r_flat es (t / 2) es[t / 2] (by simp) (t % 2) (by omega)
    rw [← h4, show t / 2 * 2 + t % 2 = t by omega, List.getElem?_take_of_lt (by omega)] at e1
    refine ⟨?_, ?_⟩
    · have e2 : es.toArray[t / 2]! = es[t / 2] := by simp [hi]
      rw [e2]
      have e3 : (rcs2 es[t / 2])[t % 2]! = ((rcs2 es[t / 2])[t % 2]?).getD default := by simp
      have : t % 2 < (rcs2 es[t / 2]).length := by rw [r2_len]; omega
      rw [e3, ← e1]
      rw [List.getElem?_eq_getElem this] at e1
      rw [e1]
      simpa using e1
    · simp [World.frozen?, hg]
theorem rat_holds {w : World} {g cap : Nat} {es : List (Int × Int)} (h : HoldsK rcs2 2 w g 0 es.toArray) : RAt w (.slice (some ⟨g, 0, none⟩) es.length cap) es := by
  refine .inr ⟨g, cap, rfl, fun i e he j u hj => ?_⟩
  have hj2 : j < 2 := by have := (List.getElem?_eq_some_iff.1 hj).1; rwa [r2_len] at this
  have hi := (List.getElem?_eq_some_iff.1 he).1
  have := (HoldsK.cell h (i := i) (c := j) (by simpa using hi) hj2).1
  rw [show i * 2 + j = 0 + i * 2 + j by omega, this]
  have e2 : es.toArray[i]! = e := by
    have := (List.getElem?_eq_some_iff.1 he).2
    simp [hi, this]
  rw [e2]
  simp [hj]
theorem ext_sortR (w w1 : World) (g : Nat) (n : Nat) (d' : Array (Int × Int)) (os : Array Obj) (hx : Ext w w1) (hg : w.heap.size ≤ g) : Ext w (sortWorldK rcs2 2 w1 g 0 n d' os) := by
  have h1 : Below w.heap.size w1 (sortWorldK rcs2 2 w1 g 0 n d' os) := by
    refine ⟨rfl, rfl, rfl, ?_, fun k hk => ?_⟩
    · exact size_sortWorldK_c rcs2 2 w1 g 0 n d' os
    · have hk1 : k < w1.heap.size := Nat.lt_of_lt_of_le hk hx.size
      show (w1.heap.modify g _ ++ os)[k]? = w1.heap[k]?
      rw [Array.getElem?_append_left (by simpa using hk1), Array.getElem?_modify, if_neg (by omega)]
  exact hx.below.trans h1
/-- the library's sort: the ranges in the order of their From -/
theorem sortR_any {w w1 : World} {v : Value} {xs : List (Int × Int)} (hown : ROwn 27 w1 w.heap.size v xs) (hX : Ext w w1) (hn : xs.length ≤ 1000) :
    Calls Tryz.prog 46 #[v, .func (.func 47) #[] #[]] w1 fun e w' => e = .returned (.tuple #[]) ∧ ∃ ys, ys.Perm xs ∧ ys.Pairwise (fun a b => a.1 ≤ b.1) ∧ RAt w' v ys ∧ Ext w w' := by
  have eg : ∀ args w, (callFunc 47 args).run Tryz.prog w = .ok (.enter 47 args) w := enters_of Tryz.func47 (by kernel_rfl) rfl
  by_cases h0 : xs.length = 0
  · obtain rfl : xs = [] := List.length_eq_zero_iff.1 h0
    obtain ⟨p, cap, rfl⟩ : ∃ p cap, v = .slice p 0 cap := by
      rcases hown.2 with ⟨rfl, _⟩ | ⟨g, cap, cur, rfl, _⟩
      · exact ⟨_, _, rfl⟩
      · exact ⟨_, _, rfl⟩
    have hc := AnyF.slices_SortFunc_none Tryz.laysSr p cap (.func (.func 47) #[] #[]) w1
    refine hc.mono ?_
    rintro e w' ⟨rfl, rfl⟩
    exact ⟨rfl, [], List.Perm.refl _, List.Pairwise.nil, hown.at, hX⟩
  · obtain ⟨g, cap, rfl⟩ : ∃ g cap, v = .slice (some ⟨g, 0, none⟩) xs.length cap := by
      rcases hown.2 with ⟨_, h⟩ | ⟨g, cap, cur, rfl, _⟩
      · exact absurd h h0
      · exact ⟨_, _, rfl⟩
    obtain ⟨hH, hbg, hlt⟩ := rholds hown
    have hc := AnyQ.slices_SortFunc Tryz.laysSr 2 Tryz.isAgg27 Tryz.sizeOf27 rcs2 r2_len (fun x v hv => by simp [rcs2] at hv; rcases hv with rfl | rfl <;> rfl) cmpR swo_R 47 #[] g 0 cap xs.toArray w1 eg (cmp_lays g 0 _ w1) hH hlt (by simp; omega)
    refine Calls.mono hc ?_
    rintro e w' ⟨rfl, d', n, os, h1, h2, rfl⟩
    have hsz : d'.size = xs.length := by have := h1.1; simpa using this
    have hpp : d'.toList.Perm xs := by
      have := h1.2.2
      rw [show d'.extract 0 xs.toArray.size = d' by rw [← h1.1]; simp, show xs.toArray.extract 0 xs.toArray.size = xs.toArray by simp] at this
      simpa using this
    refine ⟨rfl, d'.toList, hpp, ?_, ?_, ext_sortR w w1 g n d' os hX hbg⟩
    · rw [List.pairwise_iff_getElem]
      intro i j hi hj hij
      have hi' : i < d'.size := by simpa using hi
      have hj' : j < d'.size := by simpa using hj
      have hs := h2 i j (Nat.zero_le _) hij (by rw [← h1.1]; exact hj')
      rw [getElem!_pos d' j hj', getElem!_pos d' i hi', ltOf_Rf] at hs
      simpa only [Array.getElem_toList] using hs
    · have hl2 : d'.toList.length = xs.length := by simpa using hsz
      rw [← hl2]
      exact rat_holds (holdsK_sortWorldK_c rcs2 2 w1 g 0 xs.toArray d' n os hH hlt (by simpa using hsz))
set_option maxRecDepth 100000 in
theorem cloneR_any {w : World} {v : Value} {xs : List (Int × Int)} (h : RAt w v xs) (hn : xs.length ≤ 1000000) (hv : xs = [] → v = .slice none 0 0) :
    Calls Tryz.prog 45 #[v] w fun e w' => ∃ v', e = .returned v' ∧ Ext w w' ∧ ROwn 27 w' w.heap.size v' xs := by
  by_cases hnil : xs = []
  · have hvv := hv hnil
    subst hvv
    subst hnil
    have hq : ∀ W, (binOp .eql 23 (.slice none 0 0) (.slice none 0 0)).run Tryz.prog W = .ok (.bool true) W := fun _ => by kernel_rfl
    clear h hv
    go_enter Tryz.func45, Tryz.ntmps45
    go_wp2_with fail
    go_ret
    exact ⟨_, rfl, Ext.refl _, ROwn.nil _ _ _⟩
  · obtain ⟨g, cap, rfl, hc⟩ : ∃ g cap, v = .slice (some ⟨g, 0, none⟩) xs.length cap ∧ ∀ i e, xs[i]? = some e → ∀ j u, (rcs2 e)[j]? = some u → w.cell? ⟨g, i * 2 + j, none⟩ = some u := by
      rcases h with ⟨_, h⟩ | h
      · exact absurd h hnil
      · exact h
    have h0 : 0 < xs.length := List.length_pos_iff.2 hnil
    clear hv h
    obtain ⟨i0, hi0, hz0, hz1, hz2⟩ := info_parts rng_info
    have hq : ∀ W c n, (binOp .eql 23 (.slice (some ⟨g, 0, none⟩) n c) (.slice none 0 0)).run Tryz.prog W = .ok (.bool false) W := fun _ _ _ => by kernel_rfl
    have hrd : Reads w w.heap.size 2 (some ⟨g, 0, none⟩) xs.length (xs.flatMap rcs2) := by
      refine ⟨r2_flat_len xs, fun _ => ⟨_, rfl, ?_, fun j u hu => ?_⟩⟩
      · obtain ⟨x, hx⟩ : ∃ x, xs[0]? = some x := ⟨_, List.getElem?_eq_getElem h0⟩
        exact World.block_lt_of_cell? w _ (hc 0 x hx 0 _ rfl)
      · have hj := (List.getElem?_eq_some_iff.1 hu).1
        rw [r2_flat_len] at hj
        obtain ⟨x, hx⟩ : ∃ x, xs[j / 2]? = some x := ⟨_, List.getElem?_eq_getElem (by omega)⟩
        have e1 := r_flat xs (j / 2) x hx (j % 2) (by omega)
        rw [show j / 2 * 2 + j % 2 = j by omega, hu] at e1
        have e2 := hc (j / 2) x hx (j % 2) u e1.symm
        rw [show j / 2 * 2 + j % 2 = j by omega] at e2
        rw [Addr.add_lit, Nat.zero_add]
        exact e2
    have HRD := Lib.hid hrd
    have HX := Lib.hid (r2_one xs)
    obtain ⟨n, hxn⟩ : ∃ n, xs.length = n := ⟨_, rfl⟩
    have HN := Lib.hid hxn
    rw [hxn] at hn h0 HRD ⊢
    have hown : (w.alloc (.cells #[] 27)).ownsRow w.heap.size 27 2 (.slice (some ⟨w.heap.size, 0, none⟩) 0 0) 0 [] := by
      refine ⟨rfl, .inr ⟨w.heap.size, 0, #[], rfl, Nat.le_refl _, heap_alloc_new w _, Nat.le_refl _, by simp only [maxLen]; omega, rfl, rfl⟩⟩
    clear hrd hxn hc hnil
    go_enter Tryz.func45, Tryz.ntmps45
    go_wp2_with (at_builtin; refine wpList_append_any _ rfl (.tmp 5) (.tmp 6) _ rfl w.heap.size 27 i0 _ 2 16 Tryz.underlying23 hi0 hz0 hz1 hz2 rfl (by omega) _ 0 [] rfl hown w.heap.size _ n _ _ rfl (HRD.out.alloc (Nat.le_refl _) _) HX.out (by simp only [maxLen]; omega) (by omega) (by simp) ?_)
    intro v' w' hown' hg' _
    have hX : Ext w w' := Below.grown ((Ext.refl w).alloc _) hg' (by simp) (by intro k hk; simp [Value.ownBlock] at hk; omega)
    clear hg' hown HRD
    go_wp2_with fail
    go_ret
    exact ⟨_, rfl, hX, by unfold ROwn; rw [HN.out]; simpa using hown'⟩
end Go.Proofs.YtlhnejcjeoecaaaGreatDoor
namespace Go.Proofs.YtlhnejcjeoecaaaGreatDoor
def mgJ (out : List (Int × Int)) (r : Int × Int) : List (Int × Int) :=
  match out.getLast? with
  | none => [r]
  | some l => if r.1 ≤ l.2 then out.set (out.length - 1) (l.1, max l.2 r.2) else out ++ [r]
def mgS (out : List (Int × Int)) (r : Int × Int) : List (Int × Int) := if r.1 < r.2 then mgJ out r else out
def mg (xs : List (Int × Int)) : List (Int × Int) := xs.foldl mgS []
theorem mg_take (xs : List (Int × Int)) (k : Nat) (r : Int × Int) (h : xs[k]? = some r) : mg (xs.take (k + 1)) = mgS (mg (xs.take k)) r := by
  unfold mg
  rw [List.take_add_one, h, List.foldl_append]
  rfl
theorem mgJ_length (out : List (Int × Int)) (r : Int × Int) : (mgJ out r).length ≤ out.length + 1 := by
  unfold mgJ
  split
  · simp
  · split <;> simp
theorem mgS_length (out : List (Int × Int)) (r : Int × Int) : (mgS out r).length ≤ out.length + 1 := by
  unfold mgS
  have := mgJ_length out r
  split <;> omega
theorem mg_length (xs : List (Int × Int)) : (mg xs).length ≤ xs.length := by
  have : ∀ (ys out : List (Int × Int)), (ys.foldl mgS out).length ≤ out.length + ys.length := by
    intro ys
    induction ys with
    | nil => intro out; simp
    | cons y ys ih => intro out; have h1 := ih (mgS out y); have := mgS_length out y; simp only [List.foldl_cons, List.length_cons]; omega
  have := this xs []
  simpa [mg] using this
theorem mgJ_nil (r : Int × Int) : mgJ [] r = [r] := rfl
theorem mgJ_join {out : List (Int × Int)} {r l : Int × Int} {q : Nat} (hq : out.length = q + 1) (hl : out[q]? = some l) (h : r.1 ≤ l.2) : mgJ out r = out.set q (l.1, max l.2 r.2) := by
  unfold mgJ
  rw [List.getLast?_eq_getElem?, hq, show q + 1 - 1 = q by omega, hl]
  simp [h]
theorem mgJ_add {out : List (Int × Int)} {r l : Int × Int} {q : Nat} (hq : out.length = q + 1) (hl : out[q]? = some l) (h : ¬ r.1 ≤ l.2) : mgJ out r = out ++ [r] := by
  unfold mgJ
  rw [List.getLast?_eq_getElem?, hq, show q + 1 - 1 = q by omega, hl]
  simp [h]
/-- an offset is in a list -/
def cov (l : List (Int × Int)) (o : Int) : Prop := ∃ r ∈ l, r.1 ≤ o ∧ o < r.2
def Sep (l : List (Int × Int)) : Prop := l.Pairwise fun x y => x.2 < y.1
def Prp (l : List (Int × Int)) : Prop := ∀ r ∈ l, r.1 < r.2
theorem mgJ_concat (o : List (Int × Int)) (l r : Int × Int) : mgJ (o ++ [l]) r = if r.1 ≤ l.2 then o ++ [(l.1, max l.2 r.2)] else o ++ [l] ++ [r] := by
  by_cases h : r.1 ≤ l.2
  · rw [if_pos h, mgJ_join (q := o.length) (by simp) (l := l) (by simp) h]
    rw [List.set_append_right _ _ (Nat.le_refl _)]
    simp
  · rw [if_neg h, mgJ_add (q := o.length) (by simp) (l := l) (by simp) h]
theorem cov_append (a b : List (Int × Int)) (o : Int) : cov (a ++ b) o ↔ cov a o ∨ cov b o := by
  unfold cov
  constructor
  · rintro ⟨r, hr, h⟩
    rcases List.mem_append.1 hr with h1 | h1
    · exact .inl ⟨r, h1, h⟩
    · exact .inr ⟨r, h1, h⟩
  · rintro (⟨r, hr, h⟩ | ⟨r, hr, h⟩)
    · exact ⟨r, List.mem_append_left _ hr, h⟩
    · exact ⟨r, List.mem_append_right _ hr, h⟩
theorem cov_one (r : Int × Int) (o : Int) : cov [r] o ↔ r.1 ≤ o ∧ o < r.2 := by
  unfold cov
  constructor
  · rintro ⟨x, hx, h⟩
    rw [List.mem_singleton] at hx
    rw [← hx]; exact h
  · intro h
    exact ⟨r, List.mem_singleton.2 rfl, h⟩
theorem cov_nil (o : Int) : ¬ cov [] o := by
  rintro ⟨r, hr, _⟩
  cases hr
theorem mgJ_facts (out : List (Int × Int)) (r : Int × Int) (hs : Sep out) (ho : Prp out) (hr : r.1 < r.2) (hle : ∀ x ∈ out, x.1 ≤ r.1) :
    Sep (mgJ out r) ∧ Prp (mgJ out r) ∧ (∀ o, cov (mgJ out r) o ↔ cov out o ∨ cov [r] o) ∧ ∀ y : Int, r.1 ≤ y → ∀ x ∈ mgJ out r, x.1 ≤ y := by
  rcases List.eq_nil_or_concat out with rfl | ⟨o', l, rfl⟩
  · refine ⟨List.pairwise_singleton _ _, fun x hx => ?_, fun o => ?_, fun y hy x hx => ?_⟩
    · rw [mgJ_nil, List.mem_singleton] at hx; rw [hx]; exact hr
    · rw [mgJ_nil]
      exact ⟨.inr, fun h => h.elim (fun h => absurd h (cov_nil o)) id⟩
    · rw [mgJ_nil, List.mem_singleton] at hx; rw [hx]; exact hy
  · rw [List.concat_eq_append] at hs ho hle ⊢
    have hl := ho l (by simp)
    have hlr := hle l (by simp)
    have hs' : Sep o' ∧ ∀ x ∈ o', x.2 < l.1 := by
      have := List.pairwise_append.1 hs
      exact ⟨this.1, fun x hx => this.2.2 x hx l (by simp)⟩
    rw [mgJ_concat]
    by_cases h : r.1 ≤ l.2
    · rw [if_pos h]
      refine ⟨?_, ?_, fun o => ?_, fun y hy x hx => ?_⟩
      · refine List.pairwise_append.2 ⟨hs'.1, List.pairwise_singleton _ _, fun x hx y hy => ?_⟩
        rw [List.mem_singleton] at hy
        rw [hy]; exact hs'.2 x hx
      · intro x hx
        rcases List.mem_append.1 hx with h1 | h1
        · exact ho x (List.mem_append_left _ h1)
        · rw [List.mem_singleton] at h1
          rw [h1]
          show l.1 < max l.2 r.2
          omega
      · rw [cov_append, cov_append, cov_one, cov_one, cov_one]
        show cov o' o ∨ (l.1 ≤ o ∧ o < max l.2 r.2) ↔ _
        constructor
        · rintro (h1 | h1)
          · exact .inl (.inl h1)
          · by_cases h2 : o < l.2
            · exact .inl (.inr ⟨h1.1, h2⟩)
            · exact .inr (by omega)
        · rintro ((h1 | h1) | h1)
          · exact .inl h1
          · exact .inr (by omega)
          · exact .inr (by omega)
      · rcases List.mem_append.1 hx with h1 | h1
        · have := hle x (List.mem_append_left _ h1); omega
        · rw [List.mem_singleton] at h1
          rw [h1]
          show l.1 ≤ y
          omega
    · rw [if_neg h]
      refine ⟨?_, ?_, fun o => cov_append _ _ _, fun y hy x hx => ?_⟩
      · refine List.pairwise_append.2 ⟨hs, List.pairwise_singleton _ _, fun x hx y hy => ?_⟩
        rw [List.mem_singleton] at hy
        rw [hy]
        rcases List.mem_append.1 hx with h1 | h1
        · have := hs'.2 x h1; omega
        · rw [List.mem_singleton] at h1; rw [h1]; omega
      · intro x hx
        rcases List.mem_append.1 hx with h1 | h1
        · exact ho x h1
        · rw [List.mem_singleton] at h1; rw [h1]; exact hr
      · rcases List.mem_append.1 hx with h1 | h1
        · have := hle x h1; omega
        · rw [List.mem_singleton] at h1; rw [h1]; exact hy
theorem mgS_facts (out : List (Int × Int)) (r : Int × Int) (hs : Sep out) (ho : Prp out) (hle : ∀ x ∈ out, x.1 ≤ r.1) :
    Sep (mgS out r) ∧ Prp (mgS out r) ∧ (∀ o, cov (mgS out r) o ↔ cov out o ∨ cov [r] o) ∧ ∀ y : Int, r.1 ≤ y → ∀ x ∈ mgS out r, x.1 ≤ y := by
  unfold mgS
  by_cases hr : r.1 < r.2
  · rw [if_pos hr]
    exact mgJ_facts out r hs ho hr hle
  · rw [if_neg hr]
    refine ⟨hs, ho, fun o => ⟨.inl, fun h => h.elim id fun h => ?_⟩, fun y hy x hx => ?_⟩
    · rw [cov_one] at h
      omega
    · have := hle x hx
      omega
theorem fold_facts : ∀ (ys out : List (Int × Int)), Sep out → Prp out → (∀ x ∈ out, ∀ y ∈ ys, x.1 ≤ y.1) → (ys.Pairwise fun x y => x.1 ≤ y.1) →
    Sep (ys.foldl mgS out) ∧ Prp (ys.foldl mgS out) ∧ ∀ o, cov (ys.foldl mgS out) o ↔ cov out o ∨ cov ys o
  | [], out, hs, ho, _, _ => ⟨hs, ho, fun o => ⟨.inl, fun h => h.elim id fun h => absurd h (cov_nil o)⟩⟩
  | y :: ys, out, hs, ho, hle, hp => by
    obtain ⟨f1, f2, f3, f4⟩ := mgS_facts out y hs ho (fun x hx => hle x hx y (by simp))
    have hp' := List.pairwise_cons.1 hp
    obtain ⟨g1, g2, g3⟩ := fold_facts ys (mgS out y) f1 f2 (fun x hx z hz => f4 z.1 (hp'.1 z hz) x hx) hp'.2
    refine ⟨g1, g2, fun o => ?_⟩
    rw [List.foldl_cons, g3, f3, or_assoc, ← cov_append]
    rfl
theorem mg_facts (xs : List (Int × Int)) (hp : xs.Pairwise fun x y => x.1 ≤ y.1) : Sep (mg xs) ∧ Prp (mg xs) ∧ ∀ o, cov (mg xs) o ↔ cov xs o := by
  obtain ⟨h1, h2, h3⟩ := fold_facts xs [] List.Pairwise.nil (fun r hr => by cases hr) (fun x hx => by cases hx) hp
  exact ⟨h1, h2, fun o => (h3 o).trans ⟨fun h => h.elim (fun h => absurd h (cov_nil o)) id, .inr⟩⟩
theorem cov_perm {a b : List (Int × Int)} (h : a.Perm b) (o : Int) : cov a o ↔ cov b o := by
  unfold cov
  constructor
  · rintro ⟨r, hr, h2⟩
    exact ⟨r, h.mem_iff.1 hr, h2⟩
  · rintro ⟨r, hr, h2⟩
    exact ⟨r, h.mem_iff.2 hr, h2⟩
theorem cov_cons (x : Int × Int) (l : List (Int × Int)) (o : Int) : cov (x :: l) o ↔ (x.1 ≤ o ∧ o < x.2) ∨ cov l o := by
  have := cov_append [x] l o
  rw [cov_one] at this
  exact this
theorem sep_above {x : Int × Int} {l : List (Int × Int)} (hs : Sep (x :: l)) {o : Int} (hc : cov l o) : x.2 < o := by
  obtain ⟨r, hr, h1, -⟩ := hc
  have := (List.pairwise_cons.1 hs).1 r hr
  omega
/-- what is separated and in order is fixed by the offsets that it has -/
theorem sep_unique : ∀ (a b : List (Int × Int)), Sep a → Prp a → Sep b → Prp b → (∀ o, cov a o ↔ cov b o) → a = b
  | [], [], _, _, _, _, _ => rfl
  | [], y :: b, _, _, _, pb, h => by
    have hy := pb y (by simp)
    exact absurd ((h y.1).2 ((cov_cons _ _ _).2 (.inl ⟨Int.le_refl _, hy⟩))) (cov_nil _)
  | x :: a, [], _, pa, _, _, h => by
    have hx := pa x (by simp)
    exact absurd ((h x.1).1 ((cov_cons _ _ _).2 (.inl ⟨Int.le_refl _, hx⟩))) (cov_nil _)
  | x :: a, y :: b, sa, pa, sb, pb, h => by
    have hx := pa x (by simp)
    have hy := pb y (by simp)
    have key : ∀ (p q : Int × Int) (s t : List (Int × Int)), Sep (p :: s) → Sep (q :: t) → p.1 < p.2 → q.1 < q.2 → (∀ o, cov (p :: s) o → cov (q :: t) o) → q.1 ≤ p.1 := by
      intro p q s t hp hq h1 h2 h3
      rcases (cov_cons _ _ _).1 (h3 p.1 ((cov_cons _ _ _).2 (.inl ⟨Int.le_refl _, h1⟩))) with h4 | h4
      · exact h4.1
      · have := sep_above hq h4
        omega
    have e1 : x.1 = y.1 := by
      have h1 := key x y a b sa sb hx hy (fun o => (h o).1)
      have h2 := key y x b a sb sa hy hx (fun o => (h o).2)
      omega
    have key2 : ∀ (p q : Int × Int) (s t : List (Int × Int)), Sep (p :: s) → p.1 = q.1 → p.1 < p.2 → (∀ o, cov (q :: t) o → cov (p :: s) o) → q.2 ≤ p.2 := by
      intro p q s t hp h1 h2 h3
      refine Int.not_lt.1 fun h4 => ?_
      rcases (cov_cons _ _ _).1 (h3 p.2 ((cov_cons _ _ _).2 (.inl ⟨by omega, h4⟩))) with h5 | h5
      · omega
      · have := sep_above hp h5
        omega
    have e2 : x.2 = y.2 := by
      have h1 := key2 x y a b sa e1 hx (fun o => (h o).2)
      have h2 := key2 y x b a sb e1.symm hy (fun o => (h o).1)
      omega
    have exy : x = y := Prod.ext e1 e2
    subst exy
    have hr := sep_unique a b (List.pairwise_cons.1 sa).2 (fun r hr => pa r (by simp [hr])) (List.pairwise_cons.1 sb).2 (fun r hr => pb r (by simp [hr])) (fun o => by
      constructor
      · intro hc
        have h1 := sep_above sa hc
        rcases (cov_cons _ _ _).1 ((h o).1 ((cov_cons _ _ _).2 (.inr hc))) with h2 | h2
        · omega
        · exact h2
      · intro hc
        have h1 := sep_above sb hc
        rcases (cov_cons _ _ _).1 ((h o).2 ((cov_cons _ _ _).2 (.inr hc))) with h2 | h2
        · omega
        · exact h2)
    rw [hr]
theorem sep_le {l : List (Int × Int)} (hs : Sep l) (ho : Prp l) : l.Pairwise fun x y => x.1 ≤ y.1 := by
  refine List.Pairwise.imp_of_mem ?_ hs
  intro a b ha hb h
  have := ho a ha
  omega
theorem sep_pair {l : List (Int × Int)} (hs : Sep l) : ∀ x ∈ l, ∀ y ∈ l, x = y ∨ x.2 < y.1 ∨ y.2 < x.1 := by
  induction l with
  | nil => intro x hx; cases hx
  | cons a l ih =>
    obtain ⟨h1, h2⟩ := List.pairwise_cons.1 hs
    intro x hx y hy
    rcases List.mem_cons.1 hx with rfl | hx'
    · rcases List.mem_cons.1 hy with rfl | hy'
      · exact .inl rfl
      · exact .inr (.inl (h1 y hy'))
    · rcases List.mem_cons.1 hy with rfl | hy'
      · exact .inr (.inr (h1 x hx'))
      · exact ih h2 x hx' y hy'
theorem sep_cover {l : List (Int × Int)} (hs : Sep l) {f t : Int} (hft : f < t) : (∃ x ∈ l, x.1 ≤ f ∧ t ≤ x.2) ↔ ∀ o, f ≤ o → o < t → cov l o := by
  constructor
  · rintro ⟨x, hx, h1, h2⟩ o ho1 ho2
    exact ⟨x, hx, by omega, by omega⟩
  · intro h
    obtain ⟨x, hx, h1, h2⟩ := h f (Int.le_refl _) hft
    refine ⟨x, hx, h1, Int.not_lt.1 fun h3 => ?_⟩
    obtain ⟨y, hy, h4, h5⟩ := h x.2 (by omega) h3
    rcases sep_pair hs x hx y hy with rfl | h6 | h6 <;> omega
end Go.Proofs.YtlhnejcjeoecaaaGreatDoor
namespace Go.Proofs.YtlhnejcjeoecaaaGreatDoor
/-- a step of the inner loop; one range more; all ranges -/
def st9 (p : List (Int × Int) × (Int × Int)) (x : Int × Int) : List (Int × Int) × (Int × Int) := if x.2 < p.2.1 ∨ p.2.2 < x.1 then (p.1 ++ [x], p.2) else (p.1, (min p.2.1 x.1, max p.2.2 x.2))
def in9 (out : List (Int × Int)) (r : Int × Int) : List (Int × Int) × (Int × Int) := out.foldl st9 ([], r)
def at9 (rest : List (Int × Int)) (f : Int) : Nat := (rest.takeWhile fun x => decide (x.1 < f)).length
def ins9 (p : List (Int × Int) × (Int × Int)) : List (Int × Int) := p.1.take (at9 p.1 p.2.1) ++ [p.2] ++ p.1.drop (at9 p.1 p.2.1)
def ms9 (out : List (Int × Int)) (r : Int × Int) : List (Int × Int) := if r.2 ≤ r.1 then out else ins9 (in9 out r)
def mg9 (xs : List (Int × Int)) : List (Int × Int) := xs.foldl ms9 []
theorem in9_take (out : List (Int × Int)) (r x : Int × Int) (j : Nat) (h : out[j]? = some x) : in9 (out.take (j + 1)) r = st9 (in9 (out.take j) r) x := by
  unfold in9
  rw [List.take_add_one, h, List.foldl_append]
  rfl
theorem mg9_take (xs : List (Int × Int)) (k : Nat) (r : Int × Int) (h : xs[k]? = some r) : mg9 (xs.take (k + 1)) = ms9 (mg9 (xs.take k)) r := by
  unfold mg9
  rw [List.take_add_one, h, List.foldl_append]
  rfl
theorem in9_length (out : List (Int × Int)) (r : Int × Int) : (in9 out r).1.length ≤ out.length := by
  have : ∀ (ys : List (Int × Int)) (p : List (Int × Int) × (Int × Int)), (ys.foldl st9 p).1.length ≤ p.1.length + ys.length := by
    intro ys
    induction ys with
    | nil => intro p; simp
    | cons y ys ih =>
      intro p
      have h1 := ih (st9 p y)
      have h2 : (st9 p y).1.length ≤ p.1.length + 1 := by unfold st9; split <;> simp
      simp only [List.foldl_cons, List.length_cons]; omega
  have := this out ([], r)
  simpa [in9] using this
theorem ins9_length (p : List (Int × Int) × (Int × Int)) : (ins9 p).length = p.1.length + 1 := by
  have h : at9 p.1 p.2.1 ≤ p.1.length := by unfold at9; exact (List.takeWhile_sublist _).length_le
  unfold ins9
  simp
  omega
theorem mg9_length (xs : List (Int × Int)) : (mg9 xs).length ≤ xs.length := by
  have h1 : ∀ out r, (ms9 out r).length ≤ out.length + 1 := by
    intro out r
    unfold ms9
    split
    · omega
    · rw [ins9_length]; have := in9_length out r; omega
  have : ∀ (ys out : List (Int × Int)), (ys.foldl ms9 out).length ≤ out.length + ys.length := by
    intro ys
    induction ys with
    | nil => intro out; simp
    | cons y ys ih => intro out; have := ih (ms9 out y); have := h1 out y; simp only [List.foldl_cons, List.length_cons]; omega
  have := this xs []
  simpa [mg9] using this
theorem at9_step {rest : List (Int × Int)} {f : Int} {j : Nat} (hj : ∀ i, i < j → ∀ x, rest[i]? = some x → x.1 < f) : (∀ x, rest[j]? = some x → f ≤ x.1) → j ≤ rest.length → at9 rest f = j := by
  induction rest generalizing j with
  | nil => intro _ h; simp at h; subst h; rfl
  | cons y ys ih =>
    intro h1 h2
    cases j with
    | zero =>
      have := h1 y rfl
      unfold at9
      rw [List.takeWhile_cons_of_neg (by simp; omega)]
      rfl
    | succ j =>
      have h0 := hj 0 (by omega) y rfl
      have := ih (j := j) (fun i hi x hx => hj (i + 1) (by omega) x (by simpa using hx)) (fun x hx => h1 x (by simpa using hx)) (by simpa using h2)
      unfold at9 at this ⊢
      rw [List.takeWhile_cons_of_pos (by simpa using h0), List.length_cons, this]
theorem st9_nil (r : Int × Int) : in9 [] r = ([], r) := rfl

/-- a range lies apart from another -/
def Apart (x r : Int × Int) : Prop := x.2 < r.1 ∨ r.2 < x.1
theorem in9_facts : ∀ (ys rest : List (Int × Int)) (r : Int × Int), Sep rest → Prp rest → Sep ys → Prp ys → (∀ x ∈ rest, ∀ y ∈ ys, x.2 < y.1) → (∀ x ∈ rest, Apart x r) → r.1 < r.2 →
    Sep (ys.foldl st9 (rest, r)).1 ∧ Prp (ys.foldl st9 (rest, r)).1 ∧ (∀ x ∈ (ys.foldl st9 (rest, r)).1, Apart x (ys.foldl st9 (rest, r)).2) ∧ (ys.foldl st9 (rest, r)).2.1 < (ys.foldl st9 (rest, r)).2.2 ∧
    ∀ o, (cov (ys.foldl st9 (rest, r)).1 o ∨ ((ys.foldl st9 (rest, r)).2.1 ≤ o ∧ o < (ys.foldl st9 (rest, r)).2.2)) ↔ (cov rest o ∨ cov ys o ∨ (r.1 ≤ o ∧ o < r.2))
  | [], rest, r, hs, hp, _, _, _, ha, hr => ⟨hs, hp, ha, hr, fun o => ⟨fun h => h.elim .inl fun h => .inr (.inr h), fun h => h.elim .inl fun h => h.elim (fun h => absurd h (cov_nil o)) .inr⟩⟩
  | y :: ys, rest, r, hs, hp, sy, py, hb, ha, hr => by
    have sy' := List.pairwise_cons.1 sy
    have hy := py y (by simp)
    rw [List.foldl_cons]
    by_cases hc : y.2 < r.1 ∨ r.2 < y.1
    · have e : st9 (rest, r) y = (rest ++ [y], r) := by unfold st9; rw [if_pos hc]
      rw [e]
      obtain ⟨f1, f2, f3, f4, f5⟩ := in9_facts ys (rest ++ [y]) r
        (List.pairwise_append.2 ⟨hs, List.pairwise_singleton _ _, fun x hx z hz => by rw [List.mem_singleton] at hz; rw [hz]; exact hb x hx y (by simp)⟩)
        (fun x hx => by
          rcases List.mem_append.1 hx with h | h
          · exact hp x h
          · rw [List.mem_singleton] at h; rw [h]; exact hy)
        sy'.2 (fun x hx => py x (by simp [hx]))
        (fun x hx z hz => by
          rcases List.mem_append.1 hx with h | h
          · exact hb x h z (by simp [hz])
          · rw [List.mem_singleton] at h; rw [h]; exact sy'.1 z hz)
        (fun x hx => by
          rcases List.mem_append.1 hx with h | h
          · exact ha x h
          · rw [List.mem_singleton] at h; rw [h]; exact hc)
        hr
      refine ⟨f1, f2, f3, f4, fun o => ?_⟩
      rw [f5, cov_append, cov_one, cov_cons]
      constructor
      · rintro ((h | h) | h | h)
        · exact .inl h
        · exact .inr (.inl (.inl h))
        · exact .inr (.inl (.inr h))
        · exact .inr (.inr h)
      · rintro (h | (h | h) | h)
        · exact .inl (.inl h)
        · exact .inl (.inr h)
        · exact .inr (.inl h)
        · exact .inr (.inr h)
    · have e : st9 (rest, r) y = (rest, (min r.1 y.1, max r.2 y.2)) := by unfold st9; rw [if_neg hc]
      rw [e]
      obtain ⟨f1, f2, f3, f4, f5⟩ := in9_facts ys rest (min r.1 y.1, max r.2 y.2) hs hp sy'.2 (fun x hx => py x (by simp [hx])) (fun x hx z hz => hb x hx z (by simp [hz]))
        (fun x hx => by
          have h1 := hb x hx y (by simp)
          have h2 := hp x hx
          have h3 := ha x hx
          unfold Apart at h3 ⊢
          simp only
          omega)
        (by simp only; omega)
      refine ⟨f1, f2, f3, f4, fun o => ?_⟩
      rw [f5, cov_cons]
      simp only
      constructor
      · rintro (h | h | h)
        · exact .inl h
        · exact .inr (.inl (.inr h))
        · by_cases h1 : r.1 ≤ o ∧ o < r.2
          · exact .inr (.inr h1)
          · exact .inr (.inl (.inl (by omega)))
      · rintro (h | (h | h) | h)
        · exact .inl h
        · exact .inr (.inr (by omega))
        · exact .inr (.inl h)
        · exact .inr (.inr (by omega))
theorem tw_spec (l : List (Int × Int)) (f : Int) : (∀ x ∈ l.take (at9 l f), x.1 < f) ∧ ∀ y, (l.drop (at9 l f))[0]? = some y → f ≤ y.1 := by
  unfold at9
  have e1 : l.take (l.takeWhile fun x => decide (x.1 < f)).length = l.takeWhile fun x => decide (x.1 < f) := by
    have := List.takeWhile_prefix (p := fun x : Int × Int => decide (x.1 < f)) (l := l)
    exact (List.prefix_iff_eq_take.1 this).symm
  constructor
  · intro x hx
    rw [e1] at hx
    have h2 : ∀ (m : List (Int × Int)), x ∈ m.takeWhile (fun x => decide (x.1 < f)) → decide (x.1 < f) = true := by
      intro m
      induction m with
      | nil => intro h; cases h
      | cons z m ih =>
        intro h
        rw [List.takeWhile_cons] at h
        split at h
        · rename_i hz
          rcases List.mem_cons.1 h with rfl | h'
          · exact hz
          · exact ih h'
        · cases h
    simpa using h2 l hx
  · intro y hy
    have h3 : ∀ (m : List (Int × Int)) (y : Int × Int), (m.drop (m.takeWhile fun x => decide (x.1 < f)).length)[0]? = some y → f ≤ y.1 := by
      intro m
      induction m with
      | nil => intro y h; simp at h
      | cons z m ih =>
        intro y h
        rw [List.takeWhile_cons] at h
        split at h
        · exact ih y (by simpa using h)
        · rename_i hz
          simp at h hz
          rw [← h]; exact hz
    exact h3 l y hy
theorem ins9_facts {l : List (Int × Int)} {r : Int × Int} (hs : Sep l) (hp : Prp l) (ha : ∀ x ∈ l, Apart x r) (hr : r.1 < r.2) :
    Sep (ins9 (l, r)) ∧ Prp (ins9 (l, r)) ∧ ∀ o, cov (ins9 (l, r)) o ↔ (cov l o ∨ (r.1 ≤ o ∧ o < r.2)) := by
  obtain ⟨t1, t2⟩ := tw_spec l r.1
  unfold ins9
  simp only
  obtain ⟨k, hk⟩ : ∃ k, at9 l r.1 = k := ⟨_, rfl⟩
  rw [hk] at t1 t2 ⊢
  have hsp : Sep (l.take k ++ l.drop k) := by rw [List.take_append_drop]; exact hs
  obtain ⟨s1, s2, s3⟩ := List.pairwise_append.1 hsp
  have hbelow : ∀ x ∈ l.take k, x.2 < r.1 := fun x hx => by
    have h1 := t1 x hx
    have h2 := ha x (List.mem_of_mem_take hx)
    unfold Apart at h2
    omega
  have habove : ∀ x ∈ l.drop k, r.2 < x.1 := by
    have key : ∀ (m : List (Int × Int)), Sep m → (∀ x ∈ m, x ∈ l) → (∀ y, m[0]? = some y → r.1 ≤ y.1) → ∀ x ∈ m, r.2 < x.1 := by
      intro m hm hl h0
      cases m with
      | nil => intro x hx; cases hx
      | cons y m =>
        have h1 := h0 y rfl
        have h2 := ha y (hl y (by simp))
        have h3 := hp y (hl y (by simp))
        unfold Apart at h2
        have h4 : r.2 < y.1 := by omega
        intro x hx
        rcases List.mem_cons.1 hx with rfl | hx'
        · exact h4
        · have := (List.pairwise_cons.1 hm).1 x hx'
          omega
    exact key _ s2 (fun x hx => List.mem_of_mem_drop hx) t2
  refine ⟨?_, ?_, fun o => ?_⟩
  · refine List.pairwise_append.2 ⟨List.pairwise_append.2 ⟨s1, List.pairwise_singleton _ _, fun x hx y hy => ?_⟩, s2, fun x hx y hy => ?_⟩
    · rw [List.mem_singleton] at hy; rw [hy]; exact hbelow x hx
    · rcases List.mem_append.1 hx with h | h
      · exact s3 x h y hy
      · rw [List.mem_singleton] at h; rw [h]; exact habove y hy
  · intro x hx
    rcases List.mem_append.1 hx with h | h
    · rcases List.mem_append.1 h with h | h
      · exact hp x (List.mem_of_mem_take h)
      · rw [List.mem_singleton] at h; rw [h]; exact hr
    · exact hp x (List.mem_of_mem_drop h)
  · rw [cov_append, cov_append, cov_one]
    have : cov l o ↔ cov (l.take k) o ∨ cov (l.drop k) o := by rw [← cov_append, List.take_append_drop]
    rw [this]
    constructor
    · rintro ((h | h) | h)
      · exact .inl (.inl h)
      · exact .inr h
      · exact .inl (.inr h)
    · rintro ((h | h) | h)
      · exact .inl (.inl h)
      · exact .inr h
      · exact .inl (.inr h)
theorem ms9_facts (out : List (Int × Int)) (r : Int × Int) (hs : Sep out) (hp : Prp out) : Sep (ms9 out r) ∧ Prp (ms9 out r) ∧ ∀ o, cov (ms9 out r) o ↔ cov out o ∨ cov [r] o := by
  unfold ms9
  by_cases h : r.2 ≤ r.1
  · rw [if_pos h]
    refine ⟨hs, hp, fun o => ⟨.inl, fun h2 => h2.elim id fun h2 => ?_⟩⟩
    rw [cov_one] at h2
    omega
  · rw [if_neg h]
    obtain ⟨f1, f2, f3, f4, f5⟩ := in9_facts out [] r List.Pairwise.nil (fun x hx => by cases hx) hs hp (fun x hx => by cases hx) (fun x hx => by cases hx) (by omega)
    obtain ⟨g1, g2, g3⟩ := ins9_facts f1 f2 f3 f4
    refine ⟨g1, g2, fun o => (g3 o).trans ((f5 o).trans ?_)⟩
    rw [cov_one]
    exact ⟨fun h => h.elim (fun h => absurd h (cov_nil o)) id, .inr⟩
theorem mg9_facts (xs : List (Int × Int)) : Sep (mg9 xs) ∧ Prp (mg9 xs) ∧ ∀ o, cov (mg9 xs) o ↔ cov xs o := by
  have key : ∀ (ys out : List (Int × Int)), Sep out → Prp out → Sep (ys.foldl ms9 out) ∧ Prp (ys.foldl ms9 out) ∧ ∀ o, cov (ys.foldl ms9 out) o ↔ cov out o ∨ cov ys o := by
    intro ys
    induction ys with
    | nil => intro out hs hp; exact ⟨hs, hp, fun o => ⟨.inl, fun h => h.elim id fun h => absurd h (cov_nil o)⟩⟩
    | cons y ys ih =>
      intro out hs hp
      obtain ⟨f1, f2, f3⟩ := ms9_facts out y hs hp
      obtain ⟨g1, g2, g3⟩ := ih (ms9 out y) f1 f2
      refine ⟨g1, g2, fun o => ?_⟩
      rw [List.foldl_cons, g3, f3, or_assoc, ← cov_append]
      rfl
  obtain ⟨h1, h2, h3⟩ := key xs [] List.Pairwise.nil (fun x hx => by cases hx)
  exact ⟨h1, h2, fun o => (h3 o).trans ⟨fun h => h.elim (fun h => absurd h (cov_nil o)) id, .inr⟩⟩
/-- both Merges give the same list -/
theorem mg_same {xs ys : List (Int × Int)} (hp : ys.Perm xs) (ho : ys.Pairwise fun x y => x.1 ≤ y.1) : mg ys = mg9 xs := by
  obtain ⟨a1, a2, a3⟩ := mg_facts ys ho
  obtain ⟨b1, b2, b3⟩ := mg9_facts xs
  exact sep_unique _ _ a1 a2 b1 b2 (fun o => (a3 o).trans ((cov_perm hp o).trans (b3 o).symm))
theorem mg_again {ys zs : List (Int × Int)} (ho : ys.Pairwise fun x y => x.1 ≤ y.1) (hz : zs.Perm (mg ys)) (hzo : zs.Pairwise fun x y => x.1 ≤ y.1) : mg zs = mg ys := by
  obtain ⟨a1, a2, a3⟩ := mg_facts ys ho
  obtain ⟨b1, b2, b3⟩ := mg_facts zs hzo
  exact sep_unique _ _ b1 b2 a1 a2 (fun o => (b3 o).trans (cov_perm hz o))
end Go.Proofs.YtlhnejcjeoecaaaGreatDoor
