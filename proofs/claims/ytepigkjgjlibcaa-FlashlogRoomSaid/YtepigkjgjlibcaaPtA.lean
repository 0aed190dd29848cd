/- Chapter 23, plain: what was written is read again: numbers, records, pages, entries; a page that was cut off is none. -/
import Derived.Test.YtepigkjgjlibcaaGAQ
namespace Go.Proofs.Ytepigkjgjlibcaa
open Go.RowKit Go.Deep Go.Proofs.Ytepigkjgjlibcaa.FL
theorem take_num (B : Nat) : ∀ (k n : Nat) (r : Bs) (i acc : Nat), n < 128 ^ (k + 1) → i + k < B → (n ≠ 0 ∨ i = 0) →
    takeF B (numF n ++ r) i acc = (acc + n * 2 ^ (7 * i), ((i + (numF n).length : Nat) : Int)) := by
  intro k
  induction k with
  | zero =>
    intro n r i acc hn hi h0
    have hn : n < 128 := by simpa using hn
    rw [numF_small hn]
    have e : (UInt8.ofNat n).toNat = n := by simp; omega
    rw [List.cons_append, List.nil_append, takeF_cons, e, if_pos hn, if_neg (by omega), Nat.mod_eq_of_lt hn]
    simp
  | succ k ih =>
    intro n r i acc hn hi h0
    by_cases hs : n < 128
    · rw [numF_small hs]
      have e : (UInt8.ofNat n).toNat = n := by simp; omega
      rw [List.cons_append, List.nil_append, takeF_cons, e, if_pos hs, if_neg (by omega), Nat.mod_eq_of_lt hs]
      simp
    · rw [numF_big hs]
      have e : (UInt8.ofNat (n % 128 + 128)).toNat = n % 128 + 128 := by simp; omega
      rw [List.cons_append, takeF_cons, e, if_neg (by omega), if_neg (by omega), ih (n / 128) r (i + 1) _ (by rw [Nat.pow_succ] at hn; exact Nat.div_lt_of_lt_mul (by rw [Nat.mul_comm]; exact hn)) (by omega) (by left; omega)]
      have e1 : (n % 128 + 128) % 128 = n % 128 := by omega
      have e2 : 2 ^ (7 * (i + 1)) = 128 * 2 ^ (7 * i) := by rw [show 7 * (i + 1) = 7 + 7 * i by omega, Nat.pow_add]
      rw [e1, e2]
      have e3 : n * 2 ^ (7 * i) = n % 128 * 2 ^ (7 * i) + n / 128 * (128 * 2 ^ (7 * i)) := by
        conv => lhs; rw [show n = n % 128 + 128 * (n / 128) by omega]
        rw [Nat.add_mul, Nat.mul_comm 128 (n / 128), Nat.mul_assoc]
      rw [e3]
      simp only [List.length_cons, Prod.mk.injEq]
      constructor
      · omega
      · congr 1; omega
theorem uint_num {n : Nat} (hn : n ≤ 4611686018427387904) (r : Bs) : uintF (some (numF n ++ r)) = (n, some r) := by
  have h := take_num 9 8 n r 0 0 (Nat.lt_of_le_of_lt hn (by decide)) (by decide) (.inr rfl)
  have hp := numF_pos n
  unfold uintF
  simp only [h]
  rw [if_neg (by omega)]
  simp
theorem text_num {k v : Bs} (hk : k.length ≤ 4611686018427387904) : textF (some (numF k.length ++ (k ++ v))) = (k, some v) := by
  rw [textF_eq, uint_num hk]
  simp only
  rw [if_neg (by rw [List.length_append]; omega)]
  simp
theorem be4_len (s : Nat) : (be4 s).length = 4 := rfl
theorem dec_enc {kind number : Nat} {p z : Bs} (hk : 1 ≤ kind ∧ kind ≤ 127) (hn : number ≤ 1099511627776) (hp : p.length ≤ 131072) : decF (encF kind number p ++ z) = .inl ⟨kind, number, p, (encF kind number p).length⟩ := by
  have ek : (UInt8.ofNat kind).toNat = kind := by simp; omega
  have ht := take_num 6 5 number (numF p.length ++ (p ++ (be4 (sumF (UInt8.ofNat kind :: (numF number ++ (numF p.length ++ p)))) ++ z))) 0 0 (Nat.lt_of_le_of_lt hn (by decide)) (by decide) (.inr rfl)
  have hu := take_num 3 2 p.length (p ++ (be4 (sumF (UInt8.ofNat kind :: (numF number ++ (numF p.length ++ p)))) ++ z)) 0 0 (Nat.lt_of_le_of_lt hp (by decide)) (by decide) (.inr rfl)
  simp only [Nat.mul_zero, Nat.pow_zero, Nat.mul_one, Nat.zero_add] at ht hu
  have h1 := numF_pos number
  have h2 := numF_pos p.length
  have eE : encF kind number p ++ z = UInt8.ofNat kind :: (numF number ++ (numF p.length ++ (p ++ (be4 (sumF (UInt8.ofNat kind :: (numF number ++ (numF p.length ++ p)))) ++ z)))) := by
    unfold encF
    simp only [List.append_assoc, List.cons_append]
  have eL : (encF kind number p).length = 1 + (numF number).length + (numF p.length).length + p.length + 4 := by rw [encF_len]; omega
  have eB : encF kind number p ++ z = (UInt8.ofNat kind :: (numF number ++ (numF p.length ++ p))) ++ (be4 (sumF (UInt8.ofNat kind :: (numF number ++ (numF p.length ++ p)))) ++ z) := by rw [eE]; simp only [List.append_assoc, List.cons_append]
  have eO : (UInt8.ofNat kind :: (numF number ++ (numF p.length ++ p))).length = 1 + (numF number).length + (numF p.length).length + p.length := by simp only [List.length_cons, List.length_append]; omega
  rw [eL]
  generalize hS : be4 (sumF (UInt8.ofNat kind :: (numF number ++ (numF p.length ++ p)))) = S at *
  have hSl : S.length = 4 := by rw [← hS]; rfl
  rw [eE]
  unfold decF
  simp only [ek]
  rw [if_neg (by omega), ht]
  simp only
  rw [if_neg (by omega), if_neg (by omega)]
  have ed : (UInt8.ofNat kind :: (numF number ++ (numF p.length ++ (p ++ (S ++ z))))).drop (1 + ((numF number).length : Int).toNat) = numF p.length ++ (p ++ (S ++ z)) := by
    rw [Int.toNat_natCast, Nat.add_comm, List.drop_succ_cons, List.drop_left]
  rw [ed, hu]
  simp only
  rw [if_neg (by omega), if_neg (by omega)]
  rw [← eE, eB, Int.toNat_natCast, Int.toNat_natCast]
  rw [if_neg (by rw [List.length_append, eO, List.length_append, hSl]; omega)]
  have eO' : 1 + (numF number).length + (numF p.length).length + p.length = (UInt8.ofNat kind :: (numF number ++ (numF p.length ++ p))).length := eO.symm
  rw [eO', List.drop_left, List.take_left, List.take_left' hSl, hS, if_pos rfl]
  congr 2
  rw [show 1 + (numF number).length + (numF p.length).length = ((UInt8.ofNat kind :: numF number) ++ numF p.length).length by simp only [List.length_cons, List.length_append]; omega,
    show (UInt8.ofNat kind :: (numF number ++ (numF p.length ++ p))) = ((UInt8.ofNat kind :: numF number) ++ numF p.length) ++ p by simp only [List.append_assoc, List.cons_append], List.drop_left]
/-- what may be written -/
structure EW (e : Ent) : Prop where
  arg : EArg e
  del : e.kind = 2 → e.value = []
theorem read_page {e : Ent} {seg i n : Nat} {x : Bs} (he : EArg e) (hs : seg ≤ far) (hi : i < n) (hn : n < 128) (hx : x.length ≤ 480) : readF (pageF e seg i n x) = some ⟨e.kind, e.number, seg, i, n, x⟩ := by
  have h1 := page_enc (kind := e.kind) (number := e.number) (seg := seg) (i := i) (n := n) (x := x) he.num hs (by omega) hn hx
  have hk := he.kind
  have hd := dec_enc (kind := e.kind) (number := e.number) (p := numF seg ++ (numF i ++ (numF n ++ x))) (z := List.replicate (512 - (encF e.kind e.number (numF seg ++ (numF i ++ (numF n ++ x)))).length) 0) (by omega) he.num (by omega)
  have hpl : (pageF e seg i n x).length = 512 := pageF_len (by omega)
  have hf : seg ≤ 1099511627776 := hs
  rw [show pageF e seg i n x = encF e.kind e.number (numF seg ++ (numF i ++ (numF n ++ x))) ++ List.replicate (512 - (encF e.kind e.number (numF seg ++ (numF i ++ (numF n ++ x)))).length) 0 from rfl] at hpl ⊢
  have u1 := uint_num (n := seg) (by omega) (numF i ++ (numF n ++ x))
  have u2 := uint_num (n := i) (by omega) (numF n ++ x)
  have u3 := uint_num (n := n) (by omega) x
  rw [readF_cur hd (by simp only; omega) hpl (by
    simp only
    rw [List.drop_left, List.any_eq_false]
    intro y hy
    rw [List.eq_of_mem_replicate hy]
    simp) rfl rfl rfl]
  simp only [u1, u2, u3]
  rw [if_neg (by omega)]
theorem readF_last {l : Bs} (hl : l.length = 512) (h : l[511]? = some 255) : readF l = none := by
  cases hd : decF l with
  | inr c => exact readF_inr hd
  | inl r =>
    by_cases hb : 512 ≤ r.size ∨ (r.kind ≠ 1 ∧ r.kind ≠ 2)
    · exact readF_head hd hb hl
    · refine readF_rest hd hb hl ?_
      rw [List.any_eq_true]
      refine ⟨255, ?_, by decide⟩
      rw [List.mem_iff_getElem?]
      exact ⟨511 - r.size, by rw [List.getElem?_drop, show r.size + (511 - r.size) = 511 by omega]; exact h⟩
/-- a page that was cut off -/
theorem read_torn {l : Bs} {m : Nat} (hm : m < 512) : readF (filled (l.take m)) = none := by
  have h : (l.take m).length ≤ m := by rw [List.length_take]; omega
  refine readF_last (by unfold filled; rw [List.length_append, List.length_replicate]; omega) ?_
  unfold filled
  rw [List.getElem?_append_right (by omega), List.getElem?_replicate, if_pos (by omega)]
theorem filled_full {l : Bs} (h : l.length = 512) : filled l = l := by unfold filled; rw [h]; simp
/-! the parts of an entry -/
theorem chop_flat : ∀ (f : Nat) (b : Bs), b.length ≤ f → (chop 480 f b).flatten = b := by
  intro f
  induction f with
  | zero => intro b hb; obtain rfl : b = [] := List.eq_nil_of_length_eq_zero (by omega); rfl
  | succ f ih =>
    intro b hb
    unfold chop
    split
    · rename_i h; rw [h]; rfl
    · rename_i h
      have := List.length_pos_iff.2 h
      rw [List.flatten_cons, ih _ (by rw [List.length_drop]; omega), List.take_append_drop]
theorem chop_whole : ∀ (f : Nat) (b : Bs), b.length ≤ f → ∀ i x, (chop 480 f b)[i]? = some x → i + 1 < (chop 480 f b).length → x.length = 480 := by
  intro f
  induction f with
  | zero => intro b _ i x hx; unfold chop at hx; simp at hx
  | succ f ih =>
    intro b hb i x hx hi
    unfold chop at hx hi
    split at hx
    · simp at hx
    · rename_i h
      have := List.length_pos_iff.2 h
      rw [if_neg h, List.length_cons] at hi
      have hl := chop_len f (b.drop 480) (by rw [List.length_drop]; omega)
      rw [hl, List.length_drop] at hi
      cases i with
      | zero => cases hx; rw [List.length_take]; omega
      | succ i => exact ih (b.drop 480) (by rw [List.length_drop]; omega) i x hx (by rw [hl, List.length_drop]; omega)
theorem parts_flat (key value : Bs) : (partsF key value).flatten = numF key.length ++ (key ++ value) := chop_flat _ _ (Nat.le_refl _)
theorem parts_whole {key value : Bs} {i : Nat} {x : Bs} (h : (partsF key value)[i]? = some x) (hi : i + 1 < (partsF key value).length) : x.length = 480 := chop_whole _ _ (Nat.le_refl _) i x h hi
/-- the entry as it is read: with its segment and its pages -/
def stamp (s : Nat) (e : Ent) : Ent := ⟨e.kind, e.number, s, (partsF e.key e.value).length, e.key, e.value⟩
def pgsOf (s : Nat) (e : Ent) : List Pg := (partsF e.key e.value).zipIdx.map fun p => ⟨e.kind, e.number, s, p.2, (partsF e.key e.value).length, p.1⟩
theorem pgsOf_len (s : Nat) (e : Ent) : (pgsOf s e).length = (partsF e.key e.value).length := by unfold pgsOf; rw [List.length_map, List.length_zipIdx]
theorem pgsOf_get {s : Nat} {e : Ent} {i : Nat} {p : Pg} (h : (pgsOf s e)[i]? = some p) : ∃ x, (partsF e.key e.value)[i]? = some x ∧ p = ⟨e.kind, e.number, s, i, (partsF e.key e.value).length, x⟩ := by
  unfold pgsOf at h
  rw [List.getElem?_map, List.getElem?_zipIdx] at h
  cases hx : (partsF e.key e.value)[i]? with
  | none => rw [hx] at h; simp at h
  | some x => rw [hx] at h; simp at h; exact ⟨x, rfl, h.symm⟩
theorem pgsOf_at {s : Nat} {e : Ent} {i : Nat} {x : Bs} (h : (partsF e.key e.value)[i]? = some x) : (pgsOf s e)[i]? = some ⟨e.kind, e.number, s, i, (partsF e.key e.value).length, x⟩ := by
  unfold pgsOf
  rw [List.getElem?_map, List.getElem?_zipIdx, h]
  simp
theorem pgsOf_data (s : Nat) (e : Ent) : (pgsOf s e).flatMap (·.data) = numF e.key.length ++ (e.key ++ e.value) := by
  rw [← parts_flat, List.flatten_eq_flatMap]
  unfold pgsOf
  rw [List.flatMap_map]
  have : ∀ (l : List Bs) k, (l.zipIdx k).flatMap (fun p => p.1) = l.flatMap id := by
    intro l
    induction l with
    | nil => intro k; rfl
    | cons x r ih => intro k; rw [List.zipIdx_cons, List.flatMap_cons, List.flatMap_cons, ih]; rfl
  exact this _ 0
theorem join_pgs {s : Nat} {e : Ent} (he : EW e) : joinF (pgsOf s e) = some (stamp s e) := by
  have hp := he.arg.parts
  obtain ⟨f, hf⟩ : ∃ f, (pgsOf s e)[0]? = some f := ⟨_, List.getElem?_eq_getElem (by rw [pgsOf_len]; omega)⟩
  obtain ⟨x0, hx0, ef⟩ := pgsOf_get hf
  rw [joinF_go hf (fun j q hq => by
    obtain ⟨x, hx, eq⟩ := pgsOf_get hq
    have h1 := partsF_le x (List.mem_of_getElem? hx)
    have h2 := fun h => parts_whole (i := j) hx h
    subst ef eq
    rw [pgsOf_len]
    refine fits_all ⟨rfl, rfl, rfl, rfl, rfl⟩ ?_
    simp only
    rintro (⟨h3, h4⟩ | h3 | h3)
    · exact h4 (h2 h3)
    · omega
    · omega)]
  rw [pgsOf_data, text_num (by have := he.arg.key; omega)]
  simp only
  have hk := he.arg.key
  rw [if_neg (by
    rintro (h | h | ⟨h1, h2⟩)
    · omega
    · omega
    · rw [ef] at h1; exact h2 (he.del h1)), ef, pgsOf_len]
  rfl
end Go.Proofs.Ytepigkjgjlibcaa
