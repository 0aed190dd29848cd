/- Chapter 52: the law Order. -/
import Derived.Test.YtjdbhemojopnlaaMgS1
import Derived.ChangeSlices
namespace Go.Proofs.Ytjdbhemojopnlaa
open Go.RowKit Go.Maps
/-- a slice of integers that came in -/
def IntsArg (w : World) (k : IntKind) (v : Value) (xs : List Int) : Prop := ∃ A cap, v = .slice A xs.length cap ∧ (0 < xs.length → ∃ a, A = some a ∧ ∀ i x, xs[i]? = some x → w.cell? (a.add i) = some (.int k x))
section
open Go.ChangeShapes Go.WideShapes Go.Deep
set_option maxRecDepth 100000 in
theorem open_u8s {H : Type} {enc : TypeId × Value → H} {w : World} {base b0 : Nat} {r : Reach} {held : Bool} {v : Value} {d : DataW H} {p : List MemPlace}
    (hv : Value.okWide Try.prog w r b0 54 v) (h : DataW.Trod enc Try.prog w base (fun _ => true) held 54 v d p) :
    ∃ xs : List Int, IntsArg w .u8 v xs ∧ ∀ x ∈ xs, 0 ≤ x ∧ x ≤ 255 := by
  obtain ⟨m0, h⟩ := h
  have hone : ∀ z, v.cells.toList = [z] → v = z := by
    intro z hz
    cases v <;> simp [Value.cells] at hz <;> first | exact hz | (simp only [Value.okWide, Try.underlying54, Cell.okWide] at hv; simp_all [Cell.ok])
  rcases open_ints Try.underlying54 Try.underlying5 (by kernel_rfl) h with ⟨e0, -⟩ | ⟨a, len, cap, zs, e0, -, hle, hlim, hm, -, hx, hwf⟩
  · exact ⟨[], ⟨none, 0, hone _ e0, fun h => absurd h (by simp)⟩, by simp⟩
  · have hmm : zs.length = cap := by simpa using hm
    refine ⟨zs.take len, ⟨some a, cap, ?_, fun _ => ⟨a, rfl, fun i x hi => ?_⟩⟩, fun x hxm => ?_⟩
    · rw [List.length_take, Nat.min_eq_left (by omega)]
      exact hone _ e0
    · obtain ⟨h1, h2⟩ := List.getElem?_eq_some_iff.1 hi
      rw [List.length_take] at h1
      have h3 : zs[i]? = some x := by rw [← hi, List.getElem?_take_of_lt (by omega)]
      rw [hx i (by omega)]
      simp [List.getD, h3]
    · have h1 := wf_u8 (hwf x (List.mem_of_mem_take hxm))
      omega
end
theorem IntsArg.ext {w w' : World} {k : IntKind} {v : Value} {xs : List Int} (h : IntsArg w k v xs) (hx : Ext w w') : IntsArg w' k v xs := by
  obtain ⟨A, cap, rfl, hr⟩ := h
  exact ⟨A, cap, rfl, fun hl => let ⟨a, e, hc⟩ := hr hl; ⟨a, e, fun i x hi => hx.cell (hc i x hi)⟩⟩
theorem putL_mem {L : List Ent} {x : Ent} (h : fitsL L x) (z : Ent) : z ∈ putL L x ↔ z ∈ L ∨ z = x := by
  unfold putL
  split
  · simp
  · rename_i hn
    constructor
    · exact fun h => .inl h
    · rintro (h1 | rfl)
      · exact h1
      · refine Classical.byContradiction fun hz => hn ⟨h.1, fun y hy hk => hz ?_⟩
        rw [← h.2 y hy hk]
        exact hy
/-- entries that do not contradict each other -/
def Coh (es : List Ent) : Prop := (∀ x ∈ es, x.good) ∧ ∀ x ∈ es, ∀ y ∈ es, y.key = x.key → y = x
theorem Coh.fits {es L : List Ent} (h : Coh es) (hs : ∀ z ∈ L, z ∈ es) {x : Ent} (hx : x ∈ es) : fitsL L x := ⟨h.1 x hx, fun y hy hk => h.2 x hx y (hs y hy) hk⟩
theorem Coh.both {es L M : List Ent} (h : Coh es) (hs : ∀ z ∈ L, z ∈ es) (ht : ∀ z ∈ M, z ∈ es) : Fits L M := fun x hx y hy hk => h.2 x (ht x hx) y (hs y hy) hk
theorem srt_same {L M : List Ent} (hL : L.Pairwise fun a b => a.key ≠ b.key) (hM : M.Pairwise fun a b => a.key ≠ b.key) (h : ∀ z, z ∈ L ↔ z ∈ M) : Tied M (srtL L) :=
  tied_of_mem (srt_tied hL).s hM (fun x => (srt_tied hL).mem.trans (h x))
theorem SetAt.lists_like {w : World} {q b : Nat} {L M : List Ent} (h : SetAt w q b M) (hL : L.Pairwise fun a b => a.key ≠ b.key) (hN : M.length ≤ 1000) (hm : ∀ z, z ∈ L ↔ z ∈ M) : ListsTo w (.pointer (some ⟨q, 0, none⟩)) (srtL L) :=
  lists_set (srt_same hL h.nd hm).s (srt_same hL h.nd hm).p hN h
theorem wf_of_new {w' : World} {q b : Nat} {L : List Ent} (h : SetAt w' q b L) : b < w'.heap.size ∧ q < w'.heap.size := by
  have h1 := (Array.getElem?_eq_some_iff.1 h.hb).1
  have h2 := World.block_lt_of_cell? w' _ h.c
  simp only at h2
  exact ⟨h1, h2⟩
/-- three sets next to each other, made after 'w' -/
structure TT (w wx : World) (q b : Nat) (L : List Ent) (qb bb : Nat) (B : List Ent) (qc bc : Nat) (C : List Ent) (es : List Ent) : Prop where
  x : Ext w wx
  a : SetAt wx q b L
  b : SetAt wx qb bb B
  c : SetAt wx qc bc C
  sb : ∀ z ∈ B, z ∈ es
  sc : ∀ z ∈ C, z ∈ es
/-- their blocks are different ones -/
structure TD (w : World) (q b qb bb qc bc : Nat) : Prop where
  lo : w.heap.size ≤ b ∧ w.heap.size ≤ bb ∧ w.heap.size ≤ bc
  ne : b ≠ bb ∧ b ≠ bc ∧ bb ≠ bc
  nq : q ≠ bb ∧ q ≠ bc ∧ qb ≠ b ∧ qb ≠ bc ∧ qc ≠ b ∧ qc ≠ bb
theorem TT.putB {w wx : World} {q b qb bb qc bc : Nat} {L B C es : List Ent} (h : TT w wx q b L qb bb B qc bc C es) (d : TD w q b qb bb qc bc) (hc : Coh es) {y : Ent} (hy : y ∈ es) (ht : y.typed) :
    Calls Try.prog 19 #[.pointer (some ⟨qb, 0, none⟩), y.v] wx fun e w' => ∃ is, e = .returned (.tuple #[.bool is, .nilIface]) ∧ TT w w' q b L qb bb (putL B y) qc bc C es := by
  refine (put_any qb bb B y wx h.b ht).mono ?_
  rintro e w' ⟨is, bad, rfl, hg, hS, hcase⟩
  have hf := hc.fits h.sb hy
  rcases hcase with ⟨-, rfl⟩ | ⟨hn, -⟩
  · refine ⟨is, rfl, h.x.grownB hg d.lo.2.1, h.a.kept hg (by simpa using d.nq.1) (by simpa using d.ne.1), hS, h.c.kept hg (by simpa using d.nq.2.2.2.2.2) (by simpa using d.ne.2.2.symm), fun z hz => ?_, h.sc⟩
    rcases (putL_mem hf z).1 hz with h1 | rfl
    · exact h.sb z h1
    · exact hy
  · exact absurd hf hn
theorem TT.putC {w wx : World} {q b qb bb qc bc : Nat} {L B C es : List Ent} (h : TT w wx q b L qb bb B qc bc C es) (d : TD w q b qb bb qc bc) (hc : Coh es) {y : Ent} (hy : y ∈ es) (ht : y.typed) :
    Calls Try.prog 19 #[.pointer (some ⟨qc, 0, none⟩), y.v] wx fun e w' => ∃ is, e = .returned (.tuple #[.bool is, .nilIface]) ∧ TT w w' q b L qb bb B qc bc (putL C y) es := by
  refine (put_any qc bc C y wx h.c ht).mono ?_
  rintro e w' ⟨is, bad, rfl, hg, hS, hcase⟩
  have hf := hc.fits h.sc hy
  rcases hcase with ⟨-, rfl⟩ | ⟨hn, -⟩
  · refine ⟨is, rfl, h.x.grownB hg d.lo.2.2, h.a.kept hg (by simpa using d.nq.2.1) (by simpa using d.ne.2.1), h.b.kept hg (by simpa using d.nq.2.2.2.1) (by simpa using d.ne.2.2), hS, h.sb, fun z hz => ?_⟩
    rcases (putL_mem hf z).1 hz with h1 | rfl
    · exact h.sc z h1
    · exact hy
  · exact absurd hf hn
theorem TT.ext {w wx w' : World} {q b qb bb qc bc : Nat} {L B C es : List Ent} (h : TT w wx q b L qb bb B qc bc C es) (hx : Ext wx w') : TT w w' q b L qb bb B qc bc C es :=
  ⟨h.x.trans hx, h.a.ext hx, h.b.ext hx, h.c.ext hx, h.sb, h.sc⟩
/-- Join of the second with the third -/
theorem TT.joinB {w wx : World} {q b qb bb qc bc : Nat} {L B C es : List Ent} (h : TT w wx q b L qb bb B qc bc C es) (d : TD w q b qb bb qc bc) (hc : Coh es) :
    Calls Try.prog 21 #[.pointer (some ⟨qb, 0, none⟩), .pointer (some ⟨qc, 0, none⟩)] wx fun e w' => e = .returned .nilIface ∧ ∃ B', TT w w' q b L qb bb B' qc bc C es ∧ ∀ z, z ∈ B' ↔ z ∈ B ∨ z ∈ C := by
  refine (join_any qb bb qc bc B C wx h.b h.c).mono ?_
  rintro e w' (⟨hn, -⟩ | ⟨-, rfl, hg, B', hB, hm⟩)
  · exact absurd (hc.both h.sb h.sc) hn
  · exact ⟨rfl, B', ⟨h.x.grownB hg d.lo.2.1, h.a.kept hg (by simpa using d.nq.1) (by simpa using d.ne.1), hB, h.c.kept hg (by simpa using d.nq.2.2.2.2.2) (by simpa using d.ne.2.2.symm), fun z hz => ((hm z).1 hz).elim (h.sb z) (h.sc z), h.sc⟩, hm⟩
theorem TT.joinC {w wx : World} {q b qb bb qc bc : Nat} {L B C es : List Ent} (h : TT w wx q b L qb bb B qc bc C es) (d : TD w q b qb bb qc bc) (hc : Coh es) :
    Calls Try.prog 21 #[.pointer (some ⟨qc, 0, none⟩), .pointer (some ⟨qb, 0, none⟩)] wx fun e w' => e = .returned .nilIface ∧ ∃ C', TT w w' q b L qb bb B qc bc C' es ∧ ∀ z, z ∈ C' ↔ z ∈ C ∨ z ∈ B := by
  refine (join_any qc bc qb bb C B wx h.c h.b).mono ?_
  rintro e w' (⟨hn, -⟩ | ⟨-, rfl, hg, B', hB, hm⟩)
  · exact absurd (hc.both h.sc h.sb) hn
  · exact ⟨rfl, B', ⟨h.x.grownB hg d.lo.2.2, h.a.kept hg (by simpa using d.nq.2.1) (by simpa using d.ne.2.1), h.b.kept hg (by simpa using d.nq.2.2.2.1) (by simpa using d.ne.2.2), hB, h.sb, fun z hz => ((hm z).1 hz).elim (h.sc z) (h.sb z)⟩, hm⟩
theorem SetAt.lists_of {w : World} {q b : Nat} {L M : List Ent} (h : SetAt w q b M) (hL : L.Pairwise fun a b => a.key ≠ b.key) (hN : L.length ≤ 1000) (hm : ∀ z, z ∈ L ↔ z ∈ M) : ListsTo w (.pointer (some ⟨q, 0, none⟩)) (srtL L) :=
  h.lists_like hL (by rw [← ((List.perm_ext_iff_of_nodup (keys_nodup hL) (keys_nodup h.nd)).2 hm).length_eq]; exact hN) hm
end Go.Proofs.Ytjdbhemojopnlaa
