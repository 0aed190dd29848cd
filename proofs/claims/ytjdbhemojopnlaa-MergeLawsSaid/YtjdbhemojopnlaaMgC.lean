/- Chapter 52: entries; a map's block as the list of its entries in the order of their coming; look-up, store, step. -/
import Derived.Test.YtjdbhemojopnlaaMgB
import Derived.Test.YtjdbhemojopnlaaFacts
import Derived.Maps.Keyed
import Derived.Maps.RangeRun
namespace Go.Proofs.Ytjdbhemojopnlaa
open Go.RowKit Go.Maps
open Go.ChangeMaps (setBlock)
set_option maxRecDepth 100000
structure Ent where
  nd : ByteArray
  bt : Int
  sq : Int
  tn : Int
  ht : Int
  by_ : Int
  at_ : Int
deriving DecidableEq, Inhabited
def Ent.cs (e : Ent) : List Value := [.string e.nd, .int .i64 e.bt, .int .i64 e.sq, .int .i64 e.tn, .int .i64 e.ht, .int .i64 e.by_, .int .i64 e.at_]
def Ent.v (e : Ent) : Value := .agg #[.string e.nd, .int .i64 e.bt, .int .i64 e.sq, .int .i64 e.tn, .int .i64 e.ht, .int .i64 e.by_, .int .i64 e.at_]
def Ent.k (e : Ent) : Value := .agg #[.string e.nd, .int .i64 e.bt, .int .i64 e.sq]
/-- its name, boot and seq may be held -/
def Ent.wf (e : Ent) : Prop := (e.nd.size : Int) ≤ 9223372036854775807 ∧ (-9223372036854775808 ≤ e.bt ∧ e.bt ≤ 9223372036854775807) ∧ (-9223372036854775808 ≤ e.sq ∧ e.sq ≤ 9223372036854775807)
def Ent.key (e : Ent) : ByteArray × Int × Int := (e.nd, e.bt, e.sq)
theorem Ent.k_inj {a b : Ent} (h : a.k = b.k) : a.key = b.key := by
  unfold Ent.k at h
  simp only [Value.agg.injEq, Array.mk.injEq, List.cons.injEq, Value.string.injEq, Value.int.injEq, true_and, and_true] at h
  simp [Ent.key, h]
theorem Ent.v_inj {a b : Ent} (h : a.v = b.v) : a = b := by
  unfold Ent.v at h
  simp only [Value.agg.injEq, Array.mk.injEq, List.cons.injEq, Value.string.injEq, Value.int.injEq, true_and, and_true] at h
  cases a; cases b
  simp_all
def mpE (l : List Ent) : List MapEntry := l.mapIdx fun i e => ⟨e.k, e.v, i⟩
def mpO (l : List Ent) : Obj := .map (mpE l).toArray l.length
theorem mpE_mem {l : List Ent} {x : MapEntry} (h : x ∈ mpE l) : ∃ i e, l[i]? = some e ∧ x = ⟨e.k, e.v, i⟩ := by
  unfold mpE at h
  obtain ⟨i, hi, rfl⟩ := List.mem_mapIdx.1 h
  exact ⟨i, l[i], by simp, rfl⟩
theorem mpE_get {l : List Ent} {i : Nat} {x : MapEntry} (h : (mpE l)[i]? = some x) : ∃ e, l[i]? = some e ∧ x = ⟨e.k, e.v, i⟩ := by
  unfold mpE at h
  rw [List.getElem?_mapIdx] at h
  cases hl : l[i]? with
  | none => rw [hl] at h; cases h
  | some e => rw [hl] at h; cases h; exact ⟨e, rfl, rfl⟩
theorem mpE_push (l : List Ent) (e : Ent) : mpE (l ++ [e]) = mpE l ++ [⟨e.k, e.v, l.length⟩] := by
  unfold mpE
  rw [List.mapIdx_append]
  simp
@[simp] theorem mpE_len (l : List Ent) : (mpE l).length = l.length := by simp [mpE]
/-! the key's type -/
theorem key_row : (66 : TypeId) < Try.prog.types.size := of_decide_eq_true (by kernel_rfl)
theorem key_wide : (match Try.prog.underlying 66 with | some (.array _ _) | some (.struct _) => true | _ => false) = true := by kernel_rfl
theorem key_law : Keyed Try.prog 66 := Keyed.of_law (deep_law_laid laid_out (m := 2) (by omega) key_row (by kernel_rfl) key_wide)
theorem key_lits {P : Program} {t s n : TypeId} (m : Nat) {fs : Array Field} (hu : P.underlying t = some (.struct fs)) (hfs : fs.toList.map (fun f => (f.type, f.offset)) = [(s, 0), (n, 1), (n, 2)]) (hnm : fs.all (·.name != "_") = true)
    (hs : P.underlying s = some .string) (hn : P.underlying n = some (.int .i64)) (c3 : P.cellsOf t = 3) (c1 : P.cellsOf s = 1) (c2 : P.cellsOf n = 1)
    {x : ByteArray} {a b : Int} (hx : x.size ≤ maxLen) (ha : (Lit.int .i64 a).wf = true) (hb : (Lit.int .i64 b).wf = true) : ∃ l, P.keyLits (m + 1 + 1) t [.string x, .int .i64 a, .int .i64 b] = some l := by
  obtain ⟨fl⟩ := fs
  simp only at hfs
  obtain ⟨f1, f2, f3, rfl⟩ : ∃ f1 f2 f3, fl = [f1, f2, f3] := by
    have hl : fl.length = 3 := by simpa using congrArg List.length hfs
    clear hfs hu hnm
    rcases fl with _ | ⟨f1, _ | ⟨f2, _ | ⟨f3, _ | ⟨f4, r⟩⟩⟩⟩ <;> simp at hl
    exact ⟨f1, f2, f3, rfl⟩
  simp only [List.map_cons, List.map_nil, List.cons.injEq, Prod.mk.injEq, and_true] at hfs
  obtain ⟨⟨a1, a2⟩, ⟨b1, b2⟩, ⟨d1, d2⟩⟩ := hfs
  unfold Program.keyLits
  simp only [hu]
  rw [if_pos ⟨by simp [c3], hnm⟩]
  simp [a1, a2, b1, b2, d1, d2, c1, c2, Program.keyLits, hs, hn, hx, ha, hb]
theorem key_at (e : Ent) (h : e.wf) : ∃ l, keyOf Try.prog 66 e.k = some l := by
  obtain ⟨h1, ⟨h2, h3⟩, ⟨h4, h5⟩⟩ := h
  have hk : Try.prog.keyType 66 = true := by kernel_rfl
  have hc : Try.prog.cellsOf 66 = 3 := by kernel_rfl
  have hf : (e.k).formed Try.prog 66 = true := by simp [Value.formed, Try.underlying66, hc, Ent.k]
  have w1 : (Lit.int .i64 e.bt).wf = true := WalkArith.wf_i64 (by omega)
  have w2 : (Lit.int .i64 e.sq).wf = true := WalkArith.wf_i64 (by omega)
  have hs : e.nd.size ≤ maxLen := by unfold maxLen; omega
  have hc9 : Try.prog.cellsOf 9 = 1 := by kernel_rfl
  have hci : Try.prog.cellsOf 3 = 1 := by kernel_rfl
  obtain ⟨m, hm⟩ : ∃ m, Try.prog.types.size + 1 = m + 1 + 1 := ⟨Try.prog.types.size - 1, by
    have : 0 < Try.prog.types.size := of_decide_eq_true (by kernel_rfl)
    omega⟩
  obtain ⟨l, hl⟩ := key_lits (P := Try.prog) m Try.underlying66 (by kernel_rfl) (by kernel_rfl) Try.underlying9 Try.underlying3 hc hc9 hci hs w1 w2
  refine ⟨.string (keyBytes l), ?_⟩
  unfold keyOf
  rw [Try.underlying66]
  simp only [hk, hf, Bool.and_self, if_true]
  rw [hm]
  have e1 : (e.k).cells.toList = [.string e.nd, .int .i64 e.bt, .int .i64 e.sq] := rfl
  rw [e1, hl]
  rfl
end Go.Proofs.Ytjdbhemojopnlaa
