/- Lifting a law's walk to its statement: whatever the arguments are, they read behind the call as before if the world has only grown. -/
import Derived.Test.YtepigkjgjlibcaaGAA
import Derived.ChangeStays
import Derived.ChangeBears
import Derived.ChangeSame
import Derived.ChangeOld
import Derived.OpenShut
import Derived.ProofKit
namespace Go.Proofs.Ytepigkjgjlibcaa
open Go.RowKit Go.ChangeShapes Go.WideShapes

def sizedB (P : Program) : Bool := (List.range P.types.size).all fun t => match P.underlying t with
  | some (.slice e) => decide (0 < P.cellsOf e)
  | _ => true
theorem sized_of {P : Program} (h : sizedB P = true) {t e : TypeId} (ht : t < P.types.size) (hs : P.underlying t = some (.slice e)) : 0 < P.cellsOf e := by
  have := List.all_eq_true.1 h t (List.mem_range.2 ht)
  rw [hs] at this
  simpa using this

theorem trodAll_stays {H : Type} {enc : TypeId × Value → H} {P : Program} {W W' : World} (K : Kids P (· < P.types.size)) (hz : sizedB P = true) {sp : Nat → Bool} :
    ∀ {ts : List TypeId} {vs : List Value} {ds : List (DataW H)} {ps : List MemPlace}, (∀ t ∈ ts, t < P.types.size) → DataW.TrodAll enc P W 0 (fun _ => true) true ts vs ds ps →
      (∀ p ∈ ps, W.sameAt W' p) → (∀ p ∈ ps, sp p.block = true) → DataW.TrodAll enc P W' 0 sp true ts vs ds ps
  | [], vs, ds, ps, _, h, _, _ => by
    obtain ⟨rfl, rfl, rfl⟩ := trodAll_nil h
    exact trodAll_mk0
  | t :: ts, vs, ds, ps, ht, h, hs, hp => by
    obtain ⟨v, vs', d, ds', p, q, rfl, rfl, rfl, ⟨n, h1⟩, h2⟩ := trodAll_cons h
    refine trodAll_cons_mk ⟨n, DataW.trod_stays K (fun a b => sized_of hz a b) (fun h => by cases h) (ht t (by simp)) h1 (fun x hx => hs x (List.mem_append_left _ hx)) (fun x hx => hp x (List.mem_append_left _ hx))⟩ ?_
    exact trodAll_stays K hz (fun x hx => ht x (List.mem_cons_of_mem _ hx)) h2 (fun x hx => hs x (List.mem_append_right _ hx)) (fun x hx => hp x (List.mem_append_right _ hx))

theorem law_post {H : Type} {enc : TypeId × Value → H} {P : Program} {f : Func} {s : ChangeSpec} {W W' : World} {args : Array Value} {ds gs : List (DataW H)} {before : List MemPlace} {tb : TypeId}
    (hl : laidOutB P = true) (hm : mapsRowed P = true) (hz : sizedB P = true) (hty : (f.params.toList.all fun t => decide (t < P.types.size)) = true) (hrt : f.resultTypes = #[tb]) (hb : P.underlying tb = some .bool) (hv : s.vars = [])
    (hr : (s.fn H (ds ++ gs)).results = [.lit (.bool true)]) (ha : (s.fn H (ds ++ gs)).args = ds) (hvs : (s.fn H (ds ++ gs)).vars = [])
    (hW : DataW.Whole enc P f.params.toList s.vars false W args.toList ds gs before) (hx : Ext W W') : s.post enc P f false true false false W args (.bool true) W' := by
  have hlt := hW.lt
  have hW' := hW
  obtain ⟨p, q, hA, hV, hps, hfz, hnd⟩ := hW
  have hg : Below W.heap.size W W' := hx
  have hmem : ∀ x ∈ p, x ∈ before := fun x h => by rw [hps]; exact List.mem_append_left _ h
  refine ⟨ds, gs, before, [], p, [], hW', ?_, ?_, ?_, hg.frame _, fun h => by cases h⟩
  · rw [hr, hrt]
    exact trodAll_cons_mk (shut_bool hb true) trodAll_mk0
  · rw [ha]
    refine trodAll_stays (kids_rows hl hm) hz (fun t ht => ?_) hA (fun x h => hg.same (hlt x (hmem x h))) (fun x h => ?_)
    · simpa using List.all_eq_true.1 hty t ht
    · simpa using hlt x (hmem x h)
  · rw [hvs, hv]
    rfl

theorem okWide_array {P : Program} {w : World} {r : Reach} {base : Nat} {t e : TypeId} {n : Nat} {v : Value} (ht : P.underlying t = some (.array n e)) (h : Value.okWide P w r base t v) : ∃ cs, v = .agg cs ∧ cs.size = P.cellsOf t := by
  simp only [Value.okWide, ht] at h
  obtain ⟨cs, h1, h2, _⟩ := h
  exact ⟨cs, h1, h2⟩
/-- an array of two integers that comes in -/
theorem open_two {H : Type} {enc : TypeId × Value → H} {P : Program} {w : World} {base b0 : Nat} {r : Reach} {sp : Nat → Bool} {held : Bool} {t e : TypeId} {k : IntKind} {v : Value} {d : DataW H} {p : List MemPlace}
    (ht : P.underlying t = some (.array 2 e)) (he : P.underlying e = some (.int k)) (hct : P.cellsOf t = 2) (hce : P.cellsOf e = 1) (hv : Value.okWide P w r b0 t v) (h : DataW.Trod enc P w base sp held t v d p) :
    ∃ x y : Int, v = .agg #[.int k x, .int k y] ∧ (Lit.int k x).wf = true ∧ (Lit.int k y).wf = true := by
  obtain ⟨cs, rfl, hs⟩ := okWide_array ht hv
  obtain ⟨n, hn⟩ := h
  obtain ⟨xs, m, _, _, _, hl, hall⟩ := DataW.trod_array ht hn
  rw [hct] at hs
  obtain ⟨l⟩ := cs
  match l, hs with
  | [a, b], _ =>
    have h0 := hall 0 (by omega)
    have h1 := hall 1 (by omega)
    have hx0 : xs[0]? = some (xs[0]'(by omega)) := List.getElem?_eq_getElem (by omega)
    have hx1 : xs[1]? = some (xs[1]'(by omega)) := List.getElem?_eq_getElem (by omega)
    rw [hx0] at h0
    rw [hx1] at h1
    obtain ⟨x, e0, -, w0⟩ := DataW.trod_int he h0
    obtain ⟨y, e1, -, w1⟩ := DataW.trod_int he h1
    simp [Value.cells, hce] at e0 e1
    subst e0
    subst e1
    exact ⟨x, y, rfl, w0, w1⟩
theorem wf_bd {k : IntKind} {n : Int} (h : (Lit.int k n).wf = true) : k.min ≤ n ∧ n ≤ k.max := by
  simpa only [Lit.wf, Bool.and_eq_true, decide_eq_true_eq] using h
theorem wf_u32 {n : Int} (h : (Lit.int .u32 n).wf = true) : 0 ≤ n ∧ n ≤ 4294967295 := wf_bd h
theorem wf_u16 {n : Int} (h : (Lit.int .u16 n).wf = true) : 0 ≤ n ∧ n ≤ 65535 := wf_bd h
theorem wf_u8 {n : Int} (h : (Lit.int .u8 n).wf = true) : 0 ≤ n ∧ n ≤ 255 := wf_bd h
theorem wf_i64 {n : Int} (h : (Lit.int .i64 n).wf = true) : -9223372036854775808 ≤ n ∧ n ≤ 9223372036854775807 := wf_bd h
end Go.Proofs.Ytepigkjgjlibcaa
