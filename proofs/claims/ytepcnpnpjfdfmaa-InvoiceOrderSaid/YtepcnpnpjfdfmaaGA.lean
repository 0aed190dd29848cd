/- Chapter 52: letters and names. Chapter 52: Check and Code of an entry. Chapter 52: entries; a map's block as the list of its entries in the order of their coming; look-up, store, step. Chapter 52: the map's look-up, store and step on 'mpO l'. Chapter 52: maps.Values and its iterator; slices.Collect. -/
import Derived.Test.YtepcnpnpjfdfmaaProg
import Derived.Test.YtepcnpnpjfdfmaaKit
import Derived.Test.YtepcnpnpjfdfmaaBase
import Derived.Handy
import Derived.Deep.CutBlock
import Derived.Deep.DeepCutAuto
import Derived.Test.YtepcnpnpjfdfmaaRow
import Derived.Test.YtepcnpnpjfdfmaaFacts
import Derived.Maps.Keyed
import Derived.Maps.RangeRun
import Derived.RangeFuncOwn
import Derived.Maps.RangeWalk
import Derived.OwnWalkIn
import Derived.RangeFuncBox
import Derived.RangeFuncNested
import Derived.RangeFuncBound
import Derived.RangeFuncCalls
import Derived.RangeFuncLeaves
import Derived.Shelf.Abstract
import Derived.Shelf.RegionOpen
import Derived.TacticsInMore
import Derived.LoopNIn
import Derived.LoopIn
import Derived.Maps.AppendAt
import Derived.Sort.MapsRangeIn
namespace Go.Proofs.Ytepcnpnpjfdfmaa
open Go.RowKit
def letB (b : Nat) : Bool := decide (97 ≤ b ∧ b ≤ 122 ∨ 65 ≤ b ∧ b ≤ 90 ∨ 48 ≤ b ∧ b ≤ 57 ∨ b = 45)
def nmB (s : ByteArray) : Bool := decide (∀ i, (h : i < s.size) → letB (s[i]'h).toNat = true) && (decide (1 ≤ s.size) && decide (s.size ≤ 32))
theorem nmB_no {s : ByteArray} (k : Nat) (h : k < s.size) (hb : letB (s[k]'h).toNat = false) : nmB s = false := by
  unfold nmB
  rw [decide_eq_false (fun hh => by have := hh k h; rw [hb] at this; cases this)]
  rfl
theorem nmB_yes {s : ByteArray} (hall : ∀ i, (h : i < s.size) → letB (s[i]'h).toNat = true) : nmB s = (decide (1 ≤ s.size) && decide (s.size ≤ 32)) := by
  unfold nmB
  rw [decide_eq_true hall]
  rfl
set_option maxRecDepth 100000 in
set_option maxHeartbeats 4000000 in
theorem named_any (s : ByteArray) (hs : (s.size : Int) ≤ 9223372036854775807) (w : World) : Calls Try.prog 60 #[.string s] w fun e w' => e = .returned (.bool (nmB s)) ∧ w = w' := by
  go_enter Try.func60, Try.ntmps60
  go_wp2_with fail
  go_loopw [7] (fun i wr => ∃ k : Nat, k ≤ s.size ∧ i = .int .i64 k ∧ wr = w ∧ ∀ i, (h : i < s.size) → i < k → letB (s[i]'h).toNat = true) (fun i _ => s.size - (intOf i).toNat)
  case atStart => exact ⟨0, by omega, rfl, rfl, fun i _ h => by omega⟩
  case round =>
    obtain ⟨k, hk, rfl, rfl, hall⟩ := hrel
    by_cases hlt : k < s.size
    · have hki : (k : Int) < (s.size : Int) := by omega
      have HALL := Lib.hid hall
      have HNO := Lib.hid (fun hb => nmB_no k hlt hb)
      have HN := Lib.hid (fun (hb : letB (s[k]'hlt).toNat = true) => show ∀ i, (h : i < s.size) → i < k + 1 → letB (s[i]'h).toNat = true from fun i h hi => by
        by_cases e : i = k
        · subst e; exact hb
        · exact HALL.out i h (by omega))
      clear hall
      have h45 : ((((s[k]'hlt).toNat : Nat) : Int) == 45) = true ∨ ((((s[k]'hlt).toNat : Nat) : Int) == 45) = false := by cases ((((s[k]'hlt).toNat : Nat) : Int) == 45) <;> simp
      rcases h45 with h45 | h45
      all_goals have H45 := Lib.hid h45
      all_goals go_wp2_with fail
      all_goals have h46 := H45.out
      all_goals simp only [beq_iff_eq, beq_eq_false_iff_ne] at h46
      all_goals first
        | (refine ⟨⟨k + 1, hlt, by go_num, by first | rfl | trivial, HN.out ?_⟩, by simp [intOf]; omega⟩; unfold letB; rw [decide_eq_true_eq]; omega)
        | (exfalso; rename_i h9; simp only [Bool.not_eq_eq_eq_not, Bool.not_false, decide_eq_true_eq] at h9; omega)
        | (go_ret; refine ⟨ret_bool ?_, rfl⟩; rw [HNO.out ?_]; unfold letB; rw [decide_eq_false_iff_not]; omega)
    · obtain rfl : k = s.size := by omega
      have HY := Lib.hid (nmB_yes fun i h => hall i h h)
      clear hall
      go_wp2_with fail
      all_goals go_ret
      all_goals exact ⟨ret_bool (by rw [HY.out, Bool.eq_iff_iff]; simp; omega), rfl⟩
end Go.Proofs.Ytepcnpnpjfdfmaa
namespace Go.Proofs.Ytepcnpnpjfdfmaa
open Go.RowKit
abbrev entV (nd : ByteArray) (bt sq tn ht by_ at_ : Int) : Value := .agg #[.string nd, .int .i64 bt, .int .i64 sq, .int .i64 tn, .int .i64 ht, .int .i64 by_, .int .i64 at_]
def okN (z : Int) : Prop := 0 ≤ z ∧ z ≤ 1099511627776
def okEn (bt sq tn ht by_ at_ : Int) : Prop := okN bt ∧ (1 ≤ sq ∧ sq ≤ 1099511627776) ∧ (0 ≤ tn ∧ tn ≤ 15) ∧ okN ht ∧ okN by_ ∧ okN at_
set_option maxRecDepth 100000 in
theorem check_name (nd : ByteArray) (bt sq tn ht by_ at_ : Int) (hs : (nd.size : Int) ≤ 9223372036854775807) (hn : nmB nd = false) (w : World) :
    Calls Try.prog 52 #[entV nd bt sq tn ht by_ at_] w fun e w' => e = .returned (errV 8) ∧ Ext w w' := by
  have HN := Lib.hid (fun W => named_any nd hs W)
  rw [hn] at HN
  clear hn
  go_enter Try.func52, Try.ntmps52
  go_wp2_with (go_at_call 60; refine (HN.out _).mono ?_; rintro e w' ⟨rfl, rfl⟩)
  go_ret
  exact ⟨rfl, (Ext.refl w).alloc _⟩
set_option maxRecDepth 100000 in
set_option maxHeartbeats 4000000 in
theorem check_ok (nd : ByteArray) (bt sq tn ht by_ at_ : Int) (hs : (nd.size : Int) ≤ 9223372036854775807) (hn : nmB nd = true) (h : okEn bt sq tn ht by_ at_) (w : World) :
    Calls Try.prog 52 #[entV nd bt sq tn ht by_ at_] w fun e w' => e = .returned .nilIface ∧ Ext w w' := by
  have HN := Lib.hid (fun W => named_any nd hs W)
  rw [hn] at HN
  obtain ⟨⟨a1, a2⟩, ⟨b1, b2⟩, ⟨c1, c2⟩, ⟨d1, d2⟩, ⟨e1, e2⟩, ⟨f1, f2⟩⟩ := h
  have n1 : ¬ bt < 0 := by omega
  have n2 : ¬ 1099511627776 < bt := by omega
  have n3 : ¬ sq - 1 < 0 := by omega
  have n4 : ¬ 1099511627776 < sq - 1 := by omega
  have n5 : ¬ tn < 0 := by omega
  have n6 : ¬ 1099511627776 < tn := by omega
  have n7 : ¬ ht < 0 := by omega
  have n8 : ¬ 1099511627776 < ht := by omega
  have n9 : ¬ by_ < 0 := by omega
  have n10 : ¬ 1099511627776 < by_ := by omega
  have n11 : ¬ at_ < 0 := by omega
  have n12 : ¬ 1099511627776 < at_ := by omega
  have n13 : ¬ 1099511627776 < sq := by omega
  have n14 : ¬ 16 ≤ tn := by omega
  clear hn a1 a2 c1 c2 d1 d2 e1 e2 f1 f2
  go_enter Try.func52, Try.ntmps52
  go_wp2_with (go_at_call 60; refine (HN.out _).mono ?_; rintro e w' ⟨rfl, rfl⟩)
  refine wp_loop_rounds 8 ?_
  repeat any_goals (rw [rounds_succ]; go_wp2_with fail)
  all_goals go_ret
  all_goals exact ⟨rfl, ((Ext.refl w).alloc _).alloc _⟩
end Go.Proofs.Ytepcnpnpjfdfmaa
namespace Go.Proofs.Ytepcnpnpjfdfmaa
open Go.RowKit Go.Maps
open Go.ChangeMaps (setBlock)
set_option maxRecDepth 100000
structure Ent where
  nd : ByteArray
  bt : Int
  sq : Int
  tn : Int
  ht : Int
  by_ : Int
  at_ : Int
deriving DecidableEq, Inhabited
def Ent.cs (e : Ent) : List Value := [.string e.nd, .int .i64 e.bt, .int .i64 e.sq, .int .i64 e.tn, .int .i64 e.ht, .int .i64 e.by_, .int .i64 e.at_]
def Ent.v (e : Ent) : Value := .agg #[.string e.nd, .int .i64 e.bt, .int .i64 e.sq, .int .i64 e.tn, .int .i64 e.ht, .int .i64 e.by_, .int .i64 e.at_]
def Ent.k (e : Ent) : Value := .agg #[.string e.nd, .int .i64 e.bt, .int .i64 e.sq]
/-- its name, boot and seq may be held -/
def Ent.wf (e : Ent) : Prop := (e.nd.size : Int) ≤ 9223372036854775807 ∧ (-9223372036854775808 ≤ e.bt ∧ e.bt ≤ 9223372036854775807) ∧ (-9223372036854775808 ≤ e.sq ∧ e.sq ≤ 9223372036854775807)
def Ent.key (e : Ent) : ByteArray × Int × Int := (e.nd, e.bt, e.sq)
theorem Ent.k_inj {a b : Ent} (h : a.k = b.k) : a.key = b.key := by
  unfold Ent.k at h
  simp only [Value.agg.injEq, Array.mk.injEq, List.cons.injEq, Value.string.injEq, Value.int.injEq, true_and, and_true] at h
  simp [Ent.key, h]
theorem Ent.v_inj {a b : Ent} (h : a.v = b.v) : a = b := by
  unfold Ent.v at h
  simp only [Value.agg.injEq, Array.mk.injEq, List.cons.injEq, Value.string.injEq, Value.int.injEq, true_and, and_true] at h
  cases a; cases b
  simp_all
def mpE (l : List Ent) : List MapEntry := l.mapIdx fun i e => ⟨e.k, e.v, i⟩
def mpO (l : List Ent) : Obj := .map (mpE l).toArray l.length
theorem mpE_mem {l : List Ent} {x : MapEntry} (h : x ∈ mpE l) : ∃ i e, l[i]? = some e ∧ x = ⟨e.k, e.v, i⟩ := by
  unfold mpE at h
  obtain ⟨i, hi, rfl⟩ := List.mem_mapIdx.1 h
  exact ⟨i, l[i], by simp, rfl⟩
theorem mpE_get {l : List Ent} {i : Nat} {x : MapEntry} (h : (mpE l)[i]? = some x) : ∃ e, l[i]? = some e ∧ x = ⟨e.k, e.v, i⟩ := by
  unfold mpE at h
  rw [List.getElem?_mapIdx] at h
  cases hl : l[i]? with
  | none => rw [hl] at h; cases h
  | some e => rw [hl] at h; cases h; exact ⟨e, rfl, rfl⟩
theorem mpE_push (l : List Ent) (e : Ent) : mpE (l ++ [e]) = mpE l ++ [⟨e.k, e.v, l.length⟩] := by
  unfold mpE
  rw [List.mapIdx_append]
  simp
@[simp] theorem mpE_len (l : List Ent) : (mpE l).length = l.length := by simp [mpE]
/-! the key's type -/
theorem key_row : (95 : TypeId) < Try.prog.types.size := of_decide_eq_true (by kernel_rfl)
theorem key_wide : (match Try.prog.underlying 95 with | some (.array _ _) | some (.struct _) => true | _ => false) = true := by kernel_rfl
theorem key_law : Keyed Try.prog 95 := Keyed.of_law (deep_law_laid laid_out (m := 2) (by omega) key_row (by kernel_rfl) key_wide)
theorem key_lits {P : Program} {t s n : TypeId} (m : Nat) {fs : Array Field} (hu : P.underlying t = some (.struct fs)) (hfs : fs.toList.map (fun f => (f.type, f.offset)) = [(s, 0), (n, 1), (n, 2)]) (hnm : fs.all (·.name != "_") = true)
    (hs : P.underlying s = some .string) (hn : P.underlying n = some (.int .i64)) (c3 : P.cellsOf t = 3) (c1 : P.cellsOf s = 1) (c2 : P.cellsOf n = 1)
    {x : ByteArray} {a b : Int} (hx : x.size ≤ maxLen) (ha : (Lit.int .i64 a).wf = true) (hb : (Lit.int .i64 b).wf = true) : ∃ l, P.keyLits (m + 1 + 1) t [.string x, .int .i64 a, .int .i64 b] = some l := by
  obtain ⟨fl⟩ := fs
  simp only at hfs
  obtain ⟨f1, f2, f3, rfl⟩ : ∃ f1 f2 f3, fl = [f1, f2, f3] := by
    have hl : fl.length = 3 := by simpa using congrArg List.length hfs
    clear hfs hu hnm
    rcases fl with _ | ⟨f1, _ | ⟨f2, _ | ⟨f3, _ | ⟨f4, r⟩⟩⟩⟩ <;> simp at hl
    exact ⟨f1, f2, f3, rfl⟩
  simp only [List.map_cons, List.map_nil, List.cons.injEq, Prod.mk.injEq, and_true] at hfs
  obtain ⟨⟨a1, a2⟩, ⟨b1, b2⟩, ⟨d1, d2⟩⟩ := hfs
  unfold Program.keyLits
  simp only [hu]
  rw [if_pos ⟨by simp [c3], hnm⟩]
  simp [a1, a2, b1, b2, d1, d2, c1, c2, Program.keyLits, hs, hn, hx, ha, hb]
theorem key_at (e : Ent) (h : e.wf) : ∃ l, keyOf Try.prog 95 e.k = some l := by
  obtain ⟨h1, ⟨h2, h3⟩, ⟨h4, h5⟩⟩ := h
  have hk : Try.prog.keyType 95 = true := by kernel_rfl
  have hc : Try.prog.cellsOf 95 = 3 := by kernel_rfl
  have hf : (e.k).formed Try.prog 95 = true := by simp [Value.formed, Try.underlying95, hc, Ent.k]
  have w1 : (Lit.int .i64 e.bt).wf = true := WalkArith.wf_i64 (by omega)
  have w2 : (Lit.int .i64 e.sq).wf = true := WalkArith.wf_i64 (by omega)
  have hs : e.nd.size ≤ maxLen := by unfold maxLen; omega
  have hc9 : Try.prog.cellsOf 9 = 1 := by kernel_rfl
  have hci : Try.prog.cellsOf 3 = 1 := by kernel_rfl
  obtain ⟨m, hm⟩ : ∃ m, Try.prog.types.size + 1 = m + 1 + 1 := ⟨Try.prog.types.size - 1, by
    have : 0 < Try.prog.types.size := of_decide_eq_true (by kernel_rfl)
    omega⟩
  obtain ⟨l, hl⟩ := key_lits (P := Try.prog) m Try.underlying95 (by kernel_rfl) (by kernel_rfl) Try.underlying9 Try.underlying3 hc hc9 hci hs w1 w2
  refine ⟨.string (keyBytes l), ?_⟩
  unfold keyOf
  rw [Try.underlying95]
  simp only [hk, hf, Bool.and_self, if_true]
  rw [hm]
  have e1 : (e.k).cells.toList = [.string e.nd, .int .i64 e.bt, .int .i64 e.sq] := rfl
  rw [e1, hl]
  rfl
end Go.Proofs.Ytepcnpnpjfdfmaa
namespace Go.Proofs.Ytepcnpnpjfdfmaa
open Go.RowKit Go.Maps
open Go.ChangeMaps (setBlock)
set_option maxRecDepth 100000
def entZ : Ent := ⟨ByteArray.empty, 0, 0, 0, 0, 0, 0⟩
theorem zero_ent (w : World) : (zeroValue 86).run Try.prog w = .ok entZ.v w := by kernel_rfl
theorem mpE_key {l : List Ent} {x : MapEntry} (h : x ∈ mpE l) : ∃ e ∈ l, x.key = e.k ∧ x.val = e.v := by
  obtain ⟨i, e, he, rfl⟩ := mpE_mem h
  exact ⟨e, List.mem_of_getElem? he, rfl, rfl⟩
theorem setBlock_same {w : World} {b : Nat} {o : Obj} (h : w.heap[b]? = some o) : setBlock w b o = w := by
  obtain ⟨hlt, he⟩ := Array.getElem?_eq_some_iff.1 h
  have : w.heap.setIfInBounds b o = w.heap := by
    apply Array.ext
    · simp
    · intro i h1 h2
      rw [Array.getElem_setIfInBounds]
      split
      · rename_i e; subst e; exact he.symm
      · rfl
  unfold setBlock
  rw [this]
section
variable {w : World} {b : Nat} {l : List Ent}
theorem look_mp (hb : w.heap[b]? = some (mpO l)) (hl : ∀ e ∈ l, e.wf) (x : Ent) (hx : x.wf) (c : Bool) :
    ((∀ e ∈ l, e.key ≠ x.key) ∧ (Instr.lookup 93 (.map (some b)) x.k c).run Try.prog w = .ok (if c then .tuple #[entZ.v, .bool false] else entZ.v) w) ∨
    ∃ e ∈ l, e.key = x.key ∧ (Instr.lookup 93 (.map (some b)) x.k c).run Try.prog w = .ok (if c then .tuple #[e.v, .bool true] else e.v) w := by
  obtain ⟨lx, hlx⟩ := key_at x hx
  have hes : ∀ e ∈ (mpE l).toArray.toList, ∃ q, keyOf Try.prog 95 e.key = some q := fun e he => by
    obtain ⟨y, hy, hk, _⟩ := mpE_key (by simpa using he)
    rw [hk]
    exact key_at y (hl y hy)
  rcases key_law.find w hlx (mpE l).toArray.toList hes with ⟨h1, h2⟩ | ⟨j, e0, h1, h2, h3⟩
  · refine .inl ⟨fun e he hk => ?_, ?_⟩
    · obtain ⟨i, hi⟩ := List.getElem?_of_mem he
      refine h2 ⟨e.k, e.v, i⟩ (by simp only [mpE]; exact List.mem_mapIdx.2 ⟨i, (List.getElem?_eq_some_iff.1 hi).1, by rw [(List.getElem?_eq_some_iff.1 hi).2]⟩) ?_
      simp only [Ent.key, Prod.mk.injEq] at hk
      simp [Ent.k, hk]
    · simp [Instr.lookup, run_underlying Try.underlying93, MapKept.run_getObj_map (show w.heap[b]? = some (.map (mpE l).toArray l.length) from hb), key_law.check w _ hlx, h1, Result.andThen]
      cases c <;> rfl
  · obtain ⟨e, he, hk⟩ := mpE_get (by simpa using h2)
    subst hk
    refine .inr ⟨e, List.mem_of_getElem? he, Ent.k_inj h3, ?_⟩
    simp [Instr.lookup, run_underlying Try.underlying93, MapKept.run_getObj_map (show w.heap[b]? = some (.map (mpE l).toArray l.length) from hb), key_law.check w _ hlx, h1, Result.andThen]
theorem store_mp_new (hb : w.heap[b]? = some (mpO l)) (hl : ∀ e ∈ l, e.wf) (x : Ent) (hx : x.wf) (hn : ∀ e ∈ l, e.key ≠ x.key) :
    (Instr.mapUpdate 93 (.map (some b)) x.k x.v).run Try.prog w = .ok () (setBlock w b (mpO (l ++ [x]))) := by
  obtain ⟨lx, hlx⟩ := key_at x hx
  have hes : ∀ e ∈ (mpE l).toArray.toList, ∃ q, keyOf Try.prog 95 e.key = some q := fun e he => by
    obtain ⟨y, hy, hk, _⟩ := mpE_key (by simpa using he)
    rw [hk]
    exact key_at y (hl y hy)
  have hb' : w.heap[b]? = some (.map (mpE l).toArray l.length) := hb
  rcases key_law.find w hlx (mpE l).toArray.toList hes with ⟨h1, h2⟩ | ⟨j, e0, h1, h2, h3⟩
  · have e1 : mpO (l ++ [x]) = .map ((mpE l).toArray.push ⟨x.k, x.v, l.length⟩) (l.length + 1) := by
      unfold mpO
      rw [mpE_push]
      simp
    rw [e1]
    simp [Instr.mapUpdate, run_underlying Try.underlying93, MapKept.run_getObj_map hb', key_law.check w false hlx, h1, MapKept.run_setObj_map _ hb', Result.andThen, setBlock]
  · obtain ⟨e, he, hk⟩ := mpE_get (by simpa using h2)
    subst hk
    exact absurd (Ent.k_inj h3) (hn e (List.mem_of_getElem? he))
theorem pair_unique {l : List Ent} (hd : l.Pairwise fun a b => a.key ≠ b.key) {a b : Ent} (ha : a ∈ l) (hb : b ∈ l) (h : a.key = b.key) : a = b := by
  induction l with
  | nil => cases ha
  | cons x r ih =>
    obtain ⟨h1, h2⟩ := List.pairwise_cons.1 hd
    rcases List.mem_cons.1 ha with rfl | ha'
    · rcases List.mem_cons.1 hb with rfl | hb'
      · rfl
      · exact absurd h (h1 _ hb')
    · rcases List.mem_cons.1 hb with rfl | hb'
      · exact absurd h.symm (h1 _ ha')
      · exact ih h2 ha' hb'
theorem store_mp_old (hb : w.heap[b]? = some (mpO l)) (hl : ∀ e ∈ l, e.wf) (hd : l.Pairwise fun a b => a.key ≠ b.key) (x : Ent) (hx : x ∈ l) :
    (Instr.mapUpdate 93 (.map (some b)) x.k x.v).run Try.prog w = .ok () w := by
  obtain ⟨lx, hlx⟩ := key_at x (hl x hx)
  have hes : ∀ e ∈ (mpE l).toArray.toList, ∃ q, keyOf Try.prog 95 e.key = some q := fun e he => by
    obtain ⟨y, hy, hk, _⟩ := mpE_key (by simpa using he)
    rw [hk]
    exact key_at y (hl y hy)
  have hb' : w.heap[b]? = some (.map (mpE l).toArray l.length) := hb
  rcases key_law.find w hlx (mpE l).toArray.toList hes with ⟨h1, h2⟩ | ⟨j, e0, h1, h2, h3⟩
  · obtain ⟨i, hi⟩ := List.getElem?_of_mem hx
    exact absurd rfl (h2 ⟨x.k, x.v, i⟩ (by simp only [mpE]; exact List.mem_mapIdx.2 ⟨i, (List.getElem?_eq_some_iff.1 hi).1, by rw [(List.getElem?_eq_some_iff.1 hi).2]⟩))
  · have h2' : (mpE l)[j]? = some e0 := by simpa using h2
    obtain ⟨e, he, hk⟩ := mpE_get h2'
    subst hk
    obtain rfl := pair_unique hd (List.mem_of_getElem? he) hx (Ent.k_inj h3)
    have hj : (mpE l).toArray[j]? = some ⟨e.k, e.v, j⟩ := by simpa using h2'
    have hm : (mpE l).modify j (fun e' => { key := e.k, val := e.v, born := e'.born }) = mpE l := by
      rw [ChangeMaps.modify_eq_set _ _ _ _ h2']
      apply List.ext_getElem?
      intro i
      rw [List.getElem?_set]
      split
      · rename_i hij
        subst hij
        have := (List.getElem?_eq_some_iff.1 h2').1
        rw [if_pos (by simpa using this)]
        simpa using h2'.symm
      · rfl
    have := setBlock_same hb'
    simp [Instr.mapUpdate, run_underlying Try.underlying93, MapKept.run_getObj_map hb', key_law.check w false hlx, h1, h2', hm, key_law.stays w hlx, MapKept.run_setObj_map _ hb', Result.andThen]
    exact this
/-- 'for .. := range m' under way over a map that does not change: the places that have come are s -/
structure ItAt (w : World) (r b : Nat) (l : List Ent) (s : List Nat) : Prop where
  hb : w.heap[b]? = some (mpO l)
  hr : w.heap[r]? = some (.mapIter (some b) l.length s.toArray l.length)
  nd : s.Nodup
  lt : ∀ i ∈ s, i < l.length
def itLeft (w : World) (r : Nat) : Nat := match w.heap[r]? with | some (.mapIter _ n s _) => n - s.size | _ => 0
theorem ItAt.left {r : Nat} {s : List Nat} (h : ItAt w r b l s) : itLeft w r = l.length - s.length := by simp [itLeft, h.hr]
theorem ItAt.ne {r : Nat} {s : List Nat} (h : ItAt w r b l s) : r ≠ b := by
  intro e
  have := h.hr
  rw [e, h.hb] at this
  cases this
theorem ItAt.kept {w' : World} {r : Nat} {s : List Nat} (h : ItAt w r b l s) (h1 : w'.heap[b]? = w.heap[b]?) (h2 : w'.heap[r]? = w.heap[r]?) : ItAt w' r b l s := ⟨h1.trans h.hb, h2.trans h.hr, h.nd, h.lt⟩
theorem nodup_len {s : List Nat} {n : Nat} (nd : s.Nodup) (lt : ∀ i ∈ s, i < n) : s.length ≤ n := by
  have := List.Nodup.length_le_of_subset nd (fun i hi => List.mem_range.2 (lt i hi))
  simpa using this
theorem ItAt.len {r : Nat} {s : List Nat} (h : ItAt w r b l s) : s.length ≤ l.length := nodup_len h.nd h.lt
theorem mpE_born (l : List Ent) : ((mpE l).map (·.born)) = List.range l.length := by
  unfold mpE
  apply List.ext_getElem?
  intro i
  simp only [List.getElem?_map, List.getElem?_mapIdx]
  by_cases h : i < l.length
  · simp [h]
  · simp [h]
theorem ItAt.step {r : Nat} {s : List Nat} (h : ItAt w r b l s) (ty : TypeId) :
    (s.length = l.length ∧ (Instr.next (.pointer (some ⟨r, 0, none⟩)) false ty).run Try.prog w = .ok (.tuple #[.bool false]) w) ∨
    ∃ i e w', l[i]? = some e ∧ i ∉ s ∧ (Instr.next (.pointer (some ⟨r, 0, none⟩)) false ty).run Try.prog w = .ok (.tuple #[.bool true, e.k, e.v]) w' ∧ ItAt w' r b l (s ++ [i]) ∧ w.grownBy w' (some r) ∧ w'.heap.size = w.heap.size ∧
      (Instr.entry (.pointer (some ⟨r, 0, none⟩))).run Try.prog w' = .ok (.tuple #[e.k, e.v]) w' := by
  have hb' : w.heap[b]? = some (.map (mpE l).toArray l.length) := h.hb
  rcases run_next_at (P := Try.prog) w ty r b l.length l.length s.toArray (mpE l).toArray l.length h.hr hb' (fun x hx => by
      obtain ⟨i, e, he, rfl⟩ := mpE_mem (by simpa using hx)
      exact (List.getElem?_eq_some_iff.1 he).1) (Nat.le_refl _) with ⟨h0, hrun⟩ | ⟨x, hx, w1, hal, hrun⟩
  · refine .inl ⟨Nat.le_antisymm h.len ?_, hrun⟩
    have hall := all_seen _ _ h0
    have : (List.range l.length).length ≤ s.length := List.Nodup.length_le_of_subset List.nodup_range (fun i hi => by
      have hi' := List.mem_range.1 hi
      have := hall ⟨(l[i]).k, (l[i]).v, i⟩ (by simp only [mpE]; exact List.mem_mapIdx.2 ⟨i, hi', rfl⟩)
      simpa using this)
    simpa using this
  · obtain ⟨hm, hs⟩ := mem_left hx
    obtain ⟨i, e, he, rfl⟩ := mpE_mem (by simpa using hm)
    have hns : i ∉ s := by simpa using hs
    have hi := (List.getElem?_eq_some_iff.1 he).1
    have hr1 : w1.heap[r]? = some (.mapIter (some b) l.length s.toArray l.length) := by rcases hal with rfl | rfl <;> exact h.hr
    have hb1 : w1.heap[b]? = some (.map (mpE l).toArray l.length) := by rcases hal with rfl | rfl <;> exact hb'
    have hset := MapKept.heap_set (o' := .mapIter (some b) l.length (s.toArray.push i) l.length) hr1
    have hb2 := (hset.2 b (fun e1 => h.ne e1.symm)).trans hb1
    refine .inr ⟨i, e, _, he, hns, hrun, ⟨hb2, hset.1.trans (by simp), ?_, ?_⟩, ?_, ?_, ?_⟩
    · rw [List.nodup_append]
      exact ⟨h.nd, by simp, fun a ha b hb => by simp at hb; subst hb; intro e; exact hns (e ▸ ha)⟩
    · intro j hj
      rcases List.mem_append.1 hj with hj | hj
      · exact h.lt j hj
      · simp at hj; omega
    · rcases hal with rfl | rfl <;> exact ⟨rfl, rfl, rfl, by simp [setBlock], fun j _ hj => hset.2 j (fun e1 => hj (by rw [e1]))⟩
    · rcases hal with rfl | rfl <;> simp [setBlock]
    · exact run_entry_at _ r b l.length s.toArray (mpE l).toArray l.length ⟨e.k, e.v, i⟩ hset.1 hb2 hm (by
        rw [show (mpE l).toArray.toList = mpE l from rfl, mpE_born]
        exact List.nodup_range)
theorem range_mp (hb : w.heap[b]? = some (mpO l)) : (Instr.range 93 (.map (some b))).run Try.prog w = .ok (.pointer (some ⟨w.heap.size, 0, none⟩)) (w.alloc (.mapIter (some b) l.length #[] l.length)) :=
  run_range_map w _ _ _ b (mpE l).toArray l.length Try.underlying93 hb
theorem ItAt.start (hb : w.heap[b]? = some (mpO l)) : ItAt (w.alloc (.mapIter (some b) l.length #[] l.length)) w.heap.size b l [] :=
  ⟨((MapKept.heap_alloc w _).2 b (Array.getElem?_eq_some_iff.1 hb).1).trans hb, (MapKept.heap_alloc w _).1, by simp, by simp⟩
def picks (l : List Ent) (s : List Nat) : List Ent := s.map fun i => l.getD i default
theorem picks_snoc (l : List Ent) (s : List Nat) {i : Nat} {e : Ent} (he : l[i]? = some e) : picks l (s ++ [i]) = picks l s ++ [e] := by simp [picks, List.getD, he]
theorem picks_perm (l : List Ent) {s : List Nat} (nd : s.Nodup) (lt : ∀ i ∈ s, i < l.length) (hl : s.length = l.length) : (picks l s).Perm l := by
  have h1 : s.Perm (List.range l.length) := by
    refine (List.perm_ext_iff_of_nodup nd List.nodup_range).2 fun i => ⟨fun h => List.mem_range.2 (lt i h), fun h => ?_⟩
    refine Classical.byContradiction fun hn => ?_
    have := nodup_len (n := l.length) (List.nodup_cons.2 ⟨hn, nd⟩) (fun j hj => by
      rcases List.mem_cons.1 hj with rfl | hj
      · exact List.mem_range.1 h
      · exact lt j hj)
    simp at this
    omega
  have h2 : (List.range l.length).map (fun i => l.getD i default) = l := by
    apply List.ext_getElem?
    intro i
    by_cases h : i < l.length
    · rw [List.getElem?_map, List.getElem?_range h]
      simp [h, List.getD]
    · rw [List.getElem?_eq_none (by simp; omega), List.getElem?_eq_none (by omega)]
  have := h1.map (fun i => l.getD i default)
  rw [h2] at this
  exact this
end
section
variable {w : World} {ops : Array Oper} {rest : List Oper} {o : Oper} {a : Act} {Q : Exit → Act → World → Prop} {b : Nat} {l : List Ent}
theorem wpList_range_mp (hg : o.guard = none) (m : Operand) (hop : o.op = Op.range 93 m) (hm : a.eval m = .map (some b)) (hb : w.heap[b]? = some (mpO l))
    (hK : ItAt (w.alloc (.mapIter (some b) l.length #[] l.length)) w.heap.size b l [] → wpList Try.prog ops Q rest (a.put o.dst (.pointer (some ⟨w.heap.size, 0, none⟩))) (w.alloc (.mapIter (some b) l.length #[] l.length))) : wpList Try.prog ops Q (o :: rest) a w := by
  refine wpList_plain hg fun K' hK' => ?_
  unfold Oper.wp
  simp only [execOp, hop, hm, Sem.run_bind, range_mp hb, Result.andThen]
  exact hK' _ _ (hK (ItAt.start hb))
theorem wpList_next_mp (hg : o.guard = none) (it : Operand) (hop : o.op = Op.next it false) {r : Nat} {s : List Nat} (hit : a.eval it = .pointer (some ⟨r, 0, none⟩)) (h : ItAt w r b l s)
    (h0 : s.length = l.length → wpList Try.prog ops Q rest (a.put o.dst (.tuple #[.bool false])) w)
    (h1 : ∀ i e w', l[i]? = some e → i ∉ s → ItAt w' r b l (s ++ [i]) → w.grownBy w' (some r) → w'.heap.size = w.heap.size → (Instr.entry (.pointer (some ⟨r, 0, none⟩))).run Try.prog w' = .ok (.tuple #[e.k, e.v]) w' →
      wpList Try.prog ops Q rest (a.put o.dst (.tuple #[.bool true, e.k, e.v])) w') : wpList Try.prog ops Q (o :: rest) a w := by
  refine wpList_plain hg fun K' hK' => ?_
  unfold Oper.wp
  rcases h.step o.type with ⟨hl, hrun⟩ | ⟨i, e, w', he, hn, hrun, hI, hgr, hsz, hen⟩
  · simp only [execOp, hop, hit, Sem.run_bind, hrun, Result.andThen]
    exact hK' _ _ (h0 hl)
  · simp only [execOp, hop, hit, Sem.run_bind, hrun, Result.andThen]
    exact hK' _ _ (h1 i e w' he hn hI hgr hsz hen)
variable {F : Fence} {n : Nat}
theorem wpListIn_range_mp (hg : o.guard = none) (m : Operand) (hop : o.op = Op.range 93 m) (hm : a.eval m = .map (some b)) (hb : w.heap[b]? = some (mpO l))
    (hK : ItAt (w.alloc (.mapIter (some b) l.length #[] l.length)) w.heap.size b l [] → wpListIn F n Try.prog ops Q rest (a.put o.dst (.pointer (some ⟨w.heap.size, 0, none⟩))) (w.alloc (.mapIter (some b) l.length #[] l.length))) : wpListIn F n Try.prog ops Q (o :: rest) a w := by
  refine wpListIn_plain hg fun K' hK' => ?_
  unfold Oper.wpIn
  refine ⟨by simp [Oper.about, hop], ?_⟩
  rw [Oper.semAt_plain F _ _ (by rw [hop]; intro c hc'; cases hc')]
  simp only [execOp, hop, hm, Sem.run_bind, range_mp hb, Result.andThen]
  exact hK' _ _ (hK (ItAt.start hb))
theorem wpListIn_next_mp (hg : o.guard = none) (it : Operand) (hop : o.op = Op.next it false) {r : Nat} {s : List Nat} (hit : a.eval it = .pointer (some ⟨r, 0, none⟩)) (h : ItAt w r b l s)
    (h0 : s.length = l.length → wpListIn F n Try.prog ops Q rest (a.put o.dst (.tuple #[.bool false])) w)
    (h1 : ∀ i e w', l[i]? = some e → i ∉ s → ItAt w' r b l (s ++ [i]) → w.grownBy w' (some r) → w'.heap.size = w.heap.size → (Instr.entry (.pointer (some ⟨r, 0, none⟩))).run Try.prog w' = .ok (.tuple #[e.k, e.v]) w' →
      wpListIn F n Try.prog ops Q rest (a.put o.dst (.tuple #[.bool true, e.k, e.v])) w') : wpListIn F n Try.prog ops Q (o :: rest) a w := by
  refine wpListIn_plain hg fun K' hK' => ?_
  unfold Oper.wpIn
  refine ⟨by simp [Oper.about, hop], ?_⟩
  rw [Oper.semAt_plain F _ _ (by rw [hop]; intro c hc'; cases hc')]
  rcases h.step o.type with ⟨hl, hrun⟩ | ⟨i, e, w', he, hn, hrun, hI, hgr, hsz, hen⟩
  · simp only [execOp, hop, hit, Sem.run_bind, hrun, Result.andThen]
    exact hK' _ _ (h0 hl)
  · simp only [execOp, hop, hit, Sem.run_bind, hrun, Result.andThen]
    exact hK' _ _ (h1 i e w' he hn hI hgr hsz hen)
end
end Go.Proofs.Ytepcnpnpjfdfmaa
namespace Go.Proofs.Ytepcnpnpjfdfmaa
open Go.RowKit Go.Maps Go.Shelf
attribute [local go_sem] Oper.semAt_some
set_option maxRecDepth 100000 in
set_option maxHeartbeats 1000000 in
theorem vals1_in (F : Fence) (n : Nat) (hf : F.fn 56) (hro : F.round = none) (hn : 1 ≤ n) (l Bm b : Nat) (L : List Ent) (J Jx : List Ent → World → Prop)
    (hY : ∀ pre x W, J pre W → pre.length < L.length → YieldAt F (n - 1) Try.prog l #[Ent.v x] W fun e W' =>
      (e = .returned (.bool true) ∧ J (pre ++ [x]) W' ∧ KeepsWalks W W') ∨ (e = .returned (.bool false) ∧ Jx (pre ++ [x]) W'))
    (W : World) (hJ : AbidesFrom W.heap.size J) (hm : W.cell? ⟨Bm, 0, none⟩ = some (.map (some b))) (hb : W.heap[b]? = some (mpO L)) (h0 : J [] W) :
    CallsIn F n Try.prog 56 #[.func (.yield l) #[] #[], .pointer (some ⟨Bm, 0, none⟩)] W fun e W' => (∃ v, e = .returned v) ∧
      ((∃ xs : List Ent, xs.Perm L ∧ J xs W') ∨ (∃ pre : List Ent, True ∧ Jx pre W')) := by
  refine callsIn_of_wp Try.func56 rfl hf ?_ hro
  simp only [Try.ntmps56, List.size_toArray, List.length_cons, List.length_nil, Nat.reduceAdd, Nat.reduceSub, Array.replicate_succ, Array.replicate_zero, List.push_toArray, List.append_toArray, List.nil_append, List.cons_append]
  gi_wp2_with (first
    | (gi_at_range; refine wpListIn_range_mp rfl _ rfl rfl hb ?_; intro hI0)
    | gi_in)
  go_frame
  gi_loopw [4] (fun _ wr => ∃ s, ItAt wr W.heap.size b L s ∧ J (picks L s) wr) (fun _ wr => itLeft wr W.heap.size)
  case atStart =>
    exact ⟨[], hI0, hJ [] W _ none h0 (World.grownBy_alloc _ _ _) (fun r e => by cases e)⟩
  case round =>
    obtain ⟨s, hI, hJs⟩ := hrel
    gi_wp2_with (first
      | (gi_at_next; refine wpListIn_next_mp rfl _ rfl rfl hI ?_ ?_)
      | gi_in)
    · intro hlen
      gi_wp2
      go_end0
      exact ⟨⟨_, rfl⟩, .inl ⟨_, picks_perm L hI.nd hI.lt hlen, hJs⟩⟩
    · intro i x w2 hx hns hI2 hg2 hs2 hen
      have hJ2 : J (picks L s) w2 := hJ _ wr w2 (some W.heap.size) hJs hg2 (fun r e => by cases e; exact ⟨Nat.le_refl _, _, hI.hr, rfl⟩)
      clear hs2
      have hlt : (picks L s).length < L.length := by
        have := hI2.len
        simp [picks] at this ⊢
        omega
      have hJ3 : J (picks L s) (w2.alloc (.cells x.cs.toArray 86)) := hJ _ w2 _ none hJ2 (World.grownBy_alloc _ _ _) (fun r e => by cases e)
      have hI3 : ItAt (w2.alloc (.cells x.cs.toArray 86)) W.heap.size b L (s ++ [i]) := hI2.kept ((MapKept.heap_alloc w2 _).2 b (Array.getElem?_eq_some_iff.1 hI2.hb).1) ((MapKept.heap_alloc w2 _).2 _ (Array.getElem?_eq_some_iff.1 hI2.hr).1)
      obtain ⟨fn, tmps, assign, body, hy, hR⟩ := hY (picks L s) x _ hJ3 hlt
      have hps := picks_snoc L s hx
      dsimp only [Ent.v, Ent.k, Ent.cs] at hen hy hR hJ3 hI3 ⊢
      clear hJ2 hI2
      gi_wp2
      refine hR.mono ?_
      rintro e W3 (⟨rfl, hJ4, hk3⟩ | ⟨rfl, hJx3⟩)
      · gi_wp2
        have hI4 : ItAt W3 W.heap.size b L (s ++ [i]) := hI3.kept ((hk3.same b _ hI3.hb rfl).trans hI3.hb.symm) ((hk3.same _ _ hI3.hr rfl).trans hI3.hr.symm)
        go_roundw
        case rel => exact ⟨s ++ [i], hI4, by rw [hps]; exact hJ4⟩
        case measure => rw [hI4.left, hI.left]; simp [picks] at hlt ⊢; omega
      · gi_wp2
        refine bodyPost_ret (results_none rfl _ _ _) rfl ?_
        exact ⟨⟨_, rfl⟩, .inr ⟨_, trivial, hJx3⟩⟩

theorem vals_stops (F : Fence) (n : Nat) (hf : F.fn 56) (hro : F.round = none) (hn : 1 ≤ n) (Bm b : Nat) (L : List Ent) (w : World) (hBm : Bm < w.heap.size) (hm : w.cell? ⟨Bm, 0, none⟩ = some (.map (some b))) (hb : w.heap[b]? = some (mpO L)) :
    SeqStopsK F n Try.prog 56 #[.pointer (some ⟨Bm, 0, none⟩)] (fun x : Ent => #[Ent.v x]) KeepsWalks (fun xs => xs.Perm L) (fun _ => True) L.length w := fun l J Jx W hW hJ _ hY h0 =>
  vals1_in F n hf hro hn l Bm b L J Jx hY W hJ ((hW.cell (p := ⟨Bm, 0, none⟩) hBm).trans hm) ((hW.block b (Array.getElem?_eq_some_iff.1 hb).1).trans hb) h0
set_option maxRecDepth 100000 in
theorem vals_any (mb : Option Nat) (w : World) : Calls Try.prog 42 #[.map mb] w fun e w' => e = .returned (.func (.func 56) #[] #[.pointer (some ⟨w.heap.size, 0, none⟩)]) ∧ w' = w.alloc (.cells #[.map mb] 93) := by
  go_enter Try.func42, Try.ntmps42
  go_wp2
  go_ret
  exact ⟨rfl, rfl⟩
theorem ent_info : (Try.prog.info? 86).map (fun i => (i.zero, i.size, i.bytes)) = some (some entZ.v, 7, 64) := by kernel_rfl
theorem cells_new (W : World) (t : TypeId) (cs : List Value) : ∀ j u, cs[j]? = some u → (W.alloc (.cells cs.toArray t)).cell? ((⟨W.heap.size, 0, none⟩ : Addr).add j) = some u := by
  intro j u hj
  have e : (⟨W.heap.size, 0, none⟩ : Addr).add j = ⟨W.heap.size, j, none⟩ := by unfold Addr.add; split <;> simp_all
  rw [e, World.cell?_alloc_mark]
  simpa using hj
set_option maxRecDepth 100000 in
set_option maxHeartbeats 2000000 in
theorem appendseq_in (F : Fence) (n : Nat) (h50 : F.fn 61) (h46 : F.fn 56) (hro : F.round = none) (hn : 3 ≤ n) (Bm b : Nat) (L : List Ent) (hN : L.length ≤ 1000) (w : World) (hBm : Bm < w.heap.size) (hm : w.cell? ⟨Bm, 0, none⟩ = some (.map (some b))) (hb : w.heap[b]? = some (mpO L)) :
    CallsIn F n Try.prog 61 #[.slice none 0 0, .func (.func 56) #[] #[.pointer (some ⟨Bm, 0, none⟩)]] w fun e W' => ∃ v, ∃ xs : List Ent, e = .returned v ∧ xs.Perm L ∧ W'.ownsRow w.heap.size 86 7 v xs.length (xs.flatMap Ent.cs) ∧ Below w.heap.size w W' := by
  have h1 : 1 ≤ n := by omega
  obtain ⟨i0, hi, hz0, hz1, hz2⟩ := info_parts ent_info
  refine callsIn_of_wp_marks Try.func61 rfl h50 ?_ hro
  simp only [Try.ntmps61, List.size_toArray, List.length_cons, List.length_nil, Nat.reduceAdd, Nat.reduceSub, Array.replicate_succ, Array.replicate_zero, List.push_toArray, List.append_toArray, List.nil_append, List.cons_append]
  gi_wp2
  have bO := Boxed.new w 51 (.slice none 0 0)
  have hB0 : Below w.heap.size w (w.alloc (.cells #[.slice none 0 0] 51)) := (Below.refl _ w).alloc (Nat.le_refl _) _
  have hsz : (w.alloc (.cells #[.slice none 0 0] 51)).heap.size = w.heap.size + 1 := by simp
  have hm0 : (w.alloc (.cells #[.slice none 0 0] 51)).cell? ⟨Bm, 0, none⟩ = some (.map (some b)) := (hB0.cell (p := ⟨Bm, 0, none⟩) hBm).trans hm
  have hb0 : (w.alloc (.cells #[.slice none 0 0] 51)).heap[b]? = some (mpO L) := (hB0.block b (Array.getElem?_eq_some_iff.1 hb).1).trans hb
  obtain ⟨W0, hW0⟩ : ∃ W0, w.alloc (.cells #[.slice none 0 0] 51) = W0 := ⟨_, rfl⟩
  rw [hW0] at bO hB0 hsz hm0 hb0 ⊢
  clear hW0
  refine wpIn_rangeFunc_ownH hro h1 (gf := 56) (lb := #[.pointer (some ⟨Bm, 0, none⟩)]) rfl h46 (enters_of Try.func56 (by kernel_rfl) rfl)
    (vals_stops F (n - 1) h46 hro (by omega) Bm b L W0 (by omega) hm0 hb0) walksK_t (walksK_b) (Below.refl _ _) (fun _ => rfl)
    (fun pre W => (∃ v, Boxed W w.heap.size 51 v ∧ W.ownsRow w.heap.size 86 7 v pre.length (pre.flatMap Ent.cs) ∧ True) ∧ Below w.heap.size w W)
    (fun _ _ _ => False)
    (OwnFrom.and (Own.from (holdsRow_own w.heap.size w.heap.size 51 86 7 (fun pre : List Ent => pre.length) (fun pre => pre.flatMap Ent.cs) (fun _ _ => True)) _) (ownFrom_below (Nat.le_refl _) (by omega)))
    (fun _ _ _ _ _ hs _ _ => hs)
    ⟨⟨_, bO, World.ownsRow_nil _ _ _ _, trivial⟩, hB0⟩
    (fun x a' W => ∃ Bx, w.heap.size < Bx ∧ W.heap[Bx]? = some (.cells x.cs.toArray 86 (0, 0)) ∧ a' = { tmps := #[.slice none 0 0, .func (.func 56) #[] #[.pointer (some ⟨Bm, 0, none⟩)], .pointer (some ⟨w.heap.size, 0, none⟩), undef, .slice none 0 0, .pointer (some ⟨Bx, 0, none⟩), .func (.func 56) #[] #[.pointer (some ⟨Bm, 0, none⟩)], Ent.v x, undef, undef, undef, undef, undef], defers := [] })
    (fun x a' _ X Y row hs hg hr => by
      obtain ⟨Bx, h1, h2, h3⟩ := hs
      refine ⟨Bx, h1, (hg.block Bx (Array.getElem?_eq_some_iff.1 h2).1 (fun e => ?_)).trans h2, h3⟩
      obtain ⟨_, o, ho, hc⟩ := hr Bx e.symm
      rw [h2] at ho
      cases ho
      cases hc)
    ?assign ?body ?done ?stop
  case assign =>
    rintro l pre x W K ⟨⟨v, hv, hrow, _⟩, hB1⟩ hK
    dsimp only [Ent.v, Ent.cs] at hK ⊢
    gi_wp2
    exact hK _ _ ((KeepsOthers.alloc _ _).from _) (KeepsWalks.alloc _ _) ⟨⟨v, hv.alloc _, hrow.alloc _, trivial⟩, hB1.alloc hB1.size _⟩ ⟨W.heap.size, hv.lt, (MapKept.heap_alloc W _).1, rfl⟩
  case body =>
    rintro l pre x a' W hl ⟨r, hr⟩ ⟨⟨v, hv, hrow, _⟩, hB⟩ ⟨Bx, hBx, hxx, rfl⟩ hlt
    have hc := hv.cell
    have hx0 : ∀ j u, x.cs[j]? = some u → W.cell? ⟨Bx, j, none⟩ = some u := fun j u hj => by
      rw [cell_of_row W Bx j _ _ _ hxx]
      simpa using hj
    have x0 := hx0 0 _ rfl
    have x1 := hx0 1 _ rfl
    have x2 := hx0 2 _ rfl
    have x3 := hx0 3 _ rfl
    have x4 := hx0 4 _ rfl
    have x5 := hx0 5 _ rfl
    have x6 := hx0 6 _ rfl
    clear hx0
    gi_wp2_with (gi_at_builtin; refine wpListIn_append_own _ rfl _ _ 51 rfl w.heap.size 86 i0 entZ.v 7 64 Try.underlying51 hi hz0 hz1 hz2 rfl (by decide) _ _ _ rfl (hrow.alloc _) ⟨W.heap.size, 0, none⟩ 1 1 x.cs rfl rfl (cells_new _ _ _) (by simp [Ent.cs, Value.oneCell']) (by unfold maxLen; omega) (by omega) (by have := hB.size; simp; omega) ?_; intro v' w1 hown' hgrow _; obtain ⟨g', cap', rfl⟩ := ownsRow_succ hown'; obtain ⟨hv1, hv2, hr2, hk2, hb2⟩ := hv.appended (by decide) hrow hB.size (Nat.le_refl _) hown' hgrow; have hc1 := hv1.cell; have hf1 := hv1.frozen)
    exact ⟨hk2.from _, ⟨hk2.size, fun k o hk ho => hk2.same k o hk (Obj.not_cells_of_walk ho)⟩, ⟨_, hv2, by simpa using hr2, trivial⟩, hB.trans hb2⟩
  case done =>
    rintro D ys W hD hperm ⟨⟨v, hv, hrow, _⟩, hB⟩ hK
    have hc := hv.cell
    gi_wp2
    refine ⟨by simp, .inl ⟨_, _, rfl, run_takeDeferred hK, ?_⟩⟩
    exact ⟨_, results_tmp rfl _ _ _, v, ys, rfl, hperm, ownsRow_putObj hrow _ hK rfl, hB.trans (belowK_b (w := w) (Nat.le_refl _) W D _ _ (by omega) hK rfl rfl)⟩
  case stop =>
    rintro D c pre W _ _ h _
    exact h.elim
set_option maxRecDepth 100000 in
theorem collect_any (Bm b : Nat) (L : List Ent) (hN : L.length ≤ 1000) (w : World) (hBm : Bm < w.heap.size) (hm : w.cell? ⟨Bm, 0, none⟩ = some (.map (some b))) (hb : w.heap[b]? = some (mpO L)) :
    Calls Try.prog 54 #[.func (.func 56) #[] #[.pointer (some ⟨Bm, 0, none⟩)]] w fun e W' => ∃ v, ∃ xs : List Ent, e = .returned v ∧ xs.Perm L ∧ W'.ownsRow w.heap.size 86 7 v xs.length (xs.flatMap Ent.cs) ∧ Ext w W' := by
  have HA := (callsIn_wide (n := 3)).1 (appendseq_in .wide 3 trivial trivial rfl (by omega) Bm b L hN w hBm hm hb)
  go_enter Try.func54, Try.ntmps54
  go_wp2_with (go_at_call 61; refine HA.mono ?_; rintro e w' ⟨v, xs, rfl, hx, ho, hB⟩)
  go_ret
  exact ⟨v, xs, rfl, hx, ho, hB⟩
end Go.Proofs.Ytepcnpnpjfdfmaa
