/- Chapter 52: the reference's set: a list in order; Put. -/
import Derived.Test.YtjdbhemojopnlaaMgK
namespace Go.Proofs.Ytjdbhemojopnlaa
open Go.RowKit Go.Maps
instance (a b : Ent) : Decidable (ltE a b) := by unfold ltE; infer_instance
attribute [local go_sem 2000] equal_ent
set_option maxRecDepth 100000 in
theorem alike_any (x y : Ent) (w : World) : Calls Try.prog 39 #[x.v, y.v] w fun e w' => e = .returned (.bool (decide (x.key = y.key))) ∧ Ext w w' := by
  have hk : decide (x.key = y.key) = ((x.nd.toList == y.nd.toList) && ((x.bt == y.bt) && (x.sq == y.sq))) := by
    rw [Bool.eq_iff_iff]
    simp only [decide_eq_true_eq, Ent.key, Prod.mk.injEq, Bool.and_eq_true, beq_iff_eq]
    exact ⟨fun ⟨h1, h2⟩ => ⟨by rw [h1], h2⟩, fun ⟨h1, h2⟩ => ⟨tl_inj h1, h2⟩⟩
  rw [hk]
  clear hk
  dsimp only [Ent.v]
  cases h1 : (x.nd.toList == y.nd.toList) with
  | false =>
    go_enter Try.func39, Try.ntmps39
    go_wp2_with fail
    all_goals go_ret
    all_goals exact ⟨ret_bool (by simp), ((Ext.refl w).alloc _).alloc _⟩
  | true =>
    cases h2 : (x.bt == y.bt) with
    | false =>
      go_enter Try.func39, Try.ntmps39
      go_wp2_with fail
      all_goals go_ret
      all_goals exact ⟨ret_bool (by simp), ((Ext.refl w).alloc _).alloc _⟩
    | true =>
      go_enter Try.func39, Try.ntmps39
      go_wp2_with fail
      all_goals go_ret
      all_goals exact ⟨ret_bool (by simp), ((Ext.refl w).alloc _).alloc _⟩
theorem ltE_dec (x y : Ent) : decide (ltE x y) = if x.nd.toList == y.nd.toList then (if x.bt = y.bt then decide (x.sq < y.sq) else decide (x.bt < y.bt)) else ltS x.nd y.nd := by
  cases h : x.nd.toList == y.nd.toList with
  | true =>
    have e : x.nd = y.nd := tl_inj (eq_of_beq h)
    have hi := ltS_irrefl y.nd
    by_cases h2 : x.bt = y.bt
    · simp [ltE, e, hi, h2]
    · simp [ltE, e, hi, h2]
  | false =>
    have e : x.nd ≠ y.nd := fun e => by simp [e] at h
    simp [ltE, e]
set_option maxRecDepth 100000 in
theorem before_any (x y : Ent) (w : World) : Calls Try.prog 40 #[x.v, y.v] w fun e w' => e = .returned (.bool (decide (ltE x y))) ∧ Ext w w' := by
  rw [ltE_dec]
  dsimp only [Ent.v]
  cases h1 : (x.nd.toList == y.nd.toList) with
  | false =>
    go_enter Try.func40, Try.ntmps40
    go_wp2_with fail
    all_goals go_ret
    all_goals exact ⟨ret_bool (by simp [ltS]), ((Ext.refl w).alloc _).alloc _⟩
  | true =>
    by_cases h2 : x.bt = y.bt
    · have h2' : (x.bt == y.bt) = true := by simp [h2]
      simp only [h2, if_true]
      go_enter Try.func40, Try.ntmps40
      go_wp2_with fail
      all_goals go_ret
      all_goals exact ⟨ret_bool (by simp), ((Ext.refl w).alloc _).alloc _⟩
    · have h2' : (x.bt == y.bt) = false := by simp [h2]
      simp only [h2, if_true, if_false]
      go_enter Try.func40, Try.ntmps40
      go_wp2_with fail
      all_goals go_ret
      all_goals exact ⟨ret_bool (by simp), ((Ext.refl w).alloc _).alloc _⟩
def insE (e : Ent) : List Ent → List Ent
  | [] => [e]
  | x :: r => if ltE e x then e :: x :: r else x :: insE e r
def stp (e : Ent) (p : List Ent × Bool) (x : Ent) : List Ent × Bool := if p.2 = false ∧ ltE e x then (p.1 ++ [e] ++ [x], true) else (p.1 ++ [x], p.2)
def finE (e : Ent) (p : List Ent × Bool) : List Ent := if p.2 then p.1 else p.1 ++ [e]
theorem fold_added (e : Ent) : ∀ (r o : List Ent), r.foldl (stp e) (o, true) = (o ++ r, true)
  | [], o => by simp
  | x :: r, o => by simp [stp, fold_added e r]
theorem fold_ins (e : Ent) : ∀ (r o : List Ent), finE e (r.foldl (stp e) (o, false)) = o ++ insE e r
  | [], o => by simp [finE, insE]
  | x :: r, o => by
    by_cases h : ltE e x
    · simp [stp, h, fold_added, finE, insE]
    · simp [stp, h, fold_ins e r, insE]
theorem fold_len (e : Ent) : ∀ (r : List Ent) (p : List Ent × Bool), (r.foldl (stp e) p).1.length ≤ p.1.length + r.length + (if p.2 then 0 else 1)
  | [], p => by simp
  | x :: r, p => by
    have := fold_len e r (stp e p x)
    unfold stp at this ⊢
    simp only [List.foldl_cons]
    split at this
    · rename_i h
      rw [if_pos h]
      simp [h.1] at this ⊢
      omega
    · rename_i h
      rw [if_neg h]
      simp at this ⊢
      omega
end Go.Proofs.Ytjdbhemojopnlaa
