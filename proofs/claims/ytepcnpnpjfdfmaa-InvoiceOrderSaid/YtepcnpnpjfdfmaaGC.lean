/- Chapter 52: the reference's set: a list in order; Put. Chapter 52: the reference's Put. Chapter 52: filled. Chapter 52: Total, Between and the reference's Sum. Chapter 52: Gaps. Chapter 52: Gaps, the program's. Chapter 52: the reference's Gaps. Chapter 52: the example. Chapter 52: the laws Puts, Totals, Gaps. Chapter 52: entries that come in. -/
import Derived.Test.YtepcnpnpjfdfmaaGB
import Derived.Test.YtepcnpnpjfdfmaaLift
import Derived.Deep.Slices
import Derived.Deep.Fields
import Derived.Deep.DeepHandedRow
namespace Go.Proofs.Ytepcnpnpjfdfmaa
open Go.RowKit Go.Maps
instance (a b : Ent) : Decidable (ltE a b) := by unfold ltE; infer_instance
attribute [local go_sem 2000] equal_ent
theorem ltE_dec (x y : Ent) : decide (ltE x y) = if x.nd.toList == y.nd.toList then (if x.bt = y.bt then decide (x.sq < y.sq) else decide (x.bt < y.bt)) else ltS x.nd y.nd := by
  cases h : x.nd.toList == y.nd.toList with
  | true =>
    have e : x.nd = y.nd := tl_inj (eq_of_beq h)
    have hi := ltS_irrefl y.nd
    by_cases h2 : x.bt = y.bt
    · simp [ltE, e, hi, h2]
    · simp [ltE, e, hi, h2]
  | false =>
    have e : x.nd ≠ y.nd := fun e => by simp [e] at h
    simp [ltE, e]
def insE (e : Ent) : List Ent → List Ent
  | [] => [e]
  | x :: r => if ltE e x then e :: x :: r else x :: insE e r
def stp (e : Ent) (p : List Ent × Bool) (x : Ent) : List Ent × Bool := if p.2 = false ∧ ltE e x then (p.1 ++ [e] ++ [x], true) else (p.1 ++ [x], p.2)
def finE (e : Ent) (p : List Ent × Bool) : List Ent := if p.2 then p.1 else p.1 ++ [e]
theorem fold_added (e : Ent) : ∀ (r o : List Ent), r.foldl (stp e) (o, true) = (o ++ r, true)
  | [], o => by simp
  | x :: r, o => by simp [stp, fold_added e r]
theorem fold_ins (e : Ent) : ∀ (r o : List Ent), finE e (r.foldl (stp e) (o, false)) = o ++ insE e r
  | [], o => by simp [finE, insE]
  | x :: r, o => by
    by_cases h : ltE e x
    · simp [stp, h, fold_added, finE, insE]
    · simp [stp, h, fold_ins e r, insE]
theorem fold_len (e : Ent) : ∀ (r : List Ent) (p : List Ent × Bool), (r.foldl (stp e) p).1.length ≤ p.1.length + r.length + (if p.2 then 0 else 1)
  | [], p => by simp
  | x :: r, p => by
    have := fold_len e r (stp e p x)
    unfold stp at this ⊢
    simp only [List.foldl_cons]
    split at this
    · rename_i h
      rw [if_pos h]
      simp [h.1] at this ⊢
      omega
    · rename_i h
      rw [if_neg h]
      simp at this ⊢
      omega
end Go.Proofs.Ytepcnpnpjfdfmaa
namespace Go.Proofs.Ytepcnpnpjfdfmaa
open Go.RowKit Go.Maps
attribute [local go_sem 2000] equal_ent
/-- a slice of entries that the caller has made, its row at B or above -/
def EntOwn (w : World) (B : Nat) (v : Value) (es : List Ent) : Prop := w.ownsRow B 86 7 v es.length (es.flatMap Ent.cs)
theorem EntOwn.nil (w : World) (B : Nat) : EntOwn w B (.slice none 0 0) [] := World.ownsRow_nil _ _ _ _
theorem EntOwn.at {w : World} {B : Nat} {v : Value} {es : List Ent} (h : EntOwn w B v es) : EnsAt w v es := ens_of_row h
theorem EntOwn.ext {w w' : World} {B : Nat} {v : Value} {es : List Ent} (h : EntOwn w B v es) (hx : Ext w w') : EntOwn w' B v es := World.ownsRow.kept h (hx.grown none) (by
  rcases h.2 with ⟨rfl, _⟩ | ⟨g, cap, cur, rfl, _⟩
  · exact .inl rfl
  · exact .inr (by simp [Value.ownBlock]))
theorem ent_base {w : World} {B : Nat} {v : Value} {es : List Ent} (h : EntOwn w B v es) : ∀ k, v.ownBlock = some k → B ≤ k := by
  intro k hk
  rcases h.2 with ⟨rfl, _⟩ | ⟨g, cap, cur, rfl, hb, _⟩
  · simp [Value.ownBlock] at hk
  · simp [Value.ownBlock] at hk; omega
theorem wpList_append_ent (w : World) {ops : Array Oper} {rest : List Oper} {o : Oper} {a : Act} {Q : Exit → Act → World → Prop} (hg : o.guard = none) (s x : Operand)
    (ho : o.op = .call { callee := .builtin .append, args := #[s, x], argTypes := #[51, 51] }) (B : Nat) {v : Value} {es : List Ent} (e : Ent) (hown : EntOwn w B v es) (hs : a.eval s = v)
    {G : Nat} (hx : a.eval x = .slice (some ⟨G, 0, none⟩) 1 1) (hG : G = w.heap.size) (hlen : es.length ≤ 100000) (hB : B ≤ w.heap.size)
    (h : ∀ v' w', EntOwn w' B v' (es ++ [e]) → Below B w w' → wpList Try.prog ops Q rest (a.put o.dst v') w') :
    wpList Try.prog ops Q (o :: rest) a (w.alloc (.cells #[.string e.nd, .int .i64 e.bt, .int .i64 e.sq, .int .i64 e.tn, .int .i64 e.ht, .int .i64 e.by_, .int .i64 e.at_] 86)) := by
  subst hG
  obtain ⟨i0, hi0, hz0, hz1, hz2⟩ := info_parts ent_info
  refine wpList_append_own _ hg s x 51 ho B 86 i0 _ 7 64 Try.underlying51 hi0 hz0 hz1 hz2 rfl (by decide) v es.length _ hs (hown.ext ((Ext.refl w).alloc _)) ⟨w.heap.size, 0, none⟩ 1 1 e.cs hx rfl (cells_new _ _ _) (by simp [Ent.cs, Value.oneCell']) (by unfold maxLen; omega) (by omega) (by simp; omega) ?_
  intro v' w1 hown' hgrow _
  refine h v' w1 ?_ ?_
  · unfold EntOwn
    rw [List.length_append, List.flatMap_append]
    simpa using hown'
  · exact Below.grown (Below.alloc (Below.refl _ _) hB _) hgrow (by simp; omega) (ent_base hown)
theorem EnsAt.below {w w' : World} {v : Value} {es : List Ent} (h : EnsAt w v es) (hx : Below w.heap.size w w') : EnsAt w' v es := h.ext hx
theorem len_ins (e : Ent) : ∀ r : List Ent, (insE e r).length = r.length + 1
  | [] => rfl
  | x :: r => by
    unfold insE
    split
    · rfl
    · simp [len_ins e r]
end Go.Proofs.Ytepcnpnpjfdfmaa
namespace Go.Proofs.Ytepcnpnpjfdfmaa
open Go.RowKit Go.Maps
attribute [local go_sem 2000] equal_ent
theorem EnsAt.kept {w w' : World} {v : Value} {es L : List Ent} {b : Nat} (h : EnsAt w v es) (hb : w.heap[b]? = some (mpO L)) (hg : w.grownBy w' (some b)) : EnsAt w' v es := by
  rcases h with h | ⟨g, off, cap, hv, hc⟩
  · exact .inl h
  · refine .inr ⟨g, off, cap, hv, fun i e he j u hj => ?_⟩
    have h1 := hc i e he j u hj
    have hlt := World.block_lt_of_cell? w _ h1
    have hne : g ≠ b := fun e => by
      subst e
      simp [World.cell?, hb, mpO] at h1
    exact (World.cell?_of_block (hg.block g hlt (by simpa using hne))).trans h1
theorem RowB.grown {w w' : World} {g : Nat} {e : TypeId} {xs : List Value} {L : List Ent} {b : Nat} (h : RowB w g e xs) (hb : w.heap[b]? = some (mpO L)) (hg : w.grownBy w' (some b)) : RowB w' g e xs := by
  refine h.kept (hg.block g h.lt ?_)
  obtain ⟨C, fr, rest, hc, _⟩ := h
  intro e
  cases e
  rw [hb] at hc
  cases hc
theorem Ext.grownB {w w' w'' : World} {b : Nat} (h : Ext w w') (hg : w'.grownBy w'' (some b)) (hb : w.heap.size ≤ b) : Ext w w'' := Below.grown h hg h.size (fun k hk => by cases hk; exact hb)
open Classical in
noncomputable def refPut (r : List Ent) (x : Ent) : List Ent := if x.good ∧ ∀ y ∈ r, y.key ≠ x.key then insE x r else r
noncomputable def refL (es : List Ent) : List Ent := es.foldl refPut []
theorem refPut_bad {r : List Ent} {x : Ent} (h : ¬ x.good) : refPut r x = r := by unfold refPut; rw [if_neg (fun h' => h h'.1)]
theorem refPut_old {r : List Ent} {x y : Ent} (hy : y ∈ r) (hk : y.key = x.key) : refPut r x = r := by unfold refPut; rw [if_neg (fun h' => h'.2 y hy hk)]
theorem refPut_new {r : List Ent} {x : Ent} (h : x.good) (hn : ∀ y ∈ r, y.key ≠ x.key) : refPut r x = insE x r := by unfold refPut; rw [if_pos ⟨h, hn⟩]
theorem ins_perm (x : Ent) : ∀ r : List Ent, (insE x r).Perm (x :: r)
  | [] => List.Perm.refl _
  | y :: r => by
    unfold insE
    split
    · exact List.Perm.refl _
    · exact ((ins_perm x r).cons y).trans (List.Perm.swap _ _ _)
theorem ins_sorted {x : Ent} : ∀ {r : List Ent}, r.Pairwise ltE → (∀ y ∈ r, y.key ≠ x.key) → (insE x r).Pairwise ltE
  | [], _, _ => by simp [insE]
  | y :: r, h, hn => by
    obtain ⟨h1, h2⟩ := List.pairwise_cons.1 h
    unfold insE
    split
    · rename_i hlt
      exact List.pairwise_cons.2 ⟨fun z hz => by
        rcases List.mem_cons.1 hz with rfl | hz
        · exact hlt
        · exact ltE_trans hlt (h1 z hz), h⟩
    · rename_i hlt
      refine List.pairwise_cons.2 ⟨fun z hz => ?_, ins_sorted h2 (fun z hz => hn z (by simp [hz]))⟩
      rcases List.mem_cons.1 ((ins_perm x r).mem_iff.1 hz) with rfl | hz
      · rcases ltE_tri y z with h3 | h3 | h3
        · exact h3
        · exact absurd h3 (hn y (by simp))
        · exact absurd h3 hlt
      · exact h1 z hz
/-- the set and the reference's list -/
structure Tied (L r : List Ent) : Prop where
  p : r.Perm L
  s : r.Pairwise ltE
theorem Tied.nil : Tied [] [] := ⟨List.Perm.refl _, by simp⟩
theorem Tied.mem {L r : List Ent} (h : Tied L r) {x : Ent} : x ∈ r ↔ x ∈ L := h.p.mem_iff
theorem Tied.ins {L r : List Ent} (h : Tied L r) {x : Ent} (hn : ∀ y ∈ L, y.key ≠ x.key) : Tied (L ++ [x]) (insE x r) :=
  ⟨((ins_perm x r).trans (h.p.cons x)).trans (List.perm_append_singleton x L).symm, ins_sorted h.s (fun y hy => hn y (h.mem.1 hy))⟩
theorem ent_kinds (x : Ent) (hs : (x.nd.size : Int) ≤ 9223372036854775807) : nmB x.nd = false ∨ (nmB x.nd = true ∧ ¬ okEn x.bt x.sq x.tn x.ht x.by_ x.at_) ∨ x.good := by
  cases h : nmB x.nd with
  | false => exact .inl rfl
  | true =>
    by_cases h2 : okEn x.bt x.sq x.tn x.ht x.by_ x.at_
    · exact .inr (.inr ⟨⟨hs, h⟩, h2⟩)
    · exact .inr (.inl ⟨rfl, h2⟩)
theorem sorted_key {r : List Ent} (hs : r.Pairwise ltE) {x y : Ent} (hx : x ∈ r) (hy : y ∈ r) (h : x.key = y.key) : x = y := pair_unique (hs.imp fun h => ltE_key h) hx hy h
/-- an entry at a place in memory -/
def Arg7 (w : World) (p : Addr) (e : Ent) : Prop := w.cell? p = some (.string e.nd) ∧ w.cell? ⟨p.block, p.off + 1, none⟩ = some (.int .i64 e.bt) ∧ w.cell? ⟨p.block, p.off + 2, none⟩ = some (.int .i64 e.sq) ∧
    w.cell? ⟨p.block, p.off + 3, none⟩ = some (.int .i64 e.tn) ∧ w.cell? ⟨p.block, p.off + 4, none⟩ = some (.int .i64 e.ht) ∧ w.cell? ⟨p.block, p.off + 5, none⟩ = some (.int .i64 e.by_) ∧ w.cell? ⟨p.block, p.off + 6, none⟩ = some (.int .i64 e.at_)
theorem Arg7.ext {w w' : World} {p : Addr} {e : Ent} (h : Arg7 w p e) (hx : Ext w w') : Arg7 w' p e :=
  ⟨hx.cell h.1, hx.cell h.2.1, hx.cell h.2.2.1, hx.cell h.2.2.2.1, hx.cell h.2.2.2.2.1, hx.cell h.2.2.2.2.2.1, hx.cell h.2.2.2.2.2.2⟩
/-- a slice of entries that came in -/
def EnsArg (w : World) (v : Value) (es : List Ent) : Prop := ∃ A cap, v = .slice A es.length cap ∧ (0 < es.length → ∃ a, A = some a ∧ ∀ i e, es[i]? = some e → Arg7 w (a.add (i * 7)) e)
theorem EnsArg.ext {w w' : World} {v : Value} {es : List Ent} (h : EnsArg w v es) (hx : Ext w w') : EnsArg w' v es := by
  obtain ⟨A, cap, hv, hc⟩ := h
  refine ⟨A, cap, hv, fun h0 => ?_⟩
  obtain ⟨a, ha, hh⟩ := hc h0
  exact ⟨a, ha, fun i e he => (hh i e he).ext hx⟩
/-- what an entry that came in may be -/
def Ent.typed (x : Ent) : Prop := (x.nd.size : Int) ≤ 9223372036854775807 ∧ (-9223372036854775808 ≤ x.sq ∧ x.sq ≤ 9223372036854775807)
end Go.Proofs.Ytepcnpnpjfdfmaa
namespace Go.Proofs.Ytepcnpnpjfdfmaa
open Go.RowKit Go.Maps
def tot (f : Ent → Int) (p : Ent → Bool) : List Ent → Int
  | [] => 0
  | x :: r => (if p x then f x else 0) + tot f p r
theorem tot_snoc (f : Ent → Int) (p : Ent → Bool) (x : Ent) : ∀ r : List Ent, tot f p (r ++ [x]) = tot f p r + (if p x then f x else 0)
  | [] => by simp [tot]
  | y :: r => by simp [tot, tot_snoc f p x r, Int.add_assoc]
theorem tot_bd (f : Ent → Int) (p : Ent → Bool) : ∀ r : List Ent, (∀ x ∈ r, 0 ≤ f x ∧ f x ≤ 1099511627776) → 0 ≤ tot f p r ∧ tot f p r ≤ r.length * 1099511627776
  | [], _ => by simp [tot]
  | x :: r, h => by
    have h1 := h x (by simp)
    have h2 := tot_bd f p r (fun y hy => h y (by simp [hy]))
    unfold tot
    rw [List.length_cons]
    split <;> omega
def pB (t f u : Int) (x : Ent) : Bool := decide (x.tn = t) && (decide (f ≤ x.at_) && decide (x.at_ < u))
def pT (t : Int) (x : Ent) : Bool := decide (x.tn = t)
set_option maxRecDepth 100000 in
theorem mplus_any (a b : Int) (ha : 0 ≤ a ∧ a ≤ 2305843009213693952) (hb : 0 ≤ b ∧ b ≤ 1099511627776) (w : World) :
    Calls Try.prog 40 #[.int .i64 a, .int .i64 b] w fun e w' => e = .returned (.int .i64 (a + b)) ∧ w = w' := by
  have h1 : wrap64 (4611686018427387904 - b) = 4611686018427387904 - b := by unfold wrap64; omega
  have h2 : min a (4611686018427387904 - b) = a := by omega
  have h3 : wrap64 (a + b) = a + b := by unfold wrap64; omega
  go_enter Try.func40, Try.ntmps40
  go_wp2_with fail
  go_ret
  exact ⟨rfl, rfl⟩
set_option maxRecDepth 100000 in
set_option maxHeartbeats 2000000 in
theorem between_any {v : Value} {r : List Ent} (hn : r.length ≤ 1000) (hgd : ∀ x ∈ r, x.good) (tenant from_ to_ : Int) (w : World) (HLS : ListsTo w v r) :
    Calls Try.prog 23 #[v, .int .i64 tenant, .int .i64 from_, .int .i64 to_] w fun e w' => e = .returned (.tuple #[.int .i64 (tot Ent.ht (pB tenant from_ to_) r), .int .i64 (tot Ent.by_ (pB tenant from_ to_) r)]) ∧ Ext w w' := by
  obtain ⟨n, hxn⟩ : ∃ n, r.length = n := ⟨_, rfl⟩
  have HN := Lib.hid hxn
  have HG := Lib.hid hgd
  have HL := Lib.hid HLS
  rw [hxn] at hn
  clear hxn hgd HLS
  go_enter Try.func23, Try.ntmps23
  go_wp2_with (go_at_call 25; refine (HL.out w (Ext.refl w)).mono ?_; rintro e w1 ⟨u, rfl, hu, hx1, -⟩; obtain ⟨A, cap, rfl, hr⟩ := hu.parts; rw [HN.out] at hr ⊢)
  go_loopw [8, 9, 15] (fun hv bv i wr => ∃ k : Nat, k ≤ n ∧ i = .int .i64 k ∧ hv = .int .i64 (tot Ent.ht (pB tenant from_ to_) (r.take k)) ∧ bv = .int .i64 (tot Ent.by_ (pB tenant from_ to_) (r.take k)) ∧ Ext w1 wr) (fun _ _ i _ => n - (intOf i).toNat)
  case atStart => exact ⟨0, by omega, rfl, by simp [tot], by simp [tot], Ext.refl w1⟩
  case round =>
    obtain ⟨k, hk, rfl, rfl, rfl, hX⟩ := hrel
    by_cases hlt : k < n
    · obtain ⟨g, off, rfl, hg⟩ := hr (by omega)
      obtain ⟨x, hx⟩ : ∃ x, r[k]? = some x := ⟨r[k]'(by rw [HN.out]; exact hlt), by simp⟩
      have hki : (k : Int) < (n : Int) := by omega
      have hk6 : (k : Int) < 1001 := by omega
      have hTK : r.take (k + 1) = r.take k ++ [x] := by rw [List.take_add_one, hx]; rfl
      have hxg := HG.out x (List.mem_of_getElem? hx)
      have tk : ∀ y ∈ r.take k, y.good := fun y hy => HG.out y (List.mem_of_mem_take hy)
      have bh := tot_bd Ent.ht (pB tenant from_ to_) (r.take k) (fun y hy => (tk y hy).2.2.2.2.1)
      have bb := tot_bd Ent.by_ (pB tenant from_ to_) (r.take k) (fun y hy => (tk y hy).2.2.2.2.2.1)
      have lk : (r.take k).length ≤ k := List.length_take_le _ _
      have s1 : tot Ent.ht (pB tenant from_ to_) (r.take (k + 1)) = tot Ent.ht (pB tenant from_ to_) (r.take k) + (if (pB tenant from_ to_) x then x.ht else 0) := by rw [hTK, tot_snoc]
      have s2 : tot Ent.by_ (pB tenant from_ to_) (r.take (k + 1)) = tot Ent.by_ (pB tenant from_ to_) (r.take k) + (if (pB tenant from_ to_) x then x.by_ else 0) := by rw [hTK, tot_snoc]
      obtain ⟨th, hth⟩ : ∃ z, tot Ent.ht (pB tenant from_ to_) (r.take k) = z := ⟨_, rfl⟩
      obtain ⟨tb, htb⟩ : ∃ z, tot Ent.by_ (pB tenant from_ to_) (r.take k) = z := ⟨_, rfl⟩
      rw [hth] at s1 bh ⊢
      rw [htb] at s2 bb ⊢
      have S1 := Lib.hid s1
      have S2 := Lib.hid s2
      have HB := Lib.hid (show (0 ≤ th ∧ th ≤ 2305843009213693952) ∧ (0 ≤ tb ∧ tb ≤ 2305843009213693952) ∧ (0 ≤ x.ht ∧ x.ht ≤ 1099511627776) ∧ (0 ≤ x.by_ ∧ x.by_ ≤ 1099511627776) from ⟨by omega, by omega, hxg.2.2.2.2.1, hxg.2.2.2.2.2.1⟩)
      obtain ⟨a0, a1, a2, a3, a4, a5, a6⟩ := cells7 (w := wr) (fun j u hj => hX.cell (hg k x hx j u hj))
      clear hg hx hr hTK hxg tk bh bb lk s1 s2 hth htb
      go_upto_region 4 with fail
      obtain ⟨wa, hwa⟩ : ∃ wa, wa = wr.alloc (.cells x.cs.toArray 86) := ⟨_, rfl⟩
      have XA : Ext wr wa := by rw [hwa]; exact (Ext.refl wr).alloc _
      have HT : Hid (RowB wa wr.heap.size 86 x.cs) := Lib.hid (by rw [hwa]; exact row_laid _ _ _)
      simp only [Ent.cs] at hwa
      rw [← hwa]
      clear hwa a0 a1 a2 a3 a4 a5 a6
      obtain ⟨t0, t1, t2, t3, t4, t5, t6⟩ := ent_cells HT.out
      cases hp : (pB tenant from_ to_) x with
      | true =>
        obtain ⟨hp1, hp3, hp4⟩ : x.tn = tenant ∧ from_ ≤ x.at_ ∧ x.at_ < to_ := by simpa [pB] using hp
        have hp2 : (x.tn == tenant) = true := by simp [hp1]
        go_upto_region 5 with fail
        clear t0 t1 t2 t3 t4 t5 t6
        have t0 := fun n : Wd wa => (ent_cells (HT.out.ext n.ext)).1
        have t1 := fun n : Wd wa => (ent_cells (HT.out.ext n.ext)).2.1
        have t2 := fun n : Wd wa => (ent_cells (HT.out.ext n.ext)).2.2.1
        have t3 := fun n : Wd wa => (ent_cells (HT.out.ext n.ext)).2.2.2.1
        have t4 := fun n : Wd wa => (ent_cells (HT.out.ext n.ext)).2.2.2.2.1
        have t5 := fun n : Wd wa => (ent_cells (HT.out.ext n.ext)).2.2.2.2.2.1
        have t6 := fun n : Wd wa => (ent_cells (HT.out.ext n.ext)).2.2.2.2.2.2

        refine wp_region_wd (by kernel_rfl) (by kernel_rfl) ?_
        repeat (go_big_quiet_step (first
          | (go_at_call_of 40 (Value.int .i64 th); exact Calls.wd_of_same (mplus_any th x.ht HB.out.1 HB.out.2.2.1 _))
          | (go_at_call 40; exact Calls.wd_of_same (mplus_any tb x.by_ HB.out.2.1 HB.out.2.2.2 _))))
        refine wpQuiet_nil ?_
        rintro _ ⟨nq, rfl⟩
        go_wp2_with fail
        go_roundw
        case rel => exact ⟨k + 1, by omega, by go_num, by rw [S1.out, hp]; rfl, by rw [S2.out, hp]; rfl, (hX.trans XA).trans nq.ext⟩
        case measure => simp [intOf]; omega
      | false =>
        have hp0 : x.tn ≠ tenant ∨ (x.tn = tenant ∧ ¬ from_ ≤ x.at_) ∨ (x.tn = tenant ∧ from_ ≤ x.at_ ∧ ¬ x.at_ < to_) := by
          have h0 : ¬ (x.tn = tenant ∧ from_ ≤ x.at_ ∧ x.at_ < to_) := by simpa [pB] using hp
          omega
        rcases hp0 with hp1 | ⟨hp1, hp3⟩ | ⟨hp1, hp3, hp4⟩
        · have hp2 : (x.tn == tenant) = false := by simp [hp1]
          go_wp2_with fail
          go_roundw
          case rel => exact ⟨k + 1, by omega, by go_num, by rw [S1.out, hp]; simp, by rw [S2.out, hp]; simp, hX.trans XA⟩
          case measure => simp [intOf]; omega
        · have hp2 : (x.tn == tenant) = true := by simp [hp1]
          go_wp2_with fail
          go_roundw
          case rel => exact ⟨k + 1, by omega, by go_num, by rw [S1.out, hp]; simp, by rw [S2.out, hp]; simp, hX.trans XA⟩
          case measure => simp [intOf]; omega
        · have hp2 : (x.tn == tenant) = true := by simp [hp1]
          go_wp2_with fail
          go_roundw
          case rel => exact ⟨k + 1, by omega, by go_num, by rw [S1.out, hp]; simp, by rw [S2.out, hp]; simp, hX.trans XA⟩
          case measure => simp [intOf]; omega
    · obtain rfl : k = n := by omega
      have hall : r.take k = r := List.take_of_length_le (by have := HN.out; omega)
      rw [hall]
      go_wp2_with fail
      go_ret2
      exact ⟨rfl, hx1.trans hX⟩
end Go.Proofs.Ytepcnpnpjfdfmaa
namespace Go.Proofs.Ytepcnpnpjfdfmaa
open Go.RowKit Go.Maps
structure Gp where
  nd : ByteArray
  bt : Int
  fr : Int
  to_ : Int
deriving DecidableEq, Inhabited
def Gp.cs (g : Gp) : List Value := [.string g.nd, .int .i64 g.bt, .int .i64 g.fr, .int .i64 g.to_]
def lastS (p : Option Ent) (x : Ent) : Int := match p with | some y => if y.nd = x.nd ∧ y.bt = x.bt then y.sq else 0 | none => 0
def gapOf (p : Option Ent) (x : Ent) : List Gp := if lastS p x + 1 < x.sq then [⟨x.nd, x.bt, lastS p x + 1, x.sq - 1⟩] else []
def gps : Option Ent → List Ent → List Gp
  | _, [] => []
  | p, x :: r => gapOf p x ++ gps (some x) r
def lastE : Option Ent → List Ent → Option Ent
  | p, [] => p
  | _, x :: r => lastE (some x) r
theorem gps_snoc : ∀ (p : Option Ent) (r : List Ent) (x : Ent), gps p (r ++ [x]) = gps p r ++ gapOf (lastE p r) x
  | _, [], _ => by simp [gps, lastE]
  | _, y :: r, x => by simp [gps, lastE, gps_snoc (some y) r x]
theorem lastE_snoc : ∀ (p : Option Ent) (r : List Ent) (x : Ent), lastE p (r ++ [x]) = some x
  | _, [], _ => rfl
  | _, y :: r, x => by simp [lastE, lastE_snoc (some y) r x]
theorem gapOf_len (p : Option Ent) (x : Ent) : (gapOf p x).length ≤ 1 := by unfold gapOf; split <;> simp
theorem gps_len : ∀ (p : Option Ent) (r : List Ent), (gps p r).length ≤ r.length
  | _, [] => by simp [gps]
  | p, x :: r => by
    have h1 := gapOf_len p x
    have h2 := gps_len (some x) r
    simp [gps]
    omega
theorem lastE_take {r : List Ent} {k : Nat} {y : Ent} (h : r[k]? = some y) : lastE none (r.take (k + 1)) = some y := by
  rw [List.take_add_one, h]
  exact lastE_snoc _ _ _
def GpsAt (w : World) (v : Value) (gs : List Gp) : Prop :=
  (v = .slice none 0 0 ∧ gs = []) ∨ ∃ g cap, v = .slice (some ⟨g, 0, none⟩) gs.length cap ∧ ∀ i e, gs[i]? = some e → ∀ j u, e.cs[j]? = some u → w.cell? ⟨g, i * 4 + j, none⟩ = some u
theorem GpsAt.ext {w w' : World} {v : Value} {gs : List Gp} (h : GpsAt w v gs) (hx : Ext w w') : GpsAt w' v gs := by
  rcases h with h | ⟨g, cap, hv, hc⟩
  · exact .inl h
  · exact .inr ⟨g, cap, hv, fun i e he j u hj => hx.cell (hc i e he j u hj)⟩
theorem gp_flat : ∀ (xs : List Gp) (i : Nat) (e : Gp), xs[i]? = some e → ∀ j, j < 4 → (xs.flatMap Gp.cs)[i * 4 + j]? = e.cs[j]?
  | [], i, e, h, _, _ => by simp at h
  | x :: r, 0, e, h, j, hj => by
    simp at h
    subst h
    simp only [List.flatMap_cons, Nat.zero_mul, Nat.zero_add]
    rw [List.getElem?_append_left (by simpa [Gp.cs] using hj)]
  | x :: r, i + 1, e, h, j, hj => by
    simp only [List.getElem?_cons_succ] at h
    simp only [List.flatMap_cons]
    have h4 : x.cs.length = 4 := rfl
    rw [List.getElem?_append_right (by omega), h4, show (i + 1) * 4 + j - 4 = i * 4 + j by omega]
    exact gp_flat r i e h j hj
end Go.Proofs.Ytepcnpnpjfdfmaa
namespace Go.Proofs.Ytepcnpnpjfdfmaa
open Go.RowKit Go.Maps
theorem grownBy_set (W : World) (b i : Nat) (v : Value) : W.grownBy (W.setCell ⟨b, i, none⟩ v) (some b) :=
  ⟨rfl, rfl, rfl, (KeepsWalks.setCell W _ v).size, fun k _ hk => Below.heap_setCell _ _ _ k (fun e => hk (by rw [e]))⟩
theorem grown_trans {a b c : World} {t : Nat} (h : a.grownBy b (some t)) (k : b.grownBy c (some t)) : a.grownBy c (some t) :=
  ⟨k.os.trans h.os, k.tape.trans h.tape, k.output.trans h.output, Nat.le_trans h.size k.size, fun i hi hn => (k.block i (Nat.lt_of_lt_of_le hi h.size) hn).trans (h.block i hi hn)⟩
theorem grown_below {a b c : World} {t : Nat} (h : a.grownBy b (some t)) (k : Below a.heap.size b c) : a.grownBy c (some t) :=
  ⟨k.os.trans h.os, k.tape.trans h.tape, k.output.trans h.output, Nat.le_trans h.size k.size, fun i hi hn => (k.block i hi).trans (h.block i hi hn)⟩
theorem RowB.cellsOff {w w' : World} {t : Nat} (h : w.grownBy w' (some t)) {p : Addr} {v : Value} (hp : w.cell? p = some v) (hn : p.block ≠ t) : w'.cell? p = some v :=
  (World.cell?_of_block (a := p) (h.block p.block (World.block_lt_of_cell? w p hp) (by simpa using hn))).trans hp
theorem id_cells {w : World} {g : Nat} {a : ByteArray} {b c : Int} (h : RowB w g 95 [.string a, .int .i64 b, .int .i64 c]) : (w.cell? ⟨g, 0, none⟩ = some (.string a) ∧ w.cell? ⟨g, 1, none⟩ = some (.int .i64 b) ∧ w.cell? ⟨g, 2, none⟩ = some (.int .i64 c)) ∧
    (w.frozen? ⟨g, 0, none⟩ = false ∧ w.frozen? ⟨g, 1, none⟩ = false ∧ w.frozen? ⟨g, 2, none⟩ = false) :=
  ⟨⟨h.cell (j := 0) rfl, h.cell (j := 1) rfl, h.cell (j := 2) rfl⟩, h.frozen (j := 0) (by simp), h.frozen (j := 1) (by simp), h.frozen (j := 2) (by simp)⟩
end Go.Proofs.Ytepcnpnpjfdfmaa
namespace Go.Proofs.Ytepcnpnpjfdfmaa
open Go.RowKit Go.Maps
end Go.Proofs.Ytepcnpnpjfdfmaa
namespace Go.Proofs.Ytepcnpnpjfdfmaa
open Go.RowKit Go.Maps
abbrev e1S : ByteArray := ⟨#[101, 49]⟩
abbrev eA : Ent := ⟨e1S, 0, 1, 2, 3, 10, 5⟩
abbrev eB : Ent := ⟨e1S, 0, 4, 2, 1, 5, 9⟩
theorem nm_e1 : nmB e1S = true := by decide
theorem good_A : eA.good := ⟨⟨by decide, nm_e1⟩, by unfold okN; decide, by decide, by decide, by unfold okN; decide, by unfold okN; decide, by unfold okN; decide⟩
theorem good_B : eB.good := ⟨⟨by decide, nm_e1⟩, by unfold okN; decide, by decide, by decide, by unfold okN; decide, by unfold okN; decide, by unfold okN; decide⟩
theorem GpsAt.len {w : World} {v : Value} {gs : List Gp} (h : GpsAt w v gs) : ∃ A cap, v = .slice A gs.length cap := by
  rcases h with ⟨rfl, rfl⟩ | ⟨g, cap, rfl, _⟩
  · exact ⟨_, _, rfl⟩
  · exact ⟨_, _, rfl⟩
end Go.Proofs.Ytepcnpnpjfdfmaa
namespace Go.Proofs.Ytepcnpnpjfdfmaa
open Go.RowKit Go.Maps
theorem refL_good {es : List Ent} : ∀ x ∈ refL es, x.good := by
  have go : ∀ (es r : List Ent), (∀ x ∈ r, x.good) → ∀ x ∈ es.foldl refPut r, x.good := by
    intro es
    induction es with
    | nil => intro r h; exact h
    | cons y es ih =>
      intro r h
      refine ih _ (fun x hx => ?_)
      unfold refPut at hx
      split at hx
      · rename_i hg
        rcases List.mem_cons.1 ((ins_perm y r).mem_iff.1 hx) with rfl | hx
        · exact hg.1
        · exact h x hx
      · exact h x hx
  exact go es [] (by simp)
theorem tot_whole (f : Ent → Int) (t : Int) : ∀ r : List Ent, (∀ x ∈ r, x.good) → tot f (pB t 0 4611686018427387904) r = tot f (pT t) r
  | [], _ => rfl
  | x :: r, h => by
    have h1 := (h x (by simp)).2.2.2.2.2.2
    have h2 := tot_whole f t r (fun y hy => h y (by simp [hy]))
    have h3 : pB t 0 4611686018427387904 x = pT t x := by
      obtain ⟨a, b⟩ := h1
      have e1 : decide (0 ≤ x.at_) = true := by simpa using a
      have e2 : decide (x.at_ < 4611686018427387904) = true := by simp; omega
      simp [pB, pT, e1, e2]
    unfold tot
    rw [h2, h3]
theorem GpsAt.parts {w : World} {v : Value} {gs : List Gp} (h : GpsAt w v gs) : ∃ A cap, v = .slice A gs.length cap ∧ (0 < gs.length → ∃ g, A = some ⟨g, 0, none⟩ ∧ ∀ i e, gs[i]? = some e → ∀ j u, e.cs[j]? = some u → w.cell? ⟨g, i * 4 + j, none⟩ = some u) := by
  rcases h with ⟨rfl, rfl⟩ | ⟨g, cap, hv, hc⟩
  · exact ⟨none, 0, rfl, fun h => absurd h (by simp)⟩
  · exact ⟨_, cap, hv, fun _ => ⟨g, rfl, hc⟩⟩
theorem cells4 {w : World} {g o : Nat} {e : Gp} (h : ∀ j u, e.cs[j]? = some u → w.cell? ⟨g, o + j, none⟩ = some u) : w.cell? ⟨g, o, none⟩ = some (.string e.nd) ∧ w.cell? ⟨g, o + 1, none⟩ = some (.int .i64 e.bt) ∧ w.cell? ⟨g, o + 2, none⟩ = some (.int .i64 e.fr) ∧ w.cell? ⟨g, o + 3, none⟩ = some (.int .i64 e.to_) :=
  ⟨h 0 _ rfl, h 1 _ rfl, h 2 _ rfl, h 3 _ rfl⟩
end Go.Proofs.Ytepcnpnpjfdfmaa
namespace Go.Proofs.Ytepcnpnpjfdfmaa
section
open Go.ChangeShapes Go.WideShapes Go.Deep
variable {H : Type} {enc : TypeId × Value → H} {P : Program} {w : World} {base : Nat} {spare : Nat → Bool} {held : Bool}
theorem open_slice_cells {t e : TypeId} {fs : Array Field} {fuel : Nat} {cs : List Value} {x : DataW H × List MemPlace} (ht : P.underlying t = some (.slice e)) (he : P.underlying e = some (.struct fs))
    (hone : oneCellFields P fs = true) (hC : P.cellsOf e = fs.size) (h : DataW.trod enc P w base spare held fuel t cs = some x) :
    cs = [.slice none 0 0] ∨
    ∃ (a : Addr) (len cap m : Nat), cs = [.slice (some a) len cap] ∧ len ≤ cap ∧ cap ≤ maxLen ∧ m = (if spare a.block then cap else len) ∧
      ∀ i, i < m → ∀ (j : Nat) (f : Field), fs[j]? = some f → ∃ (v : Value) (y : DataW H × List MemPlace) (n : Nat), w.cell? (a.add (i * fs.size + j)) = some v ∧ DataW.trod enc P w base spare held n f.type [v] = some y := by
  rcases open_slice ht h with h0 | ⟨a, len, cap, m, n, D, Pl, hcs, hb, hl, hm, hmm, hx, hi⟩
  · exact .inl h0.1
  · refine .inr ⟨a, len, cap, m, hcs, hl, hm, hmm, fun i him j f hj => ?_⟩
    obtain ⟨cs', hc, ht'⟩ := hi i him
    rw [hC] at hc
    obtain ⟨ys, n', hn', hy, hlen, hyl, hf⟩ := DataW.trod_struct he ht'
    obtain ⟨_, hcl, hat⟩ := World.cells?_some hc
    obtain ⟨ho, hk⟩ := hone_of hone j f hj
    have hjl : j < fs.size := (Array.getElem?_eq_some_iff.1 hj).1
    have hcell := hat j hjl
    have hv : cs'[j]? = some (cs'[j]'(by omega)) := List.getElem?_eq_getElem (by omega)
    have h1 := hf j f hj
    rw [ho, hk] at h1
    have hone' : (cs'.drop j).take 1 = [cs'[j]'(by omega)] := by
      rw [List.drop_eq_getElem_cons (by omega)]
      rfl
    rw [hone'] at h1
    have hys : ys[j]? = some (ys[j]'(by omega)) := List.getElem?_eq_getElem (by omega)
    refine ⟨_, _, n', ?_, h1.trans hys⟩
    rw [← Go.Deep.add_add, hcell, hv]
end
open Go.ChangeShapes Go.WideShapes Go.ChangeAt Go.RowKit
theorem cell_off7 (w : World) (a : Addr) (i j : Nat) (v : Value) (hj : 1 ≤ j) (h : w.cell? (a.add (i * 7 + j)) = some v) : w.cell? ⟨(a.add (i * 7)).block, (a.add (i * 7)).off + j, none⟩ = some v := by
  rw [← h]
  obtain ⟨j', rfl⟩ : ∃ j', j = j' + 1 := ⟨j - 1, by omega⟩
  cases i with
  | zero => rw [Nat.zero_mul, Addr.add_zero', Nat.zero_add, Addr.add_succ']
  | succ i =>
    rw [show (i + 1) * 7 = (7 * i + 6) + 1 from by omega, Addr.add_succ', show 7 * i + 6 + 1 + (j' + 1) = (7 * i + 7 + j') + 1 from by omega, Addr.add_succ']
    show w.cell? ⟨a.block, a.off + (7 * i + 6 + 1) + (j' + 1), none⟩ = _
    rw [show a.off + (7 * i + 6 + 1) + (j' + 1) = a.off + (7 * i + 7 + j' + 1) from by omega]
theorem pick_fun {n : Nat} {α : Type} [Inhabited α] {P : Nat → α → Prop} (h : ∀ i, i < n → ∃ x, P i x) : ∃ f : Nat → α, ∀ i, i < n → P i (f i) :=
  ⟨fun i => if hi : i < n then Classical.choose (h i hi) else default, fun i hi => by
    simp only [dif_pos hi]
    exact Classical.choose_spec (h i hi)⟩
set_option maxRecDepth 100000 in
theorem open_ents_of {H : Type} {enc : TypeId × Value → H} {w : World} {base : Nat} {held : Bool} {v : Value} {d : DataW H} {p : List MemPlace}
    (hone : ∀ z, v.cells.toList = [z] → v = z) (h : DataW.Trod enc Try.prog w base (fun _ => true) held 51 v d p) :
    ∃ es : List Ent, EnsArg w v es ∧ ∀ x ∈ es, x.typed := by
  obtain ⟨m0, h⟩ := h
  rcases open_slice_cells Try.underlying51 Try.underlying86 (by kernel_rfl) (by kernel_rfl) h with e0 | ⟨a, len, cap, m', e0, hle, hlim, hm, hx⟩
  · exact ⟨[], ⟨none, 0, hone _ e0, fun h => absurd h (by simp)⟩, by simp⟩
  · have hmm : m' = cap := by simpa using hm
    have gi : ∀ (i j : Nat) (f : Field), f.type = 3 → (∃ (v : Value) (y : DataW H × List MemPlace) (n : Nat), w.cell? (a.add (i * 7 + j)) = some v ∧ DataW.trod enc Try.prog w base (fun _ => true) held n f.type [v] = some y) → ∃ z : Int, w.cell? (a.add (i * 7 + j)) = some (.int .i64 z) ∧ (Lit.int .i64 z).wf = true := by
      rintro i j f hft ⟨v, y, n, hc, ht⟩
      rw [hft] at ht
      obtain ⟨z, e, -, hw⟩ := DataW.trod_int Try.underlying3 ht
      obtain rfl := List.singleton_inj.1 e
      exact ⟨z, hc, hw⟩
    have key : ∀ i, i < len → ∃ x : Ent, Arg7 w (a.add (i * 7)) x ∧ x.typed := by
      intro i hi
      have hx' := hx i (by omega)
      obtain ⟨vs, y, n, hc, ht⟩ := hx' 0 _ rfl
      obtain ⟨s, e, -, hs⟩ := DataW.trod_string (t := 9) Try.underlying9 ht
      obtain rfl := List.singleton_inj.1 e
      obtain ⟨z1, c1, w1⟩ := gi i 1 _ rfl (hx' 1 _ rfl)
      obtain ⟨z2, c2, w2⟩ := gi i 2 _ rfl (hx' 2 _ rfl)
      obtain ⟨z3, c3, w3⟩ := gi i 3 _ rfl (hx' 3 _ rfl)
      obtain ⟨z4, c4, w4⟩ := gi i 4 _ rfl (hx' 4 _ rfl)
      obtain ⟨z5, c5, w5⟩ := gi i 5 _ rfl (hx' 5 _ rfl)
      obtain ⟨z6, c6, w6⟩ := gi i 6 _ rfl (hx' 6 _ rfl)
      refine ⟨⟨s, z1, z2, z3, z4, z5, z6⟩, ⟨hc, cell_off7 w a i 1 _ (by omega) c1, cell_off7 w a i 2 _ (by omega) c2, cell_off7 w a i 3 _ (by omega) c3, cell_off7 w a i 4 _ (by omega) c4, cell_off7 w a i 5 _ (by omega) c5, cell_off7 w a i 6 _ (by omega) c6⟩, ?_, ?_⟩
      · show (s.size : Int) ≤ 9223372036854775807
        unfold maxLen at hs
        omega
      · have := wf_i64 w2
        exact this
    obtain ⟨f, hf⟩ := pick_fun key
    refine ⟨(List.range len).map f, ⟨some a, cap, by simpa using hone _ e0, fun _ => ⟨a, rfl, fun i e he => ?_⟩⟩, fun x hxm => ?_⟩
    · rw [List.getElem?_map] at he
      by_cases hi : i < len
      · rw [List.getElem?_range hi] at he
        simp only [Option.map_some, Option.some.injEq] at he
        rw [← he]
        exact (hf i hi).1
      · rw [List.getElem?_eq_none (by simp; omega)] at he
        cases he
    · obtain ⟨i, hi, rfl⟩ := List.mem_map.1 hxm
      exact (hf i (List.mem_range.1 hi)).2
set_option maxRecDepth 100000 in
theorem open_ents {H : Type} {enc : TypeId × Value → H} {w : World} {base b0 : Nat} {r : Reach} {held : Bool} {v : Value} {d : DataW H} {p : List MemPlace}
    (hv : Value.okWide Try.prog w r b0 51 v) (h : DataW.Trod enc Try.prog w base (fun _ => true) held 51 v d p) :
    ∃ es : List Ent, EnsArg w v es ∧ ∀ x ∈ es, x.typed :=
  open_ents_of (by
    intro z hz
    cases v <;> simp [Value.cells] at hz <;> first | exact hz | (simp only [Value.okWide, Try.underlying51, Cell.okWide] at hv; simp_all [Cell.ok])) h
set_option maxRecDepth 100000 in
theorem open_ent {H : Type} {enc : TypeId × Value → H} {w : World} {base b0 : Nat} {r : Reach} {held : Bool} {v : Value} {d : DataW H} {p : List MemPlace}
    (hv : Value.okWide Try.prog w r b0 86 v) (h : DataW.Trod enc Try.prog w base (fun _ => true) held 86 v d p) :
    ∃ x : Ent, v = x.v ∧ x.typed := by
  obtain ⟨cs, rfl, hsz⟩ := okWide_struct Try.underlying86 hv
  obtain ⟨fuel, hf⟩ := h
  obtain ⟨ys, n', hn', hy, hlen, hyl, hfl⟩ := DataW.trod_struct Try.underlying86 hf
  obtain ⟨l⟩ := cs
  have hl7 : l.length = 7 := hsz.trans (by kernel_rfl)
  obtain ⟨c0, c1, c2, c3, c4, c5, c6, rfl⟩ : ∃ c0 c1 c2 c3 c4 c5 c6, l = [c0, c1, c2, c3, c4, c5, c6] := by
    clear hv hsz hf hlen hfl
    rcases l with _ | ⟨c0, _ | ⟨c1, _ | ⟨c2, _ | ⟨c3, _ | ⟨c4, _ | ⟨c5, _ | ⟨c6, _ | ⟨c7, r⟩⟩⟩⟩⟩⟩⟩⟩ <;> simp at hl7
    exact ⟨c0, c1, c2, c3, c4, c5, c6, rfl⟩
  have hcs : Try.prog.cellsOf 9 = 1 := by kernel_rfl
  have hci : Try.prog.cellsOf 3 = 1 := by kernel_rfl
  have hyl7 : ys.length = 7 := hyl
  have ysome : ∀ i, i < 7 → ∃ y, ys[i]? = some y := fun i hi => ⟨ys[i]'(by omega), by simp⟩
  have gi : ∀ (i : Nat) (c : Value), i < 7 → DataW.trod enc Try.prog w base (fun _ => true) held n' 3 [c] = ys[i]? → ∃ z : Int, c = .int .i64 z ∧ (Lit.int .i64 z).wf = true := by
    intro i c hi ht
    obtain ⟨y, hy⟩ := ysome i hi
    rw [hy] at ht
    obtain ⟨z, e, -, hw⟩ := DataW.trod_int Try.underlying3 ht
    exact ⟨z, List.singleton_inj.1 e, hw⟩
  have h0 := hfl 0 ⟨"Node", 9, 0, false, "", "", 0⟩ rfl
  have h1 := hfl 1 ⟨"Boot", 3, 1, false, "", "", 16⟩ rfl
  have h2 := hfl 2 ⟨"Seq", 3, 2, false, "", "", 24⟩ rfl
  have h3 := hfl 3 ⟨"Tenant", 3, 3, false, "", "", 32⟩ rfl
  have h4 := hfl 4 ⟨"Hits", 3, 4, false, "", "", 40⟩ rfl
  have h5 := hfl 5 ⟨"Bytes", 3, 5, false, "", "", 48⟩ rfl
  have h6 := hfl 6 ⟨"At", 3, 6, false, "", "", 56⟩ rfl
  dsimp only at h0 h1 h2 h3 h4 h5 h6
  rw [hcs] at h0
  rw [hci] at h1 h2 h3 h4 h5 h6
  obtain ⟨y0, hy0⟩ := ysome 0 (by omega)
  rw [hy0] at h0
  obtain ⟨s, e, -, hs⟩ := DataW.trod_string (t := 9) Try.underlying9 h0
  obtain rfl : c0 = .string s := List.singleton_inj.1 e
  obtain ⟨z1, rfl, w1⟩ := gi 1 c1 (by omega) h1
  obtain ⟨z2, rfl, w2⟩ := gi 2 c2 (by omega) h2
  obtain ⟨z3, rfl, w3⟩ := gi 3 c3 (by omega) h3
  obtain ⟨z4, rfl, w4⟩ := gi 4 c4 (by omega) h4
  obtain ⟨z5, rfl, w5⟩ := gi 5 c5 (by omega) h5
  obtain ⟨z6, rfl, w6⟩ := gi 6 c6 (by omega) h6
  refine ⟨⟨s, z1, z2, z3, z4, z5, z6⟩, rfl, ?_, wf_i64 w2⟩
  show (s.size : Int) ≤ 9223372036854775807
  unfold maxLen at hs
  omega
end Go.Proofs.Ytepcnpnpjfdfmaa
