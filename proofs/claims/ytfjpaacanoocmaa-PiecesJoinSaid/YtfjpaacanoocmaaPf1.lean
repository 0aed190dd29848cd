/- Chapter 20: the reference's Merge of an ordered list is the program's; the reference's Held. -/
import Derived.Test.YtfjpaacanoocmaaPe9
import Derived.Test.YtfjpaacanoocmaaPe7
namespace Go.Proofs.Ytfjpaacanoocmaa
open Go.RowKit Go.Deep Go.Sort
theorem at9_all {rest : List (Nat × Nat)} {f : Nat} (h : ∀ x ∈ rest, x.1 < f) : at9 rest f = rest.length := by
  induction rest with
  | nil => rfl
  | cons y ys ih =>
    have := ih fun x hx => h x (by simp [hx])
    unfold at9 at this ⊢
    rw [List.takeWhile_cons_of_pos (by simpa using h y (by simp)), List.length_cons, this, List.length_cons]
theorem st9_old (r : Nat × Nat) : ∀ (ys acc : List (Nat × Nat)), (∀ x ∈ ys, x.2 < r.1) → ys.foldl st9 (acc, r) = (acc ++ ys, r)
  | [], acc, _ => by simp
  | y :: ys, acc, h => by
    have e : st9 (acc, r) y = (acc ++ [y], r) := by unfold st9; rw [if_pos (.inl (h y (by simp)))]
    rw [List.foldl_cons, e, st9_old r ys _ fun x hx => h x (by simp [hx])]
    simp
theorem ms9_facts (out : List (Nat × Nat)) (r : Nat × Nat) (hs : Sep out) (ho : Okr out) (hr : r.1 < r.2 ∧ r.2 ≤ 65536) (hle : ∀ x ∈ out, x.1 ≤ r.1) :
    ms9 out r = mgS out r ∧ at9 (in9 out r).1 (in9 out r).2.1 = (in9 out r).1.length := by
  have hnr : ¬ r.2 ≤ r.1 := by omega
  have key : at9 (in9 out r).1 (in9 out r).2.1 = (in9 out r).1.length ∧ (in9 out r).1 ++ [(in9 out r).2] = mgS out r := by
    rcases List.eq_nil_or_concat out with rfl | ⟨o', l, rfl⟩
    · exact ⟨rfl, rfl⟩
    · rw [List.concat_eq_append] at hs ho hle ⊢
      have hl := ho l (by simp)
      have hlr := hle l (by simp)
      have hs' : Sep o' ∧ ∀ x ∈ o', x.2 < l.1 := by
        have := List.pairwise_append.1 hs
        exact ⟨this.1, fun x hx => this.2.2 x hx l (by simp)⟩
      have e : in9 (o' ++ [l]) r = st9 (o', r) l := by
        unfold in9
        rw [List.foldl_append, st9_old r o' [] fun x hx => by have := hs'.2 x hx; omega]
        simp
      rw [e, mgS_concat]
      unfold st9
      by_cases h : r.1 ≤ l.2
      · rw [if_pos h, if_neg (by show ¬ (l.2 < r.1 ∨ r.2 < l.1); omega)]
        refine ⟨?_, ?_⟩
        · show at9 o' (min r.1 l.1) = o'.length
          exact at9_all fun x hx => by
            have h1 := hs'.2 x hx
            have h2 := ho x (by simp [hx])
            omega
        · show o' ++ [(min r.1 l.1, max r.2 l.2)] = _
          rw [show min r.1 l.1 = l.1 by omega, show max r.2 l.2 = max l.2 r.2 by omega]
      · rw [if_neg h, if_pos (by show l.2 < r.1 ∨ r.2 < l.1; omega)]
        refine ⟨?_, rfl⟩
        show at9 (o' ++ [l]) r.1 = (o' ++ [l]).length
        exact at9_all fun x hx => by
          have h2 := ho x hx
          rcases List.mem_append.1 hx with h3 | h3
          · have h1 := hs'.2 x h3
            omega
          · rw [List.mem_singleton] at h3
            rw [h3]; omega
  refine ⟨?_, key.1⟩
  unfold ms9
  rw [if_neg hnr]
  unfold ins9
  rw [key.1, List.take_length, List.drop_length, List.append_nil, key.2]
theorem fold9 : ∀ (ys out : List (Nat × Nat)), Sep out → Okr out → Okr ys → (∀ x ∈ out, ∀ y ∈ ys, x.1 ≤ y.1) → (ys.Pairwise fun x y => x.1 ≤ y.1) → ys.foldl ms9 out = ys.foldl mgS out
  | [], _, _, _, _, _, _ => rfl
  | y :: ys, out, hs, ho, hy, hle, hp => by
    obtain ⟨f1, f2, _, f4⟩ := mgS_facts out y hs ho (hy y (by simp)) (fun x hx => hle x hx y (by simp))
    have hp' := List.pairwise_cons.1 hp
    rw [List.foldl_cons, List.foldl_cons, (ms9_facts out y hs ho (hy y (by simp)) (fun x hx => hle x hx y (by simp))).1]
    exact fold9 ys (mgS out y) f1 f2 (fun r hr => hy r (by simp [hr])) (fun x hx z hz => f4 z.1 (hp'.1 z hz) x hx) hp'.2
theorem fold_le : ∀ (ys out : List (Nat × Nat)) (y : Nat), Sep out → Okr out → Okr ys → (∀ x ∈ out, ∀ y ∈ ys, x.1 ≤ y.1) → (ys.Pairwise fun x y => x.1 ≤ y.1) → (∀ x ∈ out, x.1 ≤ y) → (∀ x ∈ ys, x.1 ≤ y) → ∀ x ∈ ys.foldl mgS out, x.1 ≤ y
  | [], _, _, _, _, _, _, _, h, _ => h
  | r :: ys, out, y, hs, ho, hy, hle, hp, h1, h2 => by
    obtain ⟨f1, f2, _, f4⟩ := mgS_facts out r hs ho (hy r (by simp)) (fun x hx => hle x hx r (by simp))
    have hp' := List.pairwise_cons.1 hp
    exact fold_le ys (mgS out r) y f1 f2 (fun r hr => hy r (by simp [hr])) (fun x hx z hz => f4 z.1 (hp'.1 z hz) x hx) hp'.2 (fun x hx => f4 y (h2 r (by simp)) x hx) fun x hx => h2 x (by simp [hx])
theorem mg9_mg (xs : List (Nat × Nat)) (hx : Okr xs) (hp : xs.Pairwise fun x y => x.1 ≤ y.1) : mg9 xs = mg xs :=
  fold9 xs [] List.Pairwise.nil (fun r hr => by cases hr) hx (fun x hx => by cases hx) hp
theorem mg9_at (xs : List (Nat × Nat)) (hx : Okr xs) (hp : xs.Pairwise fun x y => x.1 ≤ y.1) : ∀ k r, xs[k]? = some r → ¬ r.2 ≤ r.1 → at9 (in9 (mg9 (xs.take k)) r).1 (in9 (mg9 (xs.take k)) r).2.1 = (in9 (mg9 (xs.take k)) r).1.length := by
  intro k r hk _
  have hx' : Okr (xs.take k) := fun x hm => hx x (List.mem_of_mem_take hm)
  have hp' : (xs.take k).Pairwise fun x y => x.1 ≤ y.1 := hp.sublist (List.take_sublist _ _)
  rw [mg9_mg _ hx' hp']
  obtain ⟨h1, h2, _⟩ := mg_facts _ hx' hp'
  refine (ms9_facts _ r h1 h2 (hx r (List.mem_of_getElem? hk)) ?_).2
  refine fold_le (xs.take k) [] r.1 List.Pairwise.nil (fun r hr => by cases hr) hx' (fun x hx => by cases hx) hp' (fun x hx => by cases hx) fun x hm => ?_
  obtain ⟨j, hj⟩ := List.getElem?_of_mem hm
  have hjl := (List.getElem?_eq_some_iff.1 hj).1
  rw [List.length_take] at hjl
  rw [List.getElem?_take_of_lt (by omega)] at hj
  obtain ⟨hj1, hj2⟩ := List.getElem?_eq_some_iff.1 hj
  obtain ⟨hk1, hk2⟩ := List.getElem?_eq_some_iff.1 hk
  rw [← hj2, ← hk2]
  exact List.pairwise_iff_getElem.1 hp j k hj1 hk1 (by omega)
set_option maxRecDepth 100000 in
set_option maxHeartbeats 4000000 in
theorem rheld_any {w : World} {d t len : Nat} {tag : ByteArray} {D : Nat → Option ByteArray} (h : RefAt w d t len D) (hl : len ≤ 65536) :
    Calls Try.prog 43 #[refV tag len d t] w fun e w' => ∃ v, e = .returned v ∧ Ext w w' ∧ Rng9 w' w.heap.size v (mg (hlK len D (npc len))) := by
  have hn : npc len ≤ 256 := by unfold npc; omega
  have HLN := Lib.hid (hlK_length len D (npc len))
  obtain ⟨w0, hw0⟩ : ∃ w0, w0 = w.alloc (.cells #[.string tag, .int .i64 len, .slice (some ⟨d, 0, none⟩) (npc len) (npc len), .slice (some ⟨t, 0, none⟩) (npc len) (npc len)] 29) := ⟨_, rfl⟩
  have X0 : Ext w w0 := by rw [hw0]; exact (Ext.refl w).alloc _
  have HR0 := Lib.hid (show RowB w0 w.heap.size 29 [.string tag, .int .i64 len, .slice (some ⟨d, 0, none⟩) (npc len) (npc len), .slice (some ⟨t, 0, none⟩) (npc len) (npc len)] by rw [hw0]; exact RowB.laid w _ _)
  have HH := Lib.hid (fun W (hW : Ext w W) i (hi : i < npc len) => show W.cell? ⟨t, i, none⟩ = some (.bool (D i).isSome) from hW.cell (h.there.cell hi))
  clear h
  have b3 := HR0.out.cell (j := 3) rfl
  go_enter Try.func43, Try.ntmps43
  go_upto_region 1 with fail
  rw [← hw0]
  clear hw0
  go_wp2_with fail
  clear b3
  go_loopw [3, 10] (fun v i wr => ∃ k : Nat, k ≤ npc len ∧ i = .int .i64 k ∧ Rng9 wr w0.heap.size v (hlK len D k) ∧ Ext w0 wr) (fun _ i _ => npc len - (intOf i).toNat)
  case atStart => exact ⟨0, by omega, rfl, World.ownsRow_nil _ _ _ _, Ext.refl _⟩
  case round =>
    obtain ⟨k, hk, rfl, hown, hX⟩ := hrel
    by_cases hlt : k < npc len
    · have hki : (k : Int) < (npc len : Int) := by omega
      have b1 := (HR0.out.ext hX).cell (j := 1) rfl
      have b3 := (HR0.out.ext hX).cell (j := 3) rfl
      have b4 := HH.out _ (X0.trans hX) k hlt
      have hsz := hX.size
      have HLK := Lib.hid (hlK_length len D k)
      have hk6 : k ≤ 256 := by omega
      have hkl : k * 256 < len := by unfold npc at hlt; omega
      have HP := Lib.hid (fun W => piece9_in k len hl hkl W)
      have HO := Lib.hid hown
      clear hown
      cases hD : (D k).isSome with
      | false =>
        rw [hD] at b4
        have hst := Lib.hid (show hlK len D (k + 1) = hlK len D k by show hlK len D k ++ _ = _; rw [if_neg (by rw [hD]; simp), List.append_nil])
        clear hD
        go_wp2_with fail
        go_roundw
        case rel => exact ⟨k + 1, by omega, by go_num, by rw [hst.out]; exact HO.out, hX⟩
        case measure => simp [intOf]; omega
      | true =>
        rw [hD] at b4
        have hst := Lib.hid (show hlK len D (k + 1) = hlK len D k ++ [(k * 256, pto k len)] by show hlK len D k ++ _ = _; rw [if_pos hD])
        clear hD hkl
        go_upto_region 7 with (go_at_call 37; refine (HP.out _).mono ?_; rintro e w1 ⟨rfl, hx⟩)
        obtain ⟨w2, hw2⟩ : ∃ w2, w2 = w1.alloc (.cells #[.int .i64 ((k : Int) * 256), .int .i64 (pto k len : Nat)] 67) := ⟨_, rfl⟩
        have hR2 : RowB w2 w1.heap.size 67 [.int .i64 ((k : Int) * 256), .int .i64 (pto k len : Nat)] := by rw [hw2]; exact RowB.laid _ _ _
        have X2 : Ext wr w2 := by rw [hw2]; exact hx.trans ((Ext.refl w1).alloc _)
        rw [← hw2]
        clear hw2
        have d0 := hR2.cell (j := 0) rfl
        have d1 := hR2.cell (j := 1) rfl
        have hsz2 : w0.heap.size ≤ w2.heap.size := Nat.le_trans hsz X2.size
        go_wp2_with (at_builtin; refine wpList_append_rng9 w2 rfl _ _ rfl w0.heap.size (k * 256) (pto k len) _ _ (HO.out.ext X2) (by simp) rfl rfl rfl rfl (by have := HLK.out; omega) hsz2 ?_)
        intro v' w3 hown' hb
        rw [← hst.out] at hown'
        go_wp2_with fail
        go_roundw
        case rel => exact ⟨k + 1, by omega, by go_num, hown', Below.trans (hX.trans X2) hb⟩
        case measure => simp [intOf]; omega
    · obtain rfl : k = npc len := by omega
      have HO := Lib.hid hown
      have HB := Lib.hid (Nat.le_trans X0.size hX.size)
      clear hown
      have HMG := Lib.hid (mg9_mg _ (hlK_ok D hl) (hlK_pw len D (npc len)))
      go_wp2_with (go_at_call 49; refine (merge9_any HO.out.rngIn (Nat.le_trans HLN.out (by omega)) (mg9_at _ (hlK_ok D hl) (hlK_pw len D _))).mono ?_; rintro e w' ⟨v', rfl, hx, ho'⟩)
      go_ret
      exact ⟨_, rfl, (X0.trans hX).trans hx, by rw [← HMG.out]; exact ho'.more HB.out⟩
end Go.Proofs.Ytfjpaacanoocmaa
