/- Chapter 23: package device: Erase. Chapter 23: package device: clones. Chapter 23: package device: Sync, Fail, New. Chapter 23: package device: Fail, New. -/
import Derived.Test.YtepigkjgjlibcaaGAE
namespace Go.Proofs.Ytepigkjgjlibcaa
open Go.RowKit Go.Deep Go.Proofs.Ytepigkjgjlibcaa.FL
set_option maxRecDepth 100000
theorem zip_set2 {α β : Type} (ps : List α) (bs : List β) (i : Nat) (a : α) (c : β) : (ps.zip bs).set i (a, c) = (ps.set i a).zip (bs.set i c) := by
  induction ps generalizing bs i with
  | nil => simp
  | cons p r ih =>
    cases bs with
    | nil => simp
    | cons b s =>
      cases i with
      | zero => rfl
      | succ i => simp only [List.zip_cons_cons, List.set_cons_succ, ih]
theorem nils_at {w : World} {q np : Nat} (h : RowB w q 42 (List.replicate np (.slice none 0 0))) : PgsAt w q (List.replicate np none) := by
  refine ⟨_, h, by simp, fun i v p hv hp => ?_⟩
  have h1 := List.eq_of_mem_replicate (List.mem_of_getElem? hv)
  have h2 := List.eq_of_mem_replicate (List.mem_of_getElem? hp)
  subst h1 h2
  exact rfl
theorem made_row (w : World) (z : Value) (n : Nat) (T : TypeId) : RowB (w.alloc (.cells (madeCells #[z] n) T)) w.heap.size T (List.replicate n z) := by
  have e : (List.replicate n z).toArray = madeCells #[z] n := by rw [← toList_madeCells_one, Array.toArray_toList]
  rw [← e]
  exact row_laid w T (List.replicate n z)
theorem BlksAt.erase {w w' : World} {g : Nat} {ps : List (Nat × Nat)} {np : Nat} {bs : List Blk} (h : BlksAt w g ps np bs) {i q : Nat} {b : Blk} (hb : bs[i]? = some b) (hm : Mod (fun x => x = g) w w')
    (hrow : RowB w' g 95 ((((ps.zip bs).flatMap blkCells).set (i * 2) (.slice (some ⟨q, 0, none⟩) np np)).set (i * 2 + 1) (.int .i64 (wrp (b.worn + 1)))))
    (hq : RowB w' q 42 (List.replicate np (.slice none 0 0))) (h8 : No8 w (fun x => x = g)) : BlksAt w' g (ps.set i (q, np)) np (bs.set i (eraseB b)) := by
  have hi := (List.getElem?_eq_some_iff.1 hb).1
  have hip : i < ps.length := by rw [h.len]; exact hi
  obtain ⟨pc, hpc⟩ : ∃ pc, ps[i]? = some pc := ⟨_, List.getElem?_eq_getElem hip⟩
  have hbn := (h.pgs i _ _ hpc hb).2.1
  have hz : (ps.zip bs)[i]? = some (pc, b) := by rw [List.getElem?_zip_eq_some]; exact ⟨hpc, hb⟩
  refine ⟨?_, by simp [h.len], fun j p c hp hc => ?_⟩
  · have e1 := flat_set blkCells 2 (fun _ => rfl) (ps.zip bs) i 0 (by decide) (.slice (some ⟨q, 0, none⟩) np np) (pc, b) ((q, np), b) hz (by simp [blkCells, hbn])
    rw [Nat.add_zero] at e1
    have e2 := flat_set blkCells 2 (fun _ => rfl) ((ps.zip bs).set i ((q, np), b)) i 1 (by decide) (.int .i64 (wrp (b.worn + 1))) ((q, np), b) ((q, np), eraseB b) (by rw [List.getElem?_set_self (by rw [List.length_zip]; omega)]) (by simp [blkCells, eraseB])
    rw [e1, e2, List.set_set, zip_set2] at hrow
    exact hrow
  · by_cases hji : j = i
    · subst hji
      rw [List.getElem?_set_self hip] at hp
      rw [List.getElem?_set_self hi] at hc
      cases hp
      cases hc
      refine ⟨?_, by simp [eraseB, hbn], Nat.le_refl _⟩
      unfold eraseB
      simp only [hbn]
      exact nils_at hq
    · rw [List.getElem?_set_ne (Ne.symm hji)] at hp hc
      obtain ⟨a1, a2⟩ := h.pgs j p c hp hc
      exact ⟨a1.mod hm h8 (fun e => by
        obtain ⟨vs, hvs, -⟩ := a1
        exact hvs.apart h.row (by decide) e), a2⟩
theorem nodup_set {l : List (Nat × Nat)} {m : List (Nat × Nat)} (h : ((l ++ m).map (·.1)).Nodup) (i : Nat) (hi : i < l.length) (q c : Nat) (hq : ∀ p ∈ l ++ m, p.1 ≠ q) : ((l.set i (q, c) ++ m).map (·.1)).Nodup := by
  have e : ((l.set i (q, c) ++ m).map (·.1)) = ((l ++ m).map (·.1)).set i q := by rw [← List.set_append_left _ _ hi, List.map_set]
  rw [e]
  have hm : ∀ x ∈ (l ++ m).map (·.1), x ≠ q := by
    intro x hx
    obtain ⟨p, hp, rfl⟩ := List.mem_map.1 hx
    exact hq p hp
  generalize (l ++ m).map (·.1) = L at h hm
  unfold List.Nodup at h ⊢
  rw [List.pairwise_iff_getElem] at h ⊢
  intro a b ha hb hab
  rw [List.length_set] at ha hb
  rw [List.getElem_set, List.getElem_set]
  split
  · split
    · omega
    · exact fun e => hm _ (List.getElem_mem _) e.symm
  · split
    · exact fun e => hm _ (List.getElem_mem _) e
    · exact h a b ha hb hab
theorem DevAtF.erased {w w' : World} {S : Nat → Prop} {d : Nat} {G : DevF} {D : Dev} (h : DevAtF w S d G D) {i q : Nat} {b : Blk} (hb : D.now[i]? = some b) (hm : Mod (fun x => x = G.gn) w w')
    (hrow : RowB w' G.gn 95 ((((G.pn.zip D.now).flatMap blkCells).set (i * 2) (.slice (some ⟨q, 0, none⟩) D.npages D.npages)).set (i * 2 + 1) (.int .i64 (wrp (b.worn + 1)))))
    (hq : RowB w' q 42 (List.replicate D.npages (.slice none 0 0))) (hqn : w.heap.size ≤ q) : DevAtF w' (fun x => S x ∨ x = q) d { G with pn := G.pn.set i (q, D.npages) } { D with now := D.now.set i (eraseB b) } := by
  have h8 : No8 w (fun x => x = G.gn) := no8_row h.now.row (by decide)
  have hnp := npages_set (D := D) (c := eraseB b) hb (by simp [eraseB])
  have hi := (List.getElem?_eq_some_iff.1 hb).1
  refine { row := ?_, dur := ?_, now := ?_, pend := ?_, nodup := ?_, gne := h.gne, inS := ⟨.inl h.inS.1, .inl h.inS.2.1, .inl h.inS.2.2.1, fun p hp => ?_, fun x hx => .inl (h.inS.2.2.2.2 x hx)⟩, ty := ?_, lens := by rw [List.length_set]; exact h.lens, nb := by rw [List.length_set]; exact h.nb, np := by rw [hnp]; exact h.np, left := h.left, ops := ?_ }
  · have h1 := hm.rowB h.row (h.row.apart h.now.row (by decide))
    simpa using h1
  · rw [hnp]
    exact h.dur.mod hm h8 h.gne (fun p hp e => by
      obtain ⟨vs, hvs⟩ := h.dur.prow hp
      exact hvs.apart h.now.row (by decide) e)
  · rw [hnp]
    exact h.now.erase hb hm hrow hq h8
  · exact h.pend.mod hm h8 (fun y hy e => h.pend.ne hy h.now.row (by decide) e)
  · refine nodup_set h.nodup i (by rw [h.now.len]; exact hi) q _ (fun p hp e => ?_)
    have := Typed.lt h.ty (h.inS.2.2.2.1 p hp)
    omega
  · rcases List.mem_append.1 hp with hp | hp
    · rcases List.mem_or_eq_of_mem_set hp with hp | rfl
      · exact .inl (h.inS.2.2.2.1 p (List.mem_append_left _ hp))
      · exact .inr rfl
    · exact .inl (h.inS.2.2.2.1 p (List.mem_append_right _ hp))
  · rintro x (hx | rfl)
    · by_cases hxg : x = G.gn
      · subst hxg; exact row_typed hrow (by decide)
      · obtain ⟨C, T, fr, h1, h2⟩ := h.ty x hx
        exact ⟨C, T, fr, (hm.block x (Typed.lt h.ty hx) hxg).trans h1, h2⟩
    · exact row_typed hq (by decide)
  · intro o ho
    rw [hnp]
    simp only [List.length_set]
    exact h.ops o ho
set_option maxHeartbeats 4000000 in
/-- erase of a block of the device -/
theorem erase_any {w : World} {S : Nat → Prop} {d : Nat} {G : DevF} {D : Dev} (h : DevAtF w S d G D) {i : Nat} {b : Blk} (hb : D.now[i]? = some b) :
    Calls Try.prog 52 #[.pointer (some ⟨G.gn, i * 2, none⟩)] w fun e w' => e = .returned (.tuple #[]) ∧ DevAtF w' (fun x => S x ∨ x = w.heap.size) d { G with pn := G.pn.set i (w.heap.size, D.npages) } { D with now := D.now.set i (eraseB b) } ∧ Mod (fun x => x = G.gn) w w' := by
  have H := Lib.hid h
  have HB := Lib.hid hb
  obtain ⟨p, pc, hpn, e0, e1, e2, e3, e4⟩ := h.now.cells hb
  have hnp := h.np
  obtain ⟨np, hnpe⟩ : ∃ np, np = D.npages := ⟨_, rfl⟩
  have HNP := Lib.hid hnpe
  rw [← hnpe] at e0 hnp
  have hmk := fun W => run_make_row' (P := Try.prog) 52 42 (.slice none 0 0) 24 Try.underlying52 (by kernel_rfl) rfl .i64 .i64 np (by omega) (by omega) W
  have XA : Hid (Ext w (w.alloc (.cells (madeCells #[.slice none 0 0] np) 42))) := Lib.hid ((Ext.refl w).alloc _)
  have HQ : Hid (RowB (w.alloc (.cells (madeCells #[.slice none 0 0] np) 42)) w.heap.size 42 (List.replicate np (.slice none 0 0))) := Lib.hid (made_row w _ np _)
  have HR0 := Lib.hid (h.now.row.ext XA.out)
  have HLN := Lib.hid (show i * 2 + 1 < ((G.pn.zip D.now).flatMap blkCells).length by
    rw [flat_len blkCells 2 (fun _ => rfl), List.length_zip, h.now.len]
    have := (List.getElem?_eq_some_iff.1 hb).1
    omega)
  have z0 := XA.out.cell e0
  have z1 := XA.out.cell e1
  have y0 := HR0.out.frozen (j := i * 2) (by have := HLN.out; omega)
  have y1 := HR0.out.frozen (j := i * 2 + 1) HLN.out
  have hww : IntKind.i64.wrap (b.worn + 1) = wrp (b.worn + 1) := IntKind.wrap_i64 _
  obtain ⟨wn, hwn⟩ : ∃ wn, wn = wrp (b.worn + 1) := ⟨_, rfl⟩
  have HWN := Lib.hid hwn
  rw [← hwn] at hww
  have HM1 := Lib.hid (mod_set (w.alloc (.cells (madeCells #[.slice none 0 0] np) 42)) G.gn (i * 2) (.slice (some ⟨w.heap.size, 0, none⟩) np np))
  have HM2 := Lib.hid (mod_set ((w.alloc (.cells (madeCells #[.slice none 0 0] np) 42)).setCell ⟨G.gn, i * 2, none⟩ (.slice (some ⟨w.heap.size, 0, none⟩) np np)) G.gn (i * 2 + 1) (.int .i64 wn))
  have HRW := Lib.hid ((HR0.out.set (i * 2) (.slice (some ⟨w.heap.size, 0, none⟩) np np) (by have := HLN.out; omega)).set (i * 2 + 1) (.int .i64 wn) (by rw [List.length_set]; exact HLN.out))
  clear h hb e1 e2 e3 e4 hnp hnpe hpn hwn
  go_enter Try.func52, Try.ntmps52
  go_wp2_with fail
  have HMW := Lib.hid (((Mod.of_ext (fun x => x = G.gn) XA.out).trans HM1.out).trans HM2.out)
  have hrow := HRW.out
  have hq := HM2.out.rowB (HM1.out.rowB HQ.out (fun e => HQ.out.apart HR0.out (by decide) e)) (fun e => HQ.out.apart HR0.out (by decide) e)
  rw [HNP.out] at hrow hq
  rw [HWN.out] at hrow
  go_end0
  refine ⟨rfl, ?_, HMW.out⟩
  have h9 := H.out.erased HB.out (by rw [← HNP.out, ← HWN.out]; exact HMW.out) hrow (by rw [← HWN.out]; exact hq) (Nat.le_refl _)
  rw [← HNP.out, ← HWN.out] at h9
  rw [← HNP.out]
  exact h9
theorem eraseD_big {D : Dev} {i : Int} (h : i < 0 ∨ D.now.length ≤ i) : eraseD D i = (1, D) := by
  unfold eraseD
  rw [if_pos h]
theorem eraseD_down {D : Dev} {i : Nat} {b : Blk} (hb : D.now[i]? = some b) (hp : (powerF D).1 = false) : eraseD D i = (11, (powerF D).2) := by
  have hi := (List.getElem?_eq_some_iff.1 hb).1
  unfold eraseD
  rw [if_neg (by omega)]
  rcases h : powerF D with ⟨x, d1⟩
  rw [h] at hp
  simp only at hp
  subst hp
  rfl
theorem eraseD_ok {D : Dev} {i : Nat} {b : Blk} (hb : D.now[i]? = some b) (hp : (powerF D).1 = true) :
    eraseD D i = (0, { (powerF D).2 with now := (powerF D).2.now.set i (eraseB b), pending := (powerF D).2.pending ++ [⟨i, 0, none⟩] }) := by
  have hi := (List.getElem?_eq_some_iff.1 hb).1
  unfold eraseD
  rw [if_neg (by omega)]
  have hs := (powerF_same (D := D)).1
  rcases h : powerF D with ⟨x, d1⟩
  rw [h] at hp hs
  simp only at hp hs
  subst hp
  simp only [Int.toNat_natCast]
  rw [setB_at (by rw [hs]; exact hb)]
set_option maxHeartbeats 4000000 in
theorem deverase_any {w : World} {S : Nat → Prop} {d : Nat} {G : DevF} {D : Dev} (h : DevAtF w S d G D) {i : Nat} {b : Blk} (hb : D.now[i]? = some b) (hpl : D.pending.length ≤ 1000000) :
    Calls Try.prog 35 #[.pointer (some ⟨d, 0, none⟩), .int .i64 i] w fun e w' => e = .returned (codeV (eraseD D i).1) ∧ DevStep w w' S d (eraseD D i).2 := by
  have hi := (List.getElem?_eq_some_iff.1 hb).1
  have hii : (i : Int) < (D.now.length : Int) := by omega
  have H := Lib.hid h
  have HB := Lib.hid hb
  have HC := Lib.hid (check_ok h i (by omega))
  have HPW0 := Lib.hid (power_any h)
  have HE0 := Lib.hid (eraseD_down hb)
  have HE1 := Lib.hid (eraseD_ok hb)
  clear h hb
  cases hpw : (powerF D).1 with
  | false =>
    have HPW := Lib.hid hpw
    clear hpw
    go_enter Try.func35, Try.ntmps35
    go_wp2_with (first
      | (go_at_call 49; refine HPW0.out.mono ?_; rintro e w2 ⟨rfl, hd2, hm2⟩; rw [HPW.out])
      | (go_at_call 54; refine HC.out.mono ?_; rintro e w1 ⟨rfl, rfl⟩))
    go_ret
    rw [HE0.out HPW.out]
    exact ⟨rfl, S, G, hd2, hm2.mono (fun x _ hx => by rw [show x = d from hx]; exact H.out.inS.1), fun x hx => .inl hx⟩
  | true =>
    have HPW := Lib.hid hpw
    clear hpw
    have HS := Lib.hid (powerF_same (D := D))
    have HB1 : Hid ((powerF D).2.now[i]? = some b) := Lib.hid (by rw [HS.out.1]; exact HB.out)
    go_enter Try.func35, Try.ntmps35
    go_upto_region 6 with (first
      | (go_at_call 49; refine HPW0.out.mono ?_; rintro e w2 ⟨rfl, hd2, hm2⟩; rw [HPW.out])
      | (go_at_call 54; refine HC.out.mono ?_; rintro e w1 ⟨rfl, rfl⟩))
    have HD2 := Lib.hid hd2
    have HM2 := Lib.hid hm2
    clear hd2 hm2
    obtain ⟨D1, hD1⟩ : ∃ D1, D1 = (powerF D).2 := ⟨_, rfl⟩
    rw [← hD1] at HD2 HS HE1 HB1
    have d1 := HD2.out.row.cell (j := 1) rfl
    rw [HS.out.1] at d1
    clear hD1
    go_upto_region 7 with (go_at_call 52; refine (erase_any HD2.out HB1.out).mono ?_; rintro e w3 ⟨rfl, hd3, hm3⟩)
    have HD3 := Lib.hid hd3
    have HM3 := Lib.hid hm3
    clear hd3 hm3 d1
    have HD5 := Lib.hid (HD3.out.ext ((Ext.refl w3).alloc (.cells #[.int .i64 i, .int .i64 0, .slice none 0 0] 103)))
    have hpend := HD5.out.pend
    obtain ⟨rows, hr1, hr2, hr3⟩ := hpend
    have HR1 := Lib.hid hr1
    have HR2 := Lib.hid hr2
    have HR3 := Lib.hid hr3
    have HRL := Lib.hid (show rows.length ≤ 1000000 by rw [hr1]; rw [show ({ D1 with now := D1.now.set i (eraseB b) } : Dev).pending = D1.pending from rfl, HS.out.2.1]; exact hpl)
    have HRD := Lib.hid (reads_laid w3 103 [.int .i64 i, .int .i64 0, .slice none 0 0] 3 1 rfl)
    obtain ⟨i0, hi0, hz0, hz1, hz2⟩ := info_parts oper_info23
    have c2 := HD3.out.row.cell (j := 2) rfl
    clear hr1 hr2 hr3
    go_wp2_with (at_builtin; refine wpList_append_any _ rfl (.tmp 27) (.tmp 30) 97 rfl 0 103 i0 _ 3 40 Try.underlying97 hi0 hz0 hz1 hz2 rfl (by decide) G.pv rows.length rows.flatten rfl HR2.out _ (some ⟨w3.heap.size, 0, none⟩) 1 1 _ rfl HRD.out (by simp [Value.oneCell']) (by have := HRL.out; simp only [maxLen]; omega) (by have := HRL.out; omega) (Nat.zero_le _) ?_; intro v6 w6 ho6 hg6 hb6; obtain ⟨A6, c6, rfl⟩ := own_slice ho6; have hrw6 := (grown_mod hg6).rowB HD5.out.row (fun e => HD5.out.pend.ne e HD5.out.row (by decide) rfl); have u1 := hrw6.cell (j := 2) rfl; have u2 := hrw6.frozen (j := 2) (by simp))
    have HOP := Lib.hid (OpsAt.push (o := ⟨i, 0, none⟩) HR1.out HR3.out (grown_mod hg6) HD5.out.pend.no8 (u := .slice none 0 0) rfl ho6)
    obtain ⟨hd7, hm7⟩ := HD5.out.pushed (grown_mod hg6) HOP.out ⟨by simp only [List.length_set]; rw [HS.out.1]; exact hi, HD5.out.np.1⟩
    go_ret
    rw [HE1.out HPW.out]
    have hm4 : Mod S w (w3.alloc (.cells #[.int .i64 i, .int .i64 0, .slice none 0 0] 103)) := by
      refine ((HM2.out.mono (fun x _ hx => by rw [show x = d from hx]; exact H.out.inS.1)).then HM3.out (fun x hx => .inl (by rw [hx]; exact H.out.inS.2.2.1))).alloc _
    have hw2 := HM2.out.size
    refine ⟨rfl, _, _, hd7, hm4.then hm7 (fun x hx => hx.imp id (fun e => by rw [e]; exact hw2)), fun x hx => ?_⟩
    rcases hx with ⟨hx, -⟩ | hx
    · exact hx.imp id (fun e => by rw [e]; exact hw2)
    · rcases hb6 with e | e
      · exact .inl (H.out.inS.2.2.2.2 x (e ▸ hx))
      · right
        have e2 : some (w3.alloc (.cells #[.int .i64 i, .int .i64 0, .slice none 0 0] 103)).heap.size = some x := by rw [← e]; exact hx
        have := hm4.size
        cases e2
        exact this
end Go.Proofs.Ytepigkjgjlibcaa
namespace Go.Proofs.Ytepigkjgjlibcaa
open Go.RowKit Go.Deep Go.Proofs.Ytepigkjgjlibcaa.FL
set_option maxRecDepth 100000
theorem bytes_info23 : (Try.prog.info? 42).map (fun i => (i.zero, i.size, i.bytes)) = some (some (.slice none 0 0), 1, 24) := by kernel_rfl
theorem own_row {w : World} {B : Nat} {e : TypeId} {k n g c : Nat} {xs : List Value} (h : w.ownsRow B e k (.slice (some ⟨g, 0, none⟩) n c) n xs) : RowB w g e xs ∧ B ≤ g ∧ n ≤ c := by
  rcases h.2 with ⟨e2, -⟩ | ⟨g', cap, cur, e2, hb, hg, hn, -, -, ht⟩
  · cases e2
  · cases e2
    exact ⟨⟨cur, (0, 0), cur.toList.drop (n * k), hg, fun j h1 h2 => by simp at h2, by rw [← ht, List.take_append_drop]⟩, hb, hn⟩
theorem own_addr {w : World} {B : Nat} {e : TypeId} {k n : Nat} {v : Value} {xs : List Value} (h : w.ownsRow B e k v n xs) (hn : 0 < n) : ∃ g c, v = .slice (some ⟨g, 0, none⟩) n c := by
  rcases h.2 with ⟨e2, e3⟩ | ⟨g', cap, cur, e2, -⟩
  · omega
  · exact ⟨_, _, e2⟩
theorem PgV.one {w : World} {v : Value} {p : Option Bs} (h : PgV w v p) : v.oneCell' = true := by
  cases p with
  | none => rw [show v = .slice none 0 0 from h]; rfl
  | some x => obtain ⟨g, o, c, rfl, -⟩ := h.some_; rfl
theorem bs_ownb (w : World) (e : TypeId) : World.ownsRow (w.alloc (.cells #[] e)) w.heap.size e 1 (.slice (some ⟨w.heap.size, 0, none⟩) 0 0) 0 [] :=
  ⟨rfl, .inr ⟨w.heap.size, 0, #[], rfl, Nat.le_refl _, heap_alloc_new w _, Nat.le_refl _, by simp only [maxLen]; omega, rfl, rfl⟩⟩
set_option maxHeartbeats 4000000 in
theorem clonep_any {w : World} {p n cap : Nat} {l : List (Option Bs)} (h : PgsAt w p l) (hn : n = l.length) (h0 : 1 ≤ n) (hl : n ≤ 32) :
    Calls Try.prog 66 #[.slice (some ⟨p, 0, none⟩) n cap] w fun e w' => ∃ q c, e = .returned (.slice (some ⟨q, 0, none⟩) n c) ∧ n ≤ c ∧ w.heap.size ≤ q ∧ Ext w w' ∧ PgsAt w' q l := by
  obtain ⟨vs, hv1, hv2, hv3⟩ := h
  have hb : ∀ W : World, (binOp .eql 52 (.slice (some ⟨p, 0, none⟩) n cap) (.slice none 0 0)).run Try.prog W = .ok (.bool false) W := fun W => by kernel_rfl
  obtain ⟨i0, hi0, hz0, hz1, hz2⟩ := info_parts bytes_info23
  have XA := Lib.hid ((Ext.refl w).alloc (.cells #[] 42))
  have HO := Lib.hid (bs_ownb w 42)
  have HRD : Hid (Reads (w.alloc (.cells #[] 42)) (w.heap.size + 1) 1 (some ⟨p, 0, none⟩) n vs) := Lib.hid ⟨by omega, fun _ => ⟨_, rfl, by have := hv1.lt; simp; omega, fun j u hj => by
    rw [show (⟨p, 0, none⟩ : Addr).add j = ⟨p, j, none⟩ by unfold Addr.add; split <;> simp_all]
    exact XA.out.cell (hv1.cell hj)⟩⟩
  have HV := Lib.hid (And.intro hv2 hv3)
  have HN := Lib.hid hn
  have HH := Lib.hid (And.intro h0 hl)
  clear hv2 hv3 hn h0 hl
  go_enter Try.func66, Try.ntmps66
  go_wp2_with (at_builtin; refine wpList_append_any _ rfl (.tmp 5) (.tmp 6) 52 rfl w.heap.size 42 i0 _ 1 24 Try.underlying52 hi0 hz0 hz1 hz2 rfl (by decide) _ 0 [] rfl HO.out _ (some ⟨p, 0, none⟩) n cap vs rfl HRD.out (fun u hu => by
      obtain ⟨j, hj⟩ := List.getElem?_of_mem hu
      exact (HV.out.2 j u _ hj (List.getElem?_eq_getElem (by rw [← HV.out.1]; exact (List.getElem?_eq_some_iff.1 hj).1))).one) (by have := HH.out; simp only [maxLen]; omega) (by have := HH.out; omega) (by simp) ?_; intro v6 w6 ho6 hg6 hb6)
  go_ret
  rw [Nat.zero_add, List.nil_append] at ho6
  obtain ⟨q, c, rfl⟩ := own_addr ho6 (by have := HH.out; omega)
  obtain ⟨r1, r2, r3⟩ := own_row ho6
  have X6 : Ext w w6 := Below.grown XA.out hg6 (by simp) (fun k hk => by cases hk; exact Nat.le_refl _)
  exact ⟨q, c, rfl, r3, r2, X6, vs, r1, HV.out.1, fun i v x hv hx => (HV.out.2 i v x hv hx).mod (Mod.of_ext (fun _ => False) X6) (no8_false w)⟩
def c2 (p : Value × Value) : List Value := [p.1, p.2]
theorem madeB (n : Nat) : (madeCells #[.slice none 0 0, .int .i64 0] (n * 2)).toList = (List.replicate n ((.slice none 0 0, .int .i64 0) : Value × Value)).flatMap c2 := by
  apply List.ext_getElem?
  intro j
  by_cases hj : j < n * 2
  · have hd : j = j / 2 * 2 + j % 2 := by omega
    have e := flat_get c2 2 (fun _ => rfl) (List.replicate n ((.slice none 0 0, .int .i64 0) : Value × Value)) (j / 2) (j % 2) (Nat.mod_lt _ (by decide))
    rw [← hd] at e
    rw [e, List.getElem?_replicate, if_pos (by omega)]
    unfold madeCells
    rw [Array.getElem?_toList, Array.getElem?_map, Array.getElem?_range, if_pos hj]
    rcases Nat.mod_two_eq_zero_or_one j with h | h <;> simp [h, c2]
  · rw [List.getElem?_eq_none (by rw [Array.length_toList, size_madeCells]; omega), List.getElem?_eq_none (by rw [flat_len c2 2 (fun _ => rfl), List.length_replicate]; omega)]
theorem block_info23 : (Try.prog.info? 95).map (fun i => (i.zero, i.size, i.bytes)) = some (some (.agg #[.slice none 0 0, .int .i64 0]), 2, 32) := by kernel_rfl
/-- what has been cloned so far -/
structure ClonesTo (w wr : World) (q np k : Nat) (bs : List Blk) (L : List (Value × Value)) (pq : List (Nat × Nat)) : Prop where
  ext : Ext w wr
  row : RowB wr q 95 (L.flatMap c2)
  len : L.length = bs.length
  plen : pq.length = k
  done : ∀ (j : Nat) (p : Nat × Nat) (b : Blk), pq[j]? = some p → bs[j]? = some b → L[j]? = some (.slice (some ⟨p.1, 0, none⟩) np p.2, .int .i64 b.worn) ∧ PgsAt wr p.1 b.pages ∧ np ≤ p.2 ∧ w.heap.size < p.1
  nodup : (pq.map (·.1)).Nodup
  lt : ∀ p ∈ pq, p.1 < wr.heap.size
set_option maxHeartbeats 4000000 in
theorem clones_any {w : World} {g np : Nat} {ps : List (Nat × Nat)} {bs : List Blk} (h : BlksAt w g ps np bs) (hnp : 1 ≤ np ∧ np ≤ 32) (hbs : 1 ≤ bs.length ∧ bs.length ≤ 64) :
    Calls Try.prog 46 #[.slice (some ⟨g, 0, none⟩) bs.length bs.length] w fun e w' => e = .returned (.slice (some ⟨w.heap.size, 0, none⟩) bs.length bs.length) ∧ Ext w w' ∧ ∃ pq, BlksAt w' w.heap.size pq np bs ∧ (pq.map (·.1)).Nodup ∧ ∀ p ∈ pq, w.heap.size < p.1 ∧ p.1 < w'.heap.size := by
  obtain ⟨n, hn⟩ : ∃ n, n = bs.length := ⟨_, rfl⟩
  have HN := Lib.hid hn
  rw [← hn] at hbs ⊢
  obtain ⟨i0, hi0, hz0, hz1, hz2⟩ := info_parts block_info23
  have hmk := run_make (P := Try.prog) w 96 95 i0 _ Try.underlying96 hi0 hz0 .i64 .i64 n n (by omega) (by omega) (by rw [hz2]; omega) (by omega)
  rw [hz1, Int.toNat_natCast] at hmk
  obtain ⟨wm, hwm⟩ : ∃ x, x = w.alloc (.cells (madeCells #[.slice none 0 0, .int .i64 0] (n * 2)) 95) := ⟨_, rfl⟩
  have hmk2 : (Instr.makeSlice 96 (.int .i64 n) (.int .i64 n)).run Try.prog w = .ok (.slice (some ⟨w.heap.size, 0, none⟩) n n) wm := by rw [hwm]; exact hmk
  have XM : Hid (Ext w wm) := Lib.hid (by rw [hwm]; exact (Ext.refl w).alloc _)
  have HRM : Hid (RowB wm w.heap.size 95 ((List.replicate n ((.slice none 0 0, .int .i64 0) : Value × Value)).flatMap c2)) := Lib.hid (by
    have e : ((List.replicate n ((.slice none 0 0, .int .i64 0) : Value × Value)).flatMap c2).toArray = madeCells #[.slice none 0 0, .int .i64 0] (n * 2) := by rw [← madeB, Array.toArray_toList]
    rw [hwm, ← e]
    exact row_laid w _ _)
  have H := Lib.hid h
  have HB := Lib.hid (And.intro hnp hbs)
  clear h hn hmk hi0 hz0 hz1 hz2 hwm hnp hbs
  go_enter Try.func46, Try.ntmps46
  go_upto_region 2 with fail
  clear hmk2
  go_wp2_with fail
  go_loopw [11] (fun i wr => ∃ k : Nat, i = .int .i64 k ∧ k ≤ n ∧ Hid (∃ L pq, ClonesTo w wr w.heap.size np k bs L pq)) (fun i _ => n - (intOf i).toNat)
  case atStart =>
    exact ⟨0, rfl, by omega, Lib.hid ⟨_, [], XM.out, HRM.out, by rw [List.length_replicate]; exact HN.out, rfl, fun j p b hp => by simp at hp, List.nodup_nil, fun p hp => by simp at hp⟩⟩
  case round =>
    obtain ⟨k, rfl, hk, hW⟩ := hrel
    have hn64 := HB.out.2.2
    by_cases hkn : k < n
    · have hki : (k : Int) < (n : Int) := by omega
      obtain ⟨L, pq, hC⟩ := hW.out
      have HC := Lib.hid hC
      obtain ⟨b, hb⟩ : ∃ b, bs[k]? = some b := ⟨_, List.getElem?_eq_getElem (by rw [← HN.out]; exact hkn)⟩
      have HB1 := Lib.hid hb
      obtain ⟨p, cap, hpc, e0, e1, e2, e3, e4⟩ := H.out.cells hb
      have l0 := hC.ext.cell e0
      have l1 := hC.ext.cell e1
      have HE2 := Lib.hid (And.intro e2 (And.intro e3 e4))
      clear hC hb hpc e0 e1 e2 e3 e4 hW
      go_upto_region 5 with fail
      obtain ⟨wb, hwb⟩ : ∃ x, x = wr.alloc (.cells #[.slice (some ⟨p, 0, none⟩) np cap, .int .i64 b.worn] 95) := ⟨_, rfl⟩
      have XB : Hid (Ext wr wb) := Lib.hid (by rw [hwb]; exact (Ext.refl wr).alloc _)
      have HRB : Hid (RowB wb wr.heap.size 95 [.slice (some ⟨p, 0, none⟩) np cap, .int .i64 b.worn]) := Lib.hid (by rw [hwb]; exact row_laid wr _ _)
      rw [← hwb]
      clear hwb l0 l1
      have XD := Lib.hid (show Mod (fun x => x = w.heap.size) wb wb.drew from Mod.of_ext _ (Ext.refl _).drew)
      have HLT := Lib.hid (show w.heap.size < wr.heap.size from HC.out.row.lt)
      obtain ⟨⟨y0, y1⟩, hy⟩ : ∃ y, L[k]? = some y := ⟨_, List.getElem?_eq_getElem (by rw [HC.out.len, ← HN.out]; exact hkn)⟩
      have HY := Lib.hid hy
      have HRL := Lib.hid (show k * 2 + 1 < (L.flatMap c2).length by rw [flat_len c2 2 (fun _ => rfl), HC.out.len, ← HN.out]; omega)
      have HCL := Lib.hid (fun W (hX : Ext wb W) => clonep_any (cap := cap) ((HE2.out.1.mod (Mod.of_ext (fun _ => False) (HC.out.ext.trans (XB.out.trans hX))) (no8_false w) (fun h => h))) HE2.out.2.1.symm HB.out.1.1 HB.out.1.2)
      clear hy
      as_aux_lemma =>
      refine wp_region_C (C := fun W => Mod (fun x => x = w.heap.size) wb W) (by kernel_rfl) ?_
      refine qC_take (i := 0) (s := some 16) (v := ?v1) rfl rfl (by kernel_rfl) (by kernel_rfl) (by kernel_rfl) (fun _ _ _ h => h) XD.out (by kernel_rfl) ?hy1 ?h1
      case hy1 => intro W hW; have h9 := HLT.out; have b0 := hW.cell (HRB.out.cell (j := 0) rfl) (by show ¬ _ = _; simp only; omega); have b1 := hW.cell (HRB.out.cell (j := 1) rfl) (by show ¬ _ = _; simp only; omega); go_simp; exact rfl
      try simp only [Act.put, List.setIfInBounds_toArray, List.set_cons_succ, List.set_cons_zero]
      refine qC_take (i := 1) (s := some 17) (v := ?v2) rfl rfl (by kernel_rfl) (by kernel_rfl) (by kernel_rfl) (fun _ _ _ h => h) XD.out (by kernel_rfl) ?hy2 ?h2
      case hy2 => intro W hW; have h9 := HLT.out; have b0 := hW.cell (HRB.out.cell (j := 0) rfl) (by show ¬ _ = _; simp only; omega); have b1 := hW.cell (HRB.out.cell (j := 1) rfl) (by show ¬ _ = _; simp only; omega); go_simp; exact rfl
      try simp only [Act.put, List.setIfInBounds_toArray, List.set_cons_succ, List.set_cons_zero]
      refine qC_take (i := 2) (s := some 18) (v := ?v3) rfl rfl (by kernel_rfl) (by kernel_rfl) (by kernel_rfl) (fun _ _ _ h => h) XD.out (by kernel_rfl) ?hy3 ?h3
      case hy3 => intro W hW; have h9 := HLT.out; have b0 := hW.cell (HRB.out.cell (j := 0) rfl) (by show ¬ _ = _; simp only; omega); have b1 := hW.cell (HRB.out.cell (j := 1) rfl) (by show ¬ _ = _; simp only; omega); go_simp; exact rfl
      try simp only [Act.put, List.setIfInBounds_toArray, List.set_cons_succ, List.set_cons_zero]
      refine qC_take (i := 5) (s := some 21) (v := ?v4) rfl rfl (by kernel_rfl) (by kernel_rfl) (by kernel_rfl) (fun _ _ _ h => h) XD.out (by kernel_rfl) ?hy4 ?h4
      case hy4 => intro W hW; have h9 := HLT.out; have b0 := hW.cell (HRB.out.cell (j := 0) rfl) (by show ¬ _ = _; simp only; omega); have b1 := hW.cell (HRB.out.cell (j := 1) rfl) (by show ¬ _ = _; simp only; omega); go_simp; exact rfl
      try simp only [Act.put, List.setIfInBounds_toArray, List.set_cons_succ, List.set_cons_zero]
      refine qC_take (i := 3) (s := some 19) (v := ?v5) rfl rfl (by kernel_rfl) (by kernel_rfl) (by kernel_rfl) (fun _ _ _ h => h) XD.out (by kernel_rfl) ?hy5 ?h5
      case hy5 => intro W hW; have h9 := HLT.out; have b0 := hW.cell (HRB.out.cell (j := 0) rfl) (by show ¬ _ = _; simp only; omega); have b1 := hW.cell (HRB.out.cell (j := 1) rfl) (by show ¬ _ = _; simp only; omega); go_simp; exact rfl
      try simp only [Act.put, List.setIfInBounds_toArray, List.set_cons_succ, List.set_cons_zero]
      refine qC_take (i := 6) (s := some 22) (v := ?v6) rfl rfl (by kernel_rfl) (by kernel_rfl) (by kernel_rfl) (fun _ _ _ h => h) XD.out (by kernel_rfl) ?hy6 ?h6
      case hy6 => intro W hW; have h9 := HLT.out; have b0 := hW.cell (HRB.out.cell (j := 0) rfl) (by show ¬ _ = _; simp only; omega); have b1 := hW.cell (HRB.out.cell (j := 1) rfl) (by show ¬ _ = _; simp only; omega); go_simp; exact rfl
      try simp only [Act.put, List.setIfInBounds_toArray, List.set_cons_succ, List.set_cons_zero]
      refine wpAnyC_one 4 (by kernel_rfl) rfl (by kernel_rfl) (fun KK hKK => ?_)
      go_simp
      refine (HCL.out _ ((Ext.refl _).drew)).mono ?_
      rintro e w4 ⟨q, c, rfl, hc4, hq4, hx4, hp4⟩
      have X4 := Lib.hid (show Ext wb w4 from (Ext.refl wb).drew.trans hx4)
      have HP4 := Lib.hid (And.intro hc4 (And.intro (show wb.heap.size ≤ q from hq4) hp4))
      refine hKK _ _ (Mod.of_ext _ X4.out) ?_
      clear hKK KK hc4 hq4 hx4 hp4
      try change wpAnyC _ _ _ _ _ _ _ (Act.put _ (some 20) (.slice (some ⟨q, 0, none⟩) np c)) _
      try simp only [Act.put, List.setIfInBounds_toArray, List.set_cons_succ, List.set_cons_zero]
      refine qC_take (i := 7) (s := some 23) (v := ?v7) rfl rfl (by kernel_rfl) (by kernel_rfl) (by kernel_rfl) (fun _ _ _ h => h) (Mod.of_ext _ X4.out) (by kernel_rfl) ?hy7 ?h7
      case hy7 => intro W hW; have h9 := HLT.out; have b0 := hW.cell (HRB.out.cell (j := 0) rfl) (by show ¬ _ = _; simp only; omega); have b1 := hW.cell (HRB.out.cell (j := 1) rfl) (by show ¬ _ = _; simp only; omega); go_simp; exact rfl
      try simp only [Act.put, List.setIfInBounds_toArray, List.set_cons_succ, List.set_cons_zero]
      refine qC_take (i := 8) (s := some 24) (v := ?v8) rfl rfl (by kernel_rfl) (by kernel_rfl) (by kernel_rfl) (fun _ _ _ h => h) (Mod.of_ext _ X4.out) (by kernel_rfl) ?hy8 ?h8
      case hy8 => intro W hW; have h9 := HLT.out; have b0 := hW.cell (HRB.out.cell (j := 0) rfl) (by show ¬ _ = _; simp only; omega); have b1 := hW.cell (HRB.out.cell (j := 1) rfl) (by show ¬ _ = _; simp only; omega); go_simp; exact rfl
      try simp only [Act.put, List.setIfInBounds_toArray, List.set_cons_succ, List.set_cons_zero]
      have HR4 := Lib.hid (HC.out.row.ext (XB.out.trans X4.out))
      have z0 := HR4.out.cell (j := k * 2) (v := y0) (by have := flat_get c2 2 (fun _ => rfl) L k 0 (by decide); rw [Nat.add_zero] at this; rw [this, HY.out]; rfl)
      have z1 := HR4.out.cell (j := k * 2 + 1) (v := y1) (by rw [flat_get c2 2 (fun _ => rfl) L k 1 (by decide), HY.out]; rfl)
      have f0 := HR4.out.frozen (j := k * 2) (by have := HRL.out; omega)
      have f1 := HR4.out.frozen (j := k * 2 + 1) HRL.out
      refine wpAnyC_one 9 (by kernel_rfl) rfl (by kernel_rfl) (fun KK hKK => ?_)
      go_simp
      have HM5 := Lib.hid ((mod_set w4 w.heap.size (k * 2) (.slice (some ⟨q, 0, none⟩) np c)).trans (mod_set (w4.setCell ⟨w.heap.size, k * 2, none⟩ (.slice (some ⟨q, 0, none⟩) np c)) w.heap.size (k * 2 + 1) (.int .i64 b.worn)))
      have HR5 := Lib.hid ((HR4.out.set (k * 2) (.slice (some ⟨q, 0, none⟩) np c) (by have := HRL.out; omega)).set (k * 2 + 1) (.int .i64 b.worn) (by rw [List.length_set]; exact HRL.out))
      refine hKK _ _ ((Mod.of_ext _ X4.out).trans HM5.out) ?_
      clear hKK KK z0 z1 f0 f1
      try simp only [Act.put, List.setIfInBounds_toArray, List.set_cons_succ, List.set_cons_zero]
      refine ⟨by kernel_rfl, ?_⟩
      go_wp2_with fail
      refine ⟨⟨k + 1, by go_num, by omega, Lib.hid ⟨L.set k (.slice (some ⟨q, 0, none⟩) np c, .int .i64 b.worn), pq ++ [(q, c)], ?_⟩⟩, by simp [intOf]; omega⟩
      have hx5 : Ext w ((w4.setCell ⟨w.heap.size, k * 2, none⟩ (.slice (some ⟨q, 0, none⟩) np c)).setCell ⟨w.heap.size, k * 2 + 1, none⟩ (.int .i64 b.worn)) :=
        ((HC.out.ext.trans (XB.out.trans X4.out)).setCell (Nat.le_refl _) _).setCell (Nat.le_refl _) _
      have h8 : No8 w4 (fun x => x = w.heap.size) := no8_row HR4.out (by decide)
      have hqb : w.heap.size < q := by have := HLT.out; have := XB.out.size; have := HP4.out.2.1; omega
      refine { ext := hx5, row := ?_, len := by rw [List.length_set]; exact HC.out.len, plen := by simp [HC.out.plen], done := fun j p' b' hp hb => ?_, nodup := ?_, lt := fun p' hp => ?_ }
      · have e1 := flat_set c2 2 (fun _ => rfl) L k 0 (by decide) (.slice (some ⟨q, 0, none⟩) np c) (y0, y1) (.slice (some ⟨q, 0, none⟩) np c, y1) HY.out rfl
        rw [Nat.add_zero] at e1
        have hkL : k < L.length := (List.getElem?_eq_some_iff.1 HY.out).1
        have e2 := flat_set c2 2 (fun _ => rfl) (L.set k (.slice (some ⟨q, 0, none⟩) np c, y1)) k 1 (by decide) (.int .i64 b.worn) (.slice (some ⟨q, 0, none⟩) np c, y1) (.slice (some ⟨q, 0, none⟩) np c, .int .i64 b.worn) (List.getElem?_set_self hkL) rfl
        have h9 := HR5.out
        rw [e1, e2, List.set_set] at h9
        exact h9
      · by_cases hj : j < k
        · rw [List.getElem?_append_left (by rw [HC.out.plen]; exact hj)] at hp
          obtain ⟨d1, d2, d3, d4⟩ := HC.out.done j p' b' hp hb
          refine ⟨by rw [List.getElem?_set_ne (by omega)]; exact d1, ?_, d3, d4⟩
          exact (d2.mod (Mod.of_ext (fun _ => False) (XB.out.trans X4.out)) (no8_false _) (fun h => h)).mod HM5.out h8 (fun e => by have : p'.1 = w.heap.size := e; omega)
        · have hjk : j = k := by
            have := (List.getElem?_eq_some_iff.1 hp).1
            rw [List.length_append, HC.out.plen, List.length_singleton] at this
            omega
          subst hjk
          rw [List.getElem?_append_right (by rw [HC.out.plen]; exact Nat.le_refl _), HC.out.plen, Nat.sub_self] at hp
          cases hp
          rw [HB1.out] at hb
          cases hb
          refine ⟨List.getElem?_set_self (List.getElem?_eq_some_iff.1 HY.out).1, ?_, HP4.out.1, hqb⟩
          exact HP4.out.2.2.mod HM5.out h8 (fun e => by have : q = w.heap.size := e; omega)
      · rw [List.map_append, List.nodup_append]
        refine ⟨HC.out.nodup, by simp, fun a ha b' hb' e => ?_⟩
        obtain ⟨p', hp', rfl⟩ := List.mem_map.1 ha
        simp only [List.map_cons, List.map_nil, List.mem_singleton] at hb'
        have h1 := HC.out.lt p' hp'
        have h2 := HP4.out.2.1
        have h3 := XB.out.size
        omega
      · have hs5 : w4.heap.size ≤ ((w4.setCell ⟨w.heap.size, k * 2, none⟩ (.slice (some ⟨q, 0, none⟩) np c)).setCell ⟨w.heap.size, k * 2 + 1, none⟩ (.int .i64 b.worn)).heap.size := HM5.out.size
        have hs4 := X4.out.size
        have hs3 := XB.out.size
        rcases List.mem_append.1 hp with hp | hp
        · have := HC.out.lt p' hp
          omega
        · rw [List.mem_singleton] at hp
          subst hp
          obtain ⟨vs, hvs, -⟩ := HP4.out.2.2
          have := hvs.lt
          show q < _
          omega
    · have hki : (n : Int) ≤ (k : Int) := by omega
      obtain rfl : k = n := by omega
      go_wp2_with fail
      go_ret
      obtain ⟨L, pq, hC⟩ := hW.out
      refine ⟨rfl, hC.ext, pq, ⟨?_, by rw [hC.plen, HN.out], fun j p b hp hb => ?_⟩, hC.nodup, fun p hp => ⟨?_, hC.lt p hp⟩⟩
      · have e : (pq.zip bs).flatMap blkCells = L.flatMap c2 := by
          apply List.ext_getElem?
          intro j
          by_cases hj : j < bs.length * 2
          · have hd : j = j / 2 * 2 + j % 2 := by omega
            have e1 := flat_get blkCells 2 (fun _ => rfl) (pq.zip bs) (j / 2) (j % 2) (Nat.mod_lt _ (by decide))
            have e2 := flat_get c2 2 (fun _ => rfl) L (j / 2) (j % 2) (Nat.mod_lt _ (by decide))
            rw [← hd] at e1 e2
            obtain ⟨p, hp⟩ : ∃ p, pq[j / 2]? = some p := ⟨_, List.getElem?_eq_getElem (by rw [hC.plen, HN.out]; omega)⟩
            obtain ⟨b, hb⟩ : ∃ b, bs[j / 2]? = some b := ⟨_, List.getElem?_eq_getElem (by omega)⟩
            obtain ⟨d1, d2, d3, d4⟩ := hC.done _ p b hp hb
            rw [e1, e2, d1, show (pq.zip bs)[j / 2]? = some (p, b) by rw [List.getElem?_zip_eq_some]; exact ⟨hp, hb⟩]
            obtain ⟨q1, cap1, hq1, -, -, -, hbl, -⟩ := H.out.cells hb
            simp [blkCells, c2, hbl]
          · rw [List.getElem?_eq_none (by rw [flat_len blkCells 2 (fun _ => rfl), List.length_zip]; omega), List.getElem?_eq_none (by rw [flat_len c2 2 (fun _ => rfl), hC.len]; omega)]
        rw [e]
        exact hC.row
      · obtain ⟨d1, d2, d3, d4⟩ := hC.done j p b hp hb
        obtain ⟨q1, cap1, hq1, -, -, -, hbl, -⟩ := H.out.cells hb
        exact ⟨d2, hbl, d3⟩
      · obtain ⟨j, hj⟩ := List.getElem?_of_mem hp
        obtain ⟨b, hb⟩ : ∃ b, bs[j]? = some b := ⟨_, List.getElem?_eq_getElem (by have := (List.getElem?_eq_some_iff.1 hj).1; rw [hC.plen, HN.out] at this; exact this)⟩
        exact (hC.done j p b hj hb).2.2.2
end Go.Proofs.Ytepigkjgjlibcaa
namespace Go.Proofs.Ytepigkjgjlibcaa
open Go.RowKit Go.Deep Go.Proofs.Ytepigkjgjlibcaa.FL
set_option maxRecDepth 100000
theorem nodup_join {l m : List (Nat × Nat)} {B : Nat} (h : (l.map (·.1)).Nodup) (k : (m.map (·.1)).Nodup) (hl : ∀ p ∈ l, p.1 < B) (hm : ∀ p ∈ m, B ≤ p.1) : ((l ++ m).map (·.1)).Nodup := by
  rw [List.map_append, List.nodup_append]
  refine ⟨h, k, fun a ha b hb e => ?_⟩
  obtain ⟨p, hp, rfl⟩ := List.mem_map.1 ha
  obtain ⟨q, hq, rfl⟩ := List.mem_map.1 hb
  have := hl p hp
  have := hm q hq
  omega
theorem OpsAt.nil (w : World) : OpsAt w (.slice none 0 0) [] := ⟨[], rfl, World.ownsRow_nil _ _ _ _, fun i r o hr => by simp at hr⟩
/-- the durable blocks are new clones, nothing is pending -/
theorem DevAtF.synced {w w' w'' : World} {S : Nat → Prop} {d : Nat} {G : DevF} {D : Dev} (h : DevAtF w S d G D) {pq : List (Nat × Nat)} (hx : Ext w w') (hq : BlksAt w' w.heap.size pq D.npages D.now) (hn : (pq.map (·.1)).Nodup) (hlt : ∀ p ∈ pq, w.heap.size < p.1)
    (hm : Mod (fun x => x = d) w' w'') (hr : RowB w'' d 99 [.slice (some ⟨w.heap.size, 0, none⟩) D.now.length D.now.length, .slice (some ⟨G.gn, 0, none⟩) D.now.length D.now.length, .slice none 0 0, .bool D.off, .bool D.planned, .int .i64 D.left]) :
    DevAtF w'' (fun x => S x ∨ x = w.heap.size ∨ ∃ p ∈ pq, p.1 = x) d ⟨w.heap.size, G.gn, pq, G.pn, .slice none 0 0⟩ { D with durable := D.now, pending := [] } := by
  have hd : d < w.heap.size := h.row.lt
  have hg : G.gn < w.heap.size := h.now.row.lt
  have hpn : ∀ p ∈ G.pn, p.1 < w.heap.size := fun p hp => by obtain ⟨vs, hvs⟩ := h.now.prow hp; exact hvs.lt
  have h2 := h.ext hx
  have h8 : No8 w' (fun x => x = d) := h2.no8d
  have hnd := h.nodup
  rw [List.map_append, List.nodup_append] at hnd
  refine { row := hr, dur := hq.mod hm h8 (by omega) (fun p hp e => by have := hlt p hp; have : p.1 = d := e; omega), now := ?_, pend := OpsAt.nil _, nodup := nodup_join hnd.1 hn hpn (fun p hp => by have := hlt p hp; omega), gne := by show w.heap.size ≠ G.gn; omega, inS := ⟨.inl h.inS.1, .inr (.inl rfl), .inl h.inS.2.2.1, fun p hp => ?_, fun x hx => by cases hx⟩, ty := ?_, lens := rfl, nb := h.nb, np := h.np, left := h.left, ops := fun o ho => by cases ho }
  · exact h2.now.mod hm h8 (h2.row.apart h2.now.row (by decide)).symm (fun p hp e => by
      obtain ⟨vs, hvs⟩ := h2.now.prow hp
      exact h2.row.apart hvs (by decide) e.symm)
  · rcases List.mem_append.1 hp with hp | hp
    · exact .inl (h.inS.2.2.2.1 p (List.mem_append_left _ hp))
    · exact .inr (.inr ⟨p, hp, rfl⟩)
  · rintro x (hx' | rfl | ⟨p, hp, rfl⟩)
    · by_cases hxd : x = d
      · subst hxd; exact row_typed hr (by decide)
      · obtain ⟨C, T, fr, h1, h2'⟩ := h2.ty x hx'
        exact ⟨C, T, fr, (hm.block x (Typed.lt h2.ty hx') hxd).trans h1, h2'⟩
    · exact row_typed (hm.rowB hq.row (by omega)) (by decide)
    · obtain ⟨vs, hvs⟩ := hq.prow hp
      exact row_typed (hm.rowB hvs (fun e => by have := hlt p hp; have : p.1 = d := e; omega)) (by decide)
theorem syncD_down {D : Dev} (hp : (powerF D).1 = false) : syncD D = (11, (powerF D).2) := by
  unfold syncD
  rcases h : powerF D with ⟨x, d1⟩
  rw [h] at hp
  simp only at hp
  subst hp
  rfl
theorem syncD_ok {D : Dev} (hp : (powerF D).1 = true) : syncD D = (0, { (powerF D).2 with durable := (powerF D).2.now, pending := [] }) := by
  unfold syncD
  rcases h : powerF D with ⟨x, d1⟩
  rw [h] at hp
  simp only at hp
  subst hp
  rfl
set_option maxHeartbeats 4000000 in
theorem devsync_any {w : World} {S : Nat → Prop} {d : Nat} {G : DevF} {D : Dev} (h : DevAtF w S d G D) :
    Calls Try.prog 37 #[.pointer (some ⟨d, 0, none⟩)] w fun e w' => e = .returned (codeV (syncD D).1) ∧ DevStep w w' S d (syncD D).2 := by
  have H := Lib.hid h
  have HPW0 := Lib.hid (power_any h)
  have HE0 := Lib.hid (syncD_down (D := D))
  have HE1 := Lib.hid (syncD_ok (D := D))
  clear h
  cases hpw : (powerF D).1 with
  | false =>
    have HPW := Lib.hid hpw
    clear hpw
    go_enter Try.func37, Try.ntmps37
    go_wp2_with (go_at_call 49; refine HPW0.out.mono ?_; rintro e w2 ⟨rfl, hd2, hm2⟩; rw [HPW.out])
    go_ret
    rw [HE0.out HPW.out]
    exact ⟨rfl, S, G, hd2, hm2.mono (fun x _ hx => by rw [show x = d from hx]; exact H.out.inS.1), fun x hx => .inl hx⟩
  | true =>
    have HPW := Lib.hid hpw
    clear hpw
    go_enter Try.func37, Try.ntmps37
    go_upto_region 5 with (go_at_call 49; refine HPW0.out.mono ?_; rintro e w2 ⟨rfl, hd2, hm2⟩; rw [HPW.out])
    have HD2 := Lib.hid hd2
    have HM2 := Lib.hid hm2
    clear hd2 hm2
    obtain ⟨D1, hD1⟩ : ∃ D1, D1 = (powerF D).2 := ⟨_, rfl⟩
    rw [← hD1] at HD2 HE1
    clear hD1
    have d1 := HD2.out.row.cell (j := 1) rfl
    have HCL := Lib.hid (clones_any HD2.out.now HD2.out.np HD2.out.nb)
    go_wp2_with (go_at_call 46; refine HCL.out.mono ?_; rintro e w3 ⟨rfl, hx3, pq, hq3, hn3, hl3⟩; have hr3 := HD2.out.row.ext hx3; have c0 := hr3.cell (j := 0) rfl; have c2 := hr3.cell (j := 2) rfl; have f0 := hr3.frozen (j := 0) (by simp); have f2 := hr3.frozen (j := 2) (by simp))
    have hr5 := (hr3.set 0 (.slice (some ⟨w2.heap.size, 0, none⟩) D1.now.length D1.now.length) (by simp)).set 2 (.slice none 0 0) (by simp)
    have hm5 := (mod_set w3 d 0 (.slice (some ⟨w2.heap.size, 0, none⟩) D1.now.length D1.now.length)).trans (mod_set (w3.setCell ⟨d, 0, none⟩ (.slice (some ⟨w2.heap.size, 0, none⟩) D1.now.length D1.now.length)) d 2 (.slice none 0 0))
    go_ret
    rw [HE1.out HPW.out]
    refine ⟨rfl, _, _, HD2.out.synced hx3 hq3 hn3 (fun p hp => (hl3 p hp).1) hm5 hr5, ?_, fun x hx => ?_⟩
    · exact (((HM2.out.mono (fun x _ hx => by rw [show x = d from hx]; exact H.out.inS.1)).ext' hx3).then hm5 (fun x hx => .inl (by rw [hx]; exact H.out.inS.1)))
    · have := HM2.out.size
      rcases hx with hx | rfl | ⟨p, hp, rfl⟩
      · exact .inl hx
      · exact .inr this
      · have := (hl3 p hp).1
        exact .inr (by omega)
end Go.Proofs.Ytepigkjgjlibcaa
namespace Go.Proofs.Ytepigkjgjlibcaa
open Go.RowKit Go.Deep Go.Proofs.Ytepigkjgjlibcaa.FL
set_option maxRecDepth 100000
theorem devfail_any {w : World} {S : Nat → Prop} {d : Nat} {G : DevF} {D : Dev} (h : DevAtF w S d G D) (n : Nat) (hn : n ≤ 1000000) :
    Calls Try.prog 27 #[.pointer (some ⟨d, 0, none⟩), .int .i64 n] w fun e w' => e = .returned (.tuple #[]) ∧ DevAtF w' S d G (failD D n) ∧ Mod (fun x => x = d) w w' := by
  have H := Lib.hid h
  have HR := Lib.hid h.row
  have HN := Lib.hid hn
  obtain ⟨du, no, pe, off, pl, lf⟩ := D
  simp only at HR
  clear h hn
  have c3 := HR.out.cell (j := 3) rfl
  have c4 := HR.out.cell (j := 4) rfl
  have c5 := HR.out.cell (j := 5) rfl
  have f4 := HR.out.frozen (j := 4) (by simp)
  have f5 := HR.out.frozen (j := 5) (by simp)
  have hn0 : (0 : Int) ≤ (n : Int) := by omega
  cases off with
  | true =>
    go_enter Try.func27, Try.ntmps27
    go_wp2_with fail
    go_end0
    exact ⟨rfl, H.out, Mod.refl _ _⟩
  | false =>
    have HM := Lib.hid (((Mod.refl (fun x => x = d) w).setCell (p := ⟨d, 4, none⟩) (.inl rfl) (.bool true)).setCell (p := ⟨d, 5, none⟩) (.inl rfl) (.int .i64 n))
    have HR2 := Lib.hid (((HR.out.set 4 (.bool true) (by simp)).set 5 (.int .i64 n) (by simp)))
    have hmx : max (n : Int) 0 = n := by omega
    go_enter Try.func27, Try.ntmps27
    go_wp2_with fail
    go_end0
    refine ⟨rfl, ?_, HM.out⟩
    have h1 := H.out.head (off := false) (planned := true) (left := n) HM.out HR2.out (by have := HN.out; omega)
    exact h1
theorem ClonesTo.blks {w wr : World} {q np : Nat} {bs : List Blk} {L : List (Value × Value)} {pq : List (Nat × Nat)} (hC : ClonesTo w wr q np bs.length bs L pq) (hl : ∀ b ∈ bs, b.pages.length = np) : BlksAt wr q pq np bs := by
  refine ⟨?_, hC.plen, fun j p b hp hb => ⟨(hC.done j p b hp hb).2.1, hl b (List.mem_of_getElem? hb), (hC.done j p b hp hb).2.2.1⟩⟩
  have e : (pq.zip bs).flatMap blkCells = L.flatMap c2 := by
    apply List.ext_getElem?
    intro j
    by_cases hj : j < bs.length * 2
    · have hd : j = j / 2 * 2 + j % 2 := by omega
      have e1 := flat_get blkCells 2 (fun _ => rfl) (pq.zip bs) (j / 2) (j % 2) (Nat.mod_lt _ (by decide))
      have e2 := flat_get c2 2 (fun _ => rfl) L (j / 2) (j % 2) (Nat.mod_lt _ (by decide))
      rw [← hd] at e1 e2
      obtain ⟨p, hp⟩ : ∃ p, pq[j / 2]? = some p := ⟨_, List.getElem?_eq_getElem (by rw [hC.plen]; omega)⟩
      obtain ⟨b, hb⟩ : ∃ b, bs[j / 2]? = some b := ⟨_, List.getElem?_eq_getElem (by omega)⟩
      obtain ⟨d1, d2, d3, d4⟩ := hC.done _ p b hp hb
      rw [e1, e2, d1, show (pq.zip bs)[j / 2]? = some (p, b) by rw [List.getElem?_zip_eq_some]; exact ⟨hp, hb⟩]
      simp [blkCells, c2, hl b (List.mem_of_getElem? hb)]
    · rw [List.getElem?_eq_none (by rw [flat_len blkCells 2 (fun _ => rfl), List.length_zip]; omega), List.getElem?_eq_none (by rw [flat_len c2 2 (fun _ => rfl), hC.len]; omega)]
  rw [e]
  exact hC.row
def zeroB (m : Nat) : Blk := ⟨List.replicate m none, 0⟩
set_option maxHeartbeats 4000000 in
theorem devnew_any (n m : Nat) (hn : 1 ≤ n ∧ n ≤ 64) (hm : 1 ≤ m ∧ m ≤ 32) (w : World) :
    Calls Try.prog 20 #[.int .i64 n, .int .i64 m] w fun e w' => ∃ d S G, e = .returned (.tuple #[.pointer (some ⟨d, 0, none⟩), .nilIface]) ∧ Ext w w' ∧ DevAtF w' S d G (newDev n m) ∧ ∀ x, S x → w.heap.size ≤ x := by
  obtain ⟨i0, hi0, hz0, hz1, hz2⟩ := info_parts block_info23
  have hmk := run_make (P := Try.prog) w 96 95 i0 _ Try.underlying96 hi0 hz0 .i64 .i64 n n (by omega) (by omega) (by rw [hz2]; omega) (by omega)
  rw [hz1, Int.toNat_natCast] at hmk
  obtain ⟨wm, hwm⟩ : ∃ x, x = w.alloc (.cells (madeCells #[.slice none 0 0, .int .i64 0] (n * 2)) 95) := ⟨_, rfl⟩
  have hmk2 : (Instr.makeSlice 96 (.int .i64 n) (.int .i64 n)).run Try.prog w = .ok (.slice (some ⟨w.heap.size, 0, none⟩) n n) wm := by rw [hwm]; exact hmk
  have XM : Hid (Ext w wm) := Lib.hid (by rw [hwm]; exact (Ext.refl w).alloc _)
  have HRM : Hid (RowB wm w.heap.size 95 ((List.replicate n ((.slice none 0 0, .int .i64 0) : Value × Value)).flatMap c2)) := Lib.hid (by
    have e : ((List.replicate n ((.slice none 0 0, .int .i64 0) : Value × Value)).flatMap c2).toArray = madeCells #[.slice none 0 0, .int .i64 0] (n * 2) := by rw [← madeB, Array.toArray_toList]
    rw [hwm, ← e]
    exact row_laid w _ _)
  have hmp := fun W => run_make_row' (P := Try.prog) 52 42 (.slice none 0 0) 24 Try.underlying52 (by kernel_rfl) rfl .i64 .i64 m (by omega) (by omega) W
  have HB := Lib.hid (And.intro hn hm)
  obtain ⟨n1, n2⟩ := hn
  obtain ⟨m1, m2⟩ := hm
  clear hmk hi0 hz0 hz1 hz2 hwm
  go_enter Try.func20, Try.ntmps20
  go_upto_region 4 with fail
  clear hmk2
  go_wp2_with fail
  go_loopw [27] (fun i wr => ∃ k : Nat, i = .int .i64 k ∧ k ≤ n ∧ Hid (∃ L pq, ClonesTo w wr w.heap.size m k (List.replicate n (zeroB m)) L pq ∧ ∀ j, k ≤ j → j < n → L[j]? = some (.slice none 0 0, .int .i64 0))) (fun i _ => n - (intOf i).toNat)
  case atStart =>
    refine ⟨0, rfl, by omega, Lib.hid ⟨_, [], ⟨XM.out, HRM.out, by simp, rfl, fun j p b hp => by simp at hp, List.nodup_nil, fun p hp => by simp at hp⟩, fun j _ hj => by rw [List.getElem?_replicate, if_pos hj]⟩⟩
  case round =>
    obtain ⟨k, rfl, hk, hW⟩ := hrel
    by_cases hkn : k < n
    · have hki : (k : Int) < (n : Int) := by omega
      obtain ⟨L, pq, hC, hL⟩ := hW.out
      have HC := Lib.hid hC
      have HL := Lib.hid hL
      have HY := Lib.hid (hL k (Nat.le_refl _) hkn)
      have XB := Lib.hid ((Ext.refl wr).alloc (.cells (madeCells #[.slice none 0 0] m) 42))
      have HR4 := Lib.hid (HC.out.row.ext XB.out)
      have HQ4 := Lib.hid (made_row wr (.slice none 0 0) m 42)
      have HLT := Lib.hid (show w.heap.size < wr.heap.size from HC.out.row.lt)
      have HRL := Lib.hid (show k * 2 + 1 < (L.flatMap c2).length by rw [flat_len c2 2 (fun _ => rfl), HC.out.len, List.length_replicate]; omega)
      have z0 := HR4.out.cell (j := k * 2) (v := .slice none 0 0) (by have := flat_get c2 2 (fun _ => rfl) L k 0 (by decide); rw [Nat.add_zero] at this; rw [this, HY.out]; rfl)
      have f0 := HR4.out.frozen (j := k * 2) (by have := HRL.out; omega)
      have HM5 := Lib.hid (mod_set (wr.alloc (.cells (madeCells #[.slice none 0 0] m) 42)) w.heap.size (k * 2) (.slice (some ⟨wr.heap.size, 0, none⟩) m m))
      have HR5 := Lib.hid (HR4.out.set (k * 2) (.slice (some ⟨wr.heap.size, 0, none⟩) m m) (by have := HRL.out; omega))
      clear hC hL hW
      go_wp2_with fail
      refine ⟨⟨k + 1, by go_num, by omega, Lib.hid ⟨L.set k (.slice (some ⟨wr.heap.size, 0, none⟩) m m, .int .i64 0), pq ++ [(wr.heap.size, m)], ?_, fun j h1 h2 => by rw [List.getElem?_set_ne (by omega)]; exact HL.out j (by omega) h2⟩⟩, by simp [intOf]; omega⟩
      have hx5 : Ext w ((wr.alloc (.cells (madeCells #[.slice none 0 0] m) 42)).setCell ⟨w.heap.size, k * 2, none⟩ (.slice (some ⟨wr.heap.size, 0, none⟩) m m)) := (HC.out.ext.trans XB.out).setCell (Nat.le_refl _) _
      have h8 : No8 (wr.alloc (.cells (madeCells #[.slice none 0 0] m) 42)) (fun x => x = w.heap.size) := no8_row HR4.out (by decide)
      have hqb := HLT.out
      refine { ext := hx5, row := ?_, len := by rw [List.length_set]; exact HC.out.len, plen := by simp [HC.out.plen], done := fun j p' b' hp hb => ?_, nodup := ?_, lt := fun p' hp => ?_ }
      · have e1 := flat_set c2 2 (fun _ => rfl) L k 0 (by decide) (.slice (some ⟨wr.heap.size, 0, none⟩) m m) (.slice none 0 0, .int .i64 0) (.slice (some ⟨wr.heap.size, 0, none⟩) m m, .int .i64 0) HY.out rfl
        rw [Nat.add_zero] at e1
        have h9 := HR5.out
        rw [e1] at h9
        exact h9
      · by_cases hj : j < k
        · rw [List.getElem?_append_left (by rw [HC.out.plen]; exact hj)] at hp
          obtain ⟨d1, d2, d3, d4⟩ := HC.out.done j p' b' hp hb
          refine ⟨by rw [List.getElem?_set_ne (by omega)]; exact d1, ?_, d3, d4⟩
          exact (d2.mod (Mod.of_ext (fun _ => False) XB.out) (no8_false _) (fun h => h)).mod HM5.out h8 (fun e => by have : p'.1 = w.heap.size := e; omega)
        · have hjk : j = k := by
            have := (List.getElem?_eq_some_iff.1 hp).1
            rw [List.length_append, HC.out.plen, List.length_singleton] at this
            omega
          subst hjk
          rw [List.getElem?_append_right (by rw [HC.out.plen]; exact Nat.le_refl _), HC.out.plen, Nat.sub_self] at hp
          cases hp
          rw [List.getElem?_replicate, if_pos hkn] at hb
          cases hb
          refine ⟨List.getElem?_set_self (List.getElem?_eq_some_iff.1 HY.out).1, ?_, Nat.le_refl _, hqb⟩
          exact (nils_at HQ4.out).mod HM5.out h8 (fun e => by have : wr.heap.size = w.heap.size := e; omega)
      · rw [List.map_append, List.nodup_append]
        refine ⟨HC.out.nodup, by simp, fun a ha b' hb' e => ?_⟩
        obtain ⟨p', hp', rfl⟩ := List.mem_map.1 ha
        simp only [List.map_cons, List.map_nil, List.mem_singleton] at hb'
        have h1 := HC.out.lt p' hp'
        omega
      · have hs5 : wr.heap.size + 1 = ((wr.alloc (.cells (madeCells #[.slice none 0 0] m) 42)).setCell ⟨w.heap.size, k * 2, none⟩ (.slice (some ⟨wr.heap.size, 0, none⟩) m m)).heap.size := by simp [World.setCell]
        rcases List.mem_append.1 hp with hp | hp
        · have := HC.out.lt p' hp
          omega
        · rw [List.mem_singleton] at hp
          subst hp
          show wr.heap.size < _
          omega
    · have hki : (n : Int) ≤ (k : Int) := by omega
      obtain rfl : k = n := by omega
      obtain ⟨L, pq, hC, -⟩ := hW.out
      have HBK := Lib.hid (ClonesTo.blks (bs := List.replicate k (zeroB m)) (by rw [List.length_replicate]; exact hC) (fun b hb => by rw [List.eq_of_mem_replicate hb]; simp [zeroB]))
      have HCL := Lib.hid (clones_any HBK.out ⟨m1, m2⟩ (by rw [List.length_replicate]; exact ⟨n1, n2⟩))
      have HCE := Lib.hid hC.ext
      have HND := Lib.hid hC.nodup
      have HPL := Lib.hid (show ∀ p ∈ pq, w.heap.size < p.1 ∧ p.1 < wr.heap.size from fun p hp => by
        obtain ⟨j, hj⟩ := List.getElem?_of_mem hp
        exact ⟨(hC.done j p _ hj (by rw [List.getElem?_replicate, if_pos (by have := (List.getElem?_eq_some_iff.1 hj).1; rw [hC.plen] at this; exact this)])).2.2.2, hC.lt p hp⟩)
      rw [List.length_replicate] at HCL
      clear hC hW
      go_wp2_with (go_at_call 46; refine HCL.out.mono ?_; rintro e w3 ⟨rfl, hx3, pq3, hq3, hn3, hl3⟩)
      go_ret2
      have X5 := (Ext.refl w3).alloc (.cells #[.slice (some ⟨w.heap.size, 0, none⟩) k k, .slice (some ⟨wr.heap.size, 0, none⟩) k k, .slice none 0 0, .bool false, .bool false, .int .i64 0] 99)
      have hrow := row_laid w3 99 [.slice (some ⟨w.heap.size, 0, none⟩) k k, .slice (some ⟨wr.heap.size, 0, none⟩) k k, .slice none 0 0, .bool false, .bool false, .int .i64 0]
      have hm5 := Mod.of_ext (fun _ => False) X5
      have hm3 := Mod.of_ext (fun _ => False) (hx3.trans X5)
      have hdur := HBK.out.mod hm3 (no8_false _) (fun h => h) (fun _ _ h => h)
      have hnow := hq3.mod hm5 (no8_false _) (fun h => h) (fun _ _ h => h)
      have hnp : (newDev k m).npages = m := by
        unfold newDev Dev.npages
        cases k with
        | zero => omega
        | succ k => simp [List.replicate_succ]
      have hs := HCE.out.size
      have hs3 := hx3.size
      have hlt := HBK.out.row.lt
      have hlt3 := hq3.row.lt
      refine ⟨w3.heap.size, fun x => x = w3.heap.size ∨ x = w.heap.size ∨ x = wr.heap.size ∨ ∃ p ∈ pq3 ++ pq, p.1 = x, ⟨w.heap.size, wr.heap.size, pq, pq3, .slice none 0 0⟩, rfl, (HCE.out.trans hx3).trans X5, { row := ?_, dur := by rw [hnp]; exact hdur, now := by rw [hnp]; exact hnow, pend := OpsAt.nil _, nodup := ?_, gne := by show w.heap.size ≠ wr.heap.size; omega, inS := ⟨.inl rfl, .inr (.inl rfl), .inr (.inr (.inl rfl)), fun p hp => .inr (.inr (.inr ⟨p, hp, rfl⟩)), fun x hx => by cases hx⟩, ty := ?_, lens := by simp [newDev], nb := by simp [newDev]; omega, np := by rw [hnp]; exact ⟨m1, m2⟩, left := by show (0 : Nat) < _; decide, ops := fun o ho => by cases ho }, ?_⟩
      · simpa [newDev] using hrow
      · rw [List.map_append, List.nodup_append]
        refine ⟨hn3, HND.out, fun a ha b hb e => ?_⟩
        obtain ⟨p, hp, rfl⟩ := List.mem_map.1 ha
        obtain ⟨q, hq, rfl⟩ := List.mem_map.1 hb
        have := (hl3 p hp).1
        have := (HPL.out q hq).2
        omega
      · rintro x (rfl | rfl | rfl | ⟨p, hp, rfl⟩)
        · exact row_typed hrow (by decide)
        · exact row_typed hdur.row (by decide)
        · exact row_typed hnow.row (by decide)
        · rcases List.mem_append.1 hp with hp | hp
          · obtain ⟨vs, hvs⟩ := hnow.prow hp
            exact row_typed hvs (by decide)
          · obtain ⟨vs, hvs⟩ := hdur.prow hp
            exact row_typed hvs (by decide)
      · rintro x (rfl | rfl | rfl | ⟨p, hp, rfl⟩)
        · omega
        · exact Nat.le_refl _
        · exact hs
        · rcases List.mem_append.1 hp with hp | hp
          · have := (hl3 p hp).1
            omega
          · have := (HPL.out p hp).1
            omega
theorem row_set6 {w : World} {g : Nat} {T : TypeId} {x0 x1 x2 x3 x4 x5 : Value} (h : RowB w g T [x0, x1, x2, x3, x4, x5]) (y0 y1 y2 y3 y4 y5 : Value) :
    RowB ((((((w.setCell ⟨g, 0, none⟩ y0).setCell ⟨g, 1, none⟩ y1).setCell ⟨g, 2, none⟩ y2).setCell ⟨g, 3, none⟩ y3).setCell ⟨g, 4, none⟩ y4).setCell ⟨g, 5, none⟩ y5) g T [y0, y1, y2, y3, y4, y5] ∧
    Mod (fun x => x = g) w ((((((w.setCell ⟨g, 0, none⟩ y0).setCell ⟨g, 1, none⟩ y1).setCell ⟨g, 2, none⟩ y2).setCell ⟨g, 3, none⟩ y3).setCell ⟨g, 4, none⟩ y4).setCell ⟨g, 5, none⟩ y5) :=
  ⟨((((((h.set 0 y0 (by simp)).set 1 y1 (by simp)).set 2 y2 (by simp)).set 3 y3 (by simp)).set 4 y4 (by simp)).set 5 y5 (by simp)),
   ((((((Mod.refl (fun x => x = g) w).setCell (p := ⟨g, 0, none⟩) (.inl rfl) y0).setCell (p := ⟨g, 1, none⟩) (.inl rfl) y1).setCell (p := ⟨g, 2, none⟩) (.inl rfl) y2).setCell (p := ⟨g, 3, none⟩) (.inl rfl) y3).setCell (p := ⟨g, 4, none⟩) (.inl rfl) y4).setCell (p := ⟨g, 5, none⟩) (.inl rfl) y5⟩
theorem CurAt.mod {w w' : World} {c : Nat} {s : Cur} {F : Nat → Prop} (h : CurAt w c s) (hm : Mod F w w') (hc : ¬ F c) (h8 : No8 w F) : CurAt w' c s := by
  obtain ⟨v, ev, hr, hs⟩ := h.row
  refine ⟨v, ev, hm.rowB hr hc, ?_⟩
  cases s with
  | none => exact hs
  | some l => exact ⟨hs.1, hs.2.mod hm h8⟩
end Go.Proofs.Ytepigkjgjlibcaa
