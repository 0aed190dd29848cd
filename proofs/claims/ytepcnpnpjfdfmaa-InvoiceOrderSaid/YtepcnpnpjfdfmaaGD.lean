/- Chapter 52: Put, whatever the entry; the sorted list of a set; gaps are gaps. Chapter 52: maps.Copy. Chapter 52: Join. Chapter 52: the law Splits. Chapter 52: the law Joins. Chapter 52: the law Same. Chapter 52: the law Order. Chapter 52: the law Order. Chapter 52: what MergeLaws makes of an order of the lists. -/
import Derived.Test.YtepcnpnpjfdfmaaGC
import Derived.ChangeSlices
namespace Go.Proofs.Ytepcnpnpjfdfmaa
open Go.RowKit Go.Maps
open Classical in
noncomputable def putL (L : List Ent) (x : Ent) : List Ent := if x.good ∧ ∀ y ∈ L, y.key ≠ x.key then L ++ [x] else L
def fitsL (L : List Ent) (x : Ent) : Prop := x.good ∧ ∀ y ∈ L, y.key = x.key → y = x
theorem put_any (q b : Nat) (L : List Ent) (x : Ent) (w : World) (h : SetAt w q b L) (hx : x.typed) :
    Calls Try.prog 39 #[.pointer (some ⟨q, 0, none⟩), x.v] w fun e w' => ∃ is bad, e = .returned (.tuple #[.bool is, bad]) ∧ w.grownBy w' (some b) ∧ SetAt w' q b (putL L x) ∧ ((fitsL L x ∧ bad = .nilIface) ∨ (¬ fitsL L x ∧ putL L x = L ∧ ∃ k, bad = errV k)) := by
  have hno : ¬ x.good → putL L x = L := fun hg => by unfold putL; exact if_neg (fun h => hg h.1)
  rcases ent_kinds x hx.1 with hbad | ⟨hnm, hbad⟩ | hgood
  · have hng : ¬ x.good := fun hg => by have := hg.1.2; rw [hbad] at this; cases this
    refine (put_err q x 8 w (fun W => check_name x.nd x.bt x.sq x.tn x.ht x.by_ x.at_ hx.1 hbad W)).mono ?_
    rintro _ w' ⟨rfl, hw⟩
    rw [hno hng]
    exact ⟨_, _, rfl, hw.grown _, h.ext hw, .inr ⟨fun hf => hng hf.1, rfl, 8, rfl⟩⟩
  · have hng : ¬ x.good := fun hg => hbad hg.2
    refine (put_err q x 1 w (fun W => check_bad x.nd x.bt x.sq x.tn x.ht x.by_ x.at_ hx.1 hnm hx.2 hbad W)).mono ?_
    rintro _ w' ⟨rfl, hw⟩
    rw [hno hng]
    exact ⟨_, _, rfl, hw.grown _, h.ext hw, .inr ⟨fun hf => hng hf.1, rfl, 1, rfl⟩⟩
  · refine (put_good q b L x w h hgood).mono ?_
    rintro _ w' ⟨v, L', hP, rfl, hg, hS⟩
    rcases hP with hold | hnew | ⟨y, hy, hk, hne⟩
    · have e1 : putL L x = L := by unfold putL; exact if_neg (fun h => h.2 x hold rfl)
      rw [e1]
      exact ⟨_, _, rfl, hg, hS, .inl ⟨⟨hgood, fun y hy hk => pair_unique h.nd hy hold hk⟩, rfl⟩⟩
    · have e1 : putL L x = L ++ [x] := by unfold putL; exact if_pos ⟨hgood, hnew⟩
      rw [e1]
      exact ⟨_, _, rfl, hg, hS, .inl ⟨⟨hgood, fun y hy hk => absurd hk (hnew y hy)⟩, rfl⟩⟩
    · have e1 : putL L x = L := by unfold putL; exact if_neg (fun h => h.2 y hy hk)
      rw [e1]
      exact ⟨_, _, rfl, hg, hS, .inr ⟨fun hf => hne (hf.2 y hy hk), rfl, 20, rfl⟩⟩
theorem putL_len (L : List Ent) (x : Ent) : (putL L x).length ≤ L.length + 1 := by unfold putL; split <;> simp
def srtL (L : List Ent) : List Ent := L.foldr insE []
theorem srt_tied : ∀ {L : List Ent}, (L.Pairwise fun a b => a.key ≠ b.key) → Tied L (srtL L)
  | [], _ => Tied.nil
  | x :: L, h => by
    obtain ⟨h1, h2⟩ := List.pairwise_cons.1 h
    have ih := srt_tied h2
    exact ⟨(ins_perm x _).trans (ih.p.cons x), ins_sorted ih.s (fun y hy => (h1 y (ih.mem.1 hy)).symm)⟩
theorem SetAt.tied {w : World} {q b : Nat} {L : List Ent} (h : SetAt w q b L) : Tied L (srtL L) := srt_tied h.nd
theorem SetAt.lists {w : World} {q b : Nat} {L : List Ent} (h : SetAt w q b L) (hN : L.length ≤ 1000) : ListsTo w (.pointer (some ⟨q, 0, none⟩)) (srtL L) := lists_set h.tied.s h.tied.p hN h
theorem SetAt.good {w : World} {q b : Nat} {L : List Ent} (h : SetAt w q b L) : ∀ x ∈ srtL L, x.good := fun x hx => h.ok x (h.tied.mem.1 hx)
theorem SetAt.slen {w : World} {q b : Nat} {L : List Ent} (h : SetAt w q b L) : (srtL L).length = L.length := h.tied.p.length_eq
/-! totals of two spans; gaps -/
theorem tot_parts (f : Ent → Int) (t at_ : Int) (h1 : -4611686018427387904 ≤ at_) (h2 : at_ ≤ 4611686018427387904) : ∀ r : List Ent, (∀ x ∈ r, x.good) → tot f (pT t) r = tot f (pB t (-4611686018427387904) at_) r + tot f (pB t at_ 4611686018427387904) r
  | [], _ => rfl
  | x :: r, h => by
    obtain ⟨a, b⟩ := (h x (by simp)).2.2.2.2.2.2
    have ih := tot_parts f t at_ h1 h2 r (fun y hy => h y (by simp [hy]))
    unfold tot
    rw [ih]
    have e1 : decide (-4611686018427387904 ≤ x.at_) = true := by simp; omega
    have e2 : decide (x.at_ < 4611686018427387904) = true := by simp; omega
    unfold pT pB
    rw [e1, e2]
    by_cases ht : x.tn = t
    · by_cases hc : x.at_ < at_
      · have hc2 : ¬ at_ ≤ x.at_ := by omega
        simp [ht, hc, hc2]
        omega
      · have hc2 : at_ ≤ x.at_ := by omega
        simp [ht, hc, hc2]
        omega
    · simp [ht]
theorem lastE_mem : ∀ (p : Option Ent) (r : List Ent) (y : Ent), lastE p r = some y → p = some y ∨ y ∈ r
  | _, [], _, h => .inl h
  | _, x :: r, y, h => by
    rcases lastE_mem (some x) r y h with h | h
    · cases h; exact .inr (by simp)
    · exact .inr (by simp [h])
theorem lastE_top : ∀ (r : List Ent) (p : Option Ent), r.Pairwise ltE → ∀ z ∈ r, ∃ y, lastE p r = some y ∧ (z = y ∨ ltE z y)
  | [], _, _, z, hz => by cases hz
  | x :: r, p, h, z, hz => by
    obtain ⟨h1, h2⟩ := List.pairwise_cons.1 h
    cases r with
    | nil =>
      simp only [List.mem_singleton] at hz
      exact ⟨x, rfl, .inl hz⟩
    | cons y r =>
      rcases List.mem_cons.1 hz with rfl | hz
      · obtain ⟨t, ht, _⟩ := lastE_top (y :: r) (some z) h2 y (by simp)
        refine ⟨t, ht, .inr (h1 t ?_)⟩
        rcases lastE_mem (some y) r t (by simpa [lastE] using ht) with e | e
        · cases e; simp
        · simp [e]
      · exact lastE_top (y :: r) (some x) h2 z hz
theorem gps_mem : ∀ (r : List Ent) (p : Option Ent) (g : Gp), g ∈ gps p r → ∃ pre x post, r = pre ++ x :: post ∧ g ∈ gapOf (lastE p pre) x
  | [], _, _, h => by cases h
  | x :: r, p, g, h => by
    simp only [gps, List.mem_append] at h
    rcases h with h | h
    · exact ⟨[], x, r, rfl, h⟩
    · obtain ⟨pre, y, post, e, hg⟩ := gps_mem r (some x) g h
      exact ⟨x :: pre, y, post, by rw [e]; rfl, hg⟩
theorem squeeze {z y x : Ent} (h1 : ltE z y) (h2 : ltE y x) (hn : z.nd = x.nd) (hb : z.bt = x.bt) : y.nd = x.nd ∧ y.bt = x.bt := by
  unfold ltE at h1 h2
  rcases h1 with h1 | ⟨e1, h1⟩
  · rcases h2 with h2 | ⟨e2, h2⟩
    · rw [hn] at h1
      have := ltS_asymm h1
      rw [this] at h2
      cases h2
    · rw [hn, e2, ltS_irrefl] at h1
      cases h1
  · have e3 : y.nd = x.nd := by rw [← e1, hn]
    rcases h2 with h2 | ⟨_, h2⟩
    · rw [e3, ltS_irrefl] at h2
      cases h2
    · exact ⟨e3, by omega⟩
theorem gap_facts {r : List Ent} (hs : r.Pairwise ltE) (hgd : ∀ x ∈ r, x.good) {g : Gp} (hg : g ∈ gps none r) :
    g.fr ≤ g.to_ ∧ 1 ≤ g.fr ∧ ∀ z ∈ r, ¬ (z.nd = g.nd ∧ z.bt = g.bt ∧ g.fr ≤ z.sq ∧ z.sq ≤ g.to_) := by
  obtain ⟨pre, x, post, rfl, hgm⟩ := gps_mem r none g hg
  unfold gapOf at hgm
  split at hgm
  · rename_i hlt
    simp only [List.mem_singleton] at hgm
    subst hgm
    have hpre : pre.Pairwise ltE := (List.pairwise_append.1 hs).1
    have hcross := (List.pairwise_append.1 hs).2.2
    have hx := (List.pairwise_append.1 hs).2.1
    have hl0 : 0 ≤ lastS (lastE none pre) x := by
      unfold lastS
      split
      · rename_i y hy
        split
        · rcases lastE_mem none pre y hy with h | h
          · cases h
          · have := (hgd y (by simp [h])).2.2.1.1
            omega
        · omega
      · omega
    refine ⟨by simp only; omega, by simp only; omega, ?_⟩
    rintro z hz ⟨e1, e2, h1, h2⟩
    simp only at e1 e2 h1 h2
    rcases List.mem_append.1 hz with hz | hz
    · obtain ⟨y, hy, hzy⟩ := lastE_top pre none hpre z hz
      have hyx : ltE y x := by
        rcases lastE_mem none pre y hy with h | h
        · cases h
        · exact hcross y h x (by simp)
      have hsame : y.nd = x.nd ∧ y.bt = x.bt := by
        rcases hzy with rfl | hzy
        · exact ⟨e1, e2⟩
        · exact squeeze hzy hyx e1 e2
      have hls : lastS (lastE none pre) x = y.sq := by rw [hy]; unfold lastS; exact if_pos hsame
      rw [hls] at h1
      have hle : z.sq ≤ y.sq := by
        rcases hzy with rfl | hzy
        · omega
        · rcases hzy with h | ⟨_, h⟩
          · rw [e1, hsame.1, ltS_irrefl] at h; cases h
          · have := hsame.2; omega
      omega
    · rcases List.mem_cons.1 hz with rfl | hz
      · omega
      · have := (List.pairwise_cons.1 hx).1 z hz
        rcases this with h | ⟨_, h⟩
        · rw [e1, ltS_irrefl] at h; cases h
        · omega
  · cases hgm
end Go.Proofs.Ytepcnpnpjfdfmaa
namespace Go.Proofs.Ytepcnpnpjfdfmaa
open Go.RowKit Go.Maps
open Go.ChangeMaps (setBlock)
/-- no entry of the one contradicts one of the other -/
def Fits (L M : List Ent) : Prop := ∀ x ∈ M, ∀ y ∈ L, y.key = x.key → y = x
theorem picks_mem {L : List Ent} {s : List Nat} (lt : ∀ i ∈ s, i < L.length) {x : Ent} (h : x ∈ picks L s) : x ∈ L := by
  obtain ⟨i, hi, rfl⟩ := List.mem_map.1 h
  have := lt i hi
  simp only [List.getD_eq_getElem?_getD, List.getElem?_eq_getElem this, Option.getD_some]
  exact List.getElem_mem this
theorem mpE_val (l : List Ent) : (mpE l).map (·.val) = l.map Ent.v := by
  unfold mpE
  apply List.ext_getElem?
  intro i
  simp only [List.getElem?_map, List.getElem?_mapIdx]
  cases l[i]? <;> rfl
theorem mpO_inj {l m : List Ent} (h : mpO l = mpO m) : l = m := by
  simp only [mpO, Obj.map.injEq] at h
  have h1 : mpE l = mpE m := by have := congrArg Array.toList h.1; simpa using this
  have h2 := congrArg (List.map (·.val)) h1
  rw [mpE_val, mpE_val] at h2
  exact List.map_inj_right (fun a b h => Ent.v_inj h) |>.1 h2
/-- what is known of the target map between two rounds -/
structure CpAt (w wr : World) (b b' r : Nat) (L M : List Ent) (s : List Nat) (C : List Ent) : Prop where
  it : ItAt wr r b' M s
  hb : wr.heap[b]? = some (mpO C)
  ok : ∀ e ∈ C, e.good
  nd : C.Pairwise fun a b => a.key ≠ b.key
  mem : ∀ x, x ∈ C ↔ x ∈ L ∨ x ∈ picks M s
  al : b = b' → C = M
  gr : w.grownBy wr (some b)
  rn : r ≠ b
theorem CpAt.ext {w wr w' : World} {b b' r : Nat} {L M : List Ent} {s : List Nat} {C : List Ent} (h : CpAt w wr b b' r L M s C) (hx : Ext wr w') : CpAt w w' b b' r L M s C :=
  ⟨h.it.kept (Below.block hx b' (Array.getElem?_eq_some_iff.1 h.it.hb).1) (Below.block hx r (Array.getElem?_eq_some_iff.1 h.it.hr).1), (Below.block hx b (Array.getElem?_eq_some_iff.1 h.hb).1).trans h.hb, h.ok, h.nd, h.mem, h.al,
    ⟨(Below.os hx).trans h.gr.os, (Below.tape hx).trans h.gr.tape, (Below.output hx).trans h.gr.output, Nat.le_trans h.gr.size hx.size, fun i hi hn => (Below.block hx i (Nat.lt_of_lt_of_le hi h.gr.size)).trans (h.gr.block i hi hn)⟩, h.rn⟩
theorem CpAt.put {w wr : World} {b b' r : Nat} {L M : List Ent} {s : List Nat} {C : List Ent} (hM : ∀ e ∈ M, e.good) (hdM : M.Pairwise fun a b => a.key ≠ b.key) (hf : Fits L M) {i : Nat} {e : Ent} (he : M[i]? = some e) (hs : ∀ i ∈ s, i < M.length) (hit : ItAt wr r b' M (s ++ [i]))
    (hb : wr.heap[b]? = some (mpO C)) (ok : ∀ e ∈ C, e.good) (nd : C.Pairwise fun a b => a.key ≠ b.key) (mem : ∀ x, x ∈ C ↔ x ∈ L ∨ x ∈ picks M s) (al : b = b' → C = M) (gr : w.grownBy wr (some b)) (rn : r ≠ b) :
    ∃ w' C', (Instr.mapUpdate 93 (.map (some b)) e.k e.v).run Try.prog wr = .ok () w' ∧ CpAt w w' b b' r L M (s ++ [i]) C' ∧ w'.heap.size = wr.heap.size := by
  have heM := List.mem_of_getElem? he
  have wfC : ∀ e ∈ C, e.wf := fun e he => Ent.good.wf (ok e he)
  have hps : picks M (s ++ [i]) = picks M s ++ [e] := picks_snoc M s he
  by_cases hin : e ∈ C
  · refine ⟨wr, C, store_mp_old hb wfC nd e hin, ⟨hit, hb, ok, nd, fun x => ?_, al, gr, rn⟩, rfl⟩
    rw [mem x, hps, List.mem_append, List.mem_singleton]
    constructor
    · rintro (h | h)
      · exact .inl h
      · exact .inr (.inl h)
    · rintro (h | h | rfl)
      · exact .inl h
      · exact .inr h
      · exact (mem x).1 hin
  · have hno : ∀ y ∈ C, y.key ≠ e.key := by
      intro y hy hk
      rcases (mem y).1 hy with h | h
      · exact hin (hf e heM y h hk ▸ hy)
      · exact hin (pair_unique hdM (picks_mem hs h) heM hk ▸ hy)
    have hbb : b ≠ b' := fun h => hin (by rw [al h]; exact heM)
    have hset := MapKept.heap_set (o' := mpO (C ++ [e])) hb
    refine ⟨_, C ++ [e], store_mp_new hb wfC e (Ent.good.wf (hM e heM)) hno, ⟨hit.kept (hset.2 b' (Ne.symm hbb)) (hset.2 r rn), hset.1, ?_, ?_, fun x => ?_, fun h => absurd h hbb, ?_, rn⟩, by simp [setBlock]⟩
    · intro x hx
      rcases List.mem_append.1 hx with hx | hx
      · exact ok x hx
      · simp at hx; subst hx; exact hM x heM
    · rw [List.pairwise_append]
      exact ⟨nd, by simp, fun a ha c hc => by simp at hc; subst hc; exact hno a ha⟩
    · rw [List.mem_append, mem x, hps, List.mem_append]
      exact or_assoc
    · exact ⟨gr.os, gr.tape, gr.output, Nat.le_trans gr.size (by simp [setBlock]), fun j hj hn => (hset.2 j (fun e => hn (by rw [e]))).trans (gr.block j hj hn)⟩
set_option maxRecDepth 100000 in
set_option maxHeartbeats 1000000 in
theorem copy_any (b b' : Nat) (L M : List Ent) (w : World) (hb : w.heap[b]? = some (mpO L)) (hb' : w.heap[b']? = some (mpO M)) (okL : ∀ e ∈ L, e.good) (okM : ∀ e ∈ M, e.good) (ndL : L.Pairwise fun a b => a.key ≠ b.key) (ndM : M.Pairwise fun a b => a.key ≠ b.key) (hf : Fits L M) :
    Calls Try.prog 47 #[.map (some b), .map (some b')] w fun e w' => e = .returned (.tuple #[]) ∧ w.grownBy w' (some b) ∧ ∃ C, w'.heap[b]? = some (mpO C) ∧ (∀ e ∈ C, e.good) ∧ (C.Pairwise fun a b => a.key ≠ b.key) ∧ ∀ x, x ∈ C ↔ x ∈ L ∨ x ∈ M := by
  go_enter Try.func47, Try.ntmps47
  go_wp2_with (first
    | (at_range; refine wpList_range_mp rfl _ rfl rfl hb' ?_; intro hI0)
    | go_in)
  go_frame
  have hbl := (Array.getElem?_eq_some_iff.1 hb).1
  go_loopw [4, 5] (fun _ _ wr => ∃ s C, CpAt w wr b b' w.heap.size L M s C) (fun _ _ wr => itLeft wr w.heap.size)
  case atStart =>
    refine ⟨[], L, hI0, ((MapKept.heap_alloc w _).2 b hbl).trans hb, okL, ndL, by simp [picks], fun h => ?_, World.grownBy_alloc w _ _, by omega⟩
    subst h
    exact mpO_inj (Option.some.inj (hb.symm.trans hb'))
  case round =>
    obtain ⟨s, C, hC⟩ := hrel
    go_wp2_with (first
      | (at_next; refine wpList_next_mp rfl _ rfl rfl hC.it ?_ ?_)
      | go_in)
    · intro hlen
      go_wp2
      go_end0
      refine ⟨rfl, hC.gr, C, hC.hb, hC.ok, hC.nd, fun x => ?_⟩
      rw [hC.mem x, (picks_perm M hC.it.nd hC.it.lt hlen).mem_iff]
    · intro i x w2 hx hns hI2 hg2 hs2 hen
      have HE := Lib.hid hen
      dsimp only [Ent.v, Ent.k] at hen ⊢
      clear hs2
      go_upto_region 3 with fail
      obtain ⟨wz, hwz⟩ : ∃ wz, wz = (w2.alloc (.cells #[.string x.nd, .int .i64 x.bt, .int .i64 x.sq] 95)).alloc (.cells x.cs.toArray 86) := ⟨_, rfl⟩
      have XZ : Ext w2 wz := by rw [hwz]; exact ((Ext.refl w2).alloc _).alloc _
      have k0 : ∀ j u, [Value.string x.nd, .int .i64 x.bt, .int .i64 x.sq][j]? = some u → wz.cell? ⟨w2.heap.size, j, none⟩ = some u := fun j u hj => by
        rw [hwz]
        exact ((Ext.refl _).alloc _).cell (cell_at_new w2 _ _ _ rfl j u hj)
      have v0 : RowB wz (w2.heap.size + 1) 86 x.cs := by
        rw [hwz]
        have := row_laid (w2.alloc (.cells #[.string x.nd, .int .i64 x.bt, .int .i64 x.sq] 95)) 86 x.cs
        simpa using this
      have hbr : b ≠ w.heap.size := by omega
      have hgr2 : w.grownBy w2 (some b) := hC.gr.andThen hg2 (fun j hj => by cases hj; exact .inl (Nat.le_refl _))
      have hgrz : w.grownBy wz (some b) := hgr2.andThen (XZ.grown none) (fun j hj => by cases hj)
      have hbz : wz.heap[b]? = some (mpO C) := (Below.block XZ b (by have := (hg2.block b (Array.getElem?_eq_some_iff.1 hC.hb).1 (by simpa using hbr)).trans hC.hb; exact (Array.getElem?_eq_some_iff.1 this).1)).trans ((hg2.block b (Array.getElem?_eq_some_iff.1 hC.hb).1 (by simpa using hbr)).trans hC.hb)
      have hitz : ItAt wz w.heap.size b' M (s ++ [i]) := hI2.kept (Below.block XZ b' (Array.getElem?_eq_some_iff.1 hI2.hb).1) (Below.block XZ _ (Array.getElem?_eq_some_iff.1 hI2.hr).1)
      obtain ⟨w', C', hU, hC', hsz⟩ := CpAt.put okM ndM hf hx hC.it.lt hitz hbz hC.ok hC.nd hC.mem hC.al hgrz hC.rn
      have HLT := Lib.hid (show itLeft w' w.heap.size < itLeft wr w.heap.size by rw [hC'.it.left, hC.it.left]; have := hI2.len; simp at this ⊢; omega)
      simp only [Ent.cs] at hwz
      rw [← hwz]
      have c0 := k0 0 _ rfl
      have c1 := k0 1 _ rfl
      have c2 := k0 2 _ rfl
      obtain ⟨t0, t1, t2, t3, t4, t5, t6⟩ := ent_cells v0
      have HC' := Lib.hid hC'
      dsimp only [Ent.v, Ent.k] at hU
      clear hwz k0 v0 hgr2 hgrz hbz hitz hC' hsz XZ hI2 hg2 hen hC
      go_wp2_with fail
      go_roundw
      case rel => exact ⟨s ++ [i], C', HC'.out⟩
      case measure => exact HLT.out
end Go.Proofs.Ytepcnpnpjfdfmaa
namespace Go.Proofs.Ytepcnpnpjfdfmaa
open Go.RowKit Go.Maps
open Go.ChangeMaps (setBlock)
attribute [local go_sem 2000] equal_ent
set_option maxRecDepth 100000 in
set_option maxHeartbeats 4000000 in
theorem join_any (q b q' b' : Nat) (L M : List Ent) (w : World) (hS : SetAt w q b L) (hS' : SetAt w q' b' M) :
    Calls Try.prog 26 #[.pointer (some ⟨q, 0, none⟩), .pointer (some ⟨q', 0, none⟩)] w fun e w' =>
      (¬ Fits L M ∧ e = .returned (errV 20) ∧ Ext w w') ∨ (Fits L M ∧ e = .returned .nilIface ∧ w.grownBy w' (some b) ∧ ∃ C, SetAt w' q b C ∧ ∀ x, x ∈ C ↔ x ∈ L ∨ x ∈ M) := by
  have hc := hS.c
  have hc' := hS'.c
  have HS := Lib.hid (And.intro hS hS')
  have hb' := hS'.hb
  clear hS hS'
  go_enter Try.func26, Try.ntmps26
  go_wp2_with (first
    | (at_range; refine wpList_range_mp rfl _ rfl rfl hb' ?_; intro hI0)
    | go_in)
  go_frame
  obtain ⟨r, hr⟩ : ∃ r, w.heap.size = r := ⟨_, rfl⟩
  have HR := Lib.hid hr
  rw [hr] at hI0 ⊢
  go_loopw [5, 6, 7, 8] (fun _ _ _ _ wr => ∃ s, ItAt wr r b' M s ∧ Hid (Ext w wr ∧ ∀ x ∈ picks M s, ∀ y ∈ L, y.key = x.key → y = x)) (fun _ _ _ _ wr => itLeft wr r)
  case atStart => exact ⟨[], hI0, Lib.hid ⟨(Ext.refl w).alloc _, by simp [picks]⟩⟩
  case round =>
    obtain ⟨s, hI, HX⟩ := hrel
    go_wp2_with (first
      | (at_next; refine wpList_next_mp rfl _ rfl rfl hI ?_ ?_)
      | go_in)
    · intro hlen
      have hfit : Fits L M := fun x hx y hy hk => HX.out.2 x ((picks_perm M hI.nd hI.lt hlen).mem_iff.2 hx) y hy hk
      have hcr := HX.out.1.cell hc
      have hcr' := HX.out.1.cell hc'
      have c1 : ∀ n : Wd wr, n.val.cell? ⟨q, 0, none⟩ = some (.map (some b)) := fun n => n.ext.cell hcr
      have c2 : ∀ n : Wd wr, n.val.cell? ⟨q', 0, none⟩ = some (.map (some b')) := fun n => n.ext.cell hcr'
      clear hcr hcr' hc hc'
      go_upto_region 11 with fail
      have HCO : Hid (∀ n : Wd wr, Calls Try.prog 47 #[.map (some b), .map (some b')] n.val fun e w' => e = .returned (.tuple #[]) ∧ w.grownBy w' (some b) ∧ ∃ C, SetAt w' q b C ∧ ∀ x, x ∈ C ↔ x ∈ L ∨ x ∈ M) := Lib.hid (fun n => by
        have h1 := HS.out.1.ext (HX.out.1.trans n.ext)
        have h2 := HS.out.2.ext (HX.out.1.trans n.ext)
        refine (copy_any b b' L M n.val h1.hb h2.hb h1.ok h2.ok h1.nd h2.nd hfit).mono ?_
        rintro e w' ⟨rfl, hg, C, hC, hok, hnd, hm⟩
        exact ⟨rfl, ((HX.out.1.trans n.ext).grown (some b)).andThen hg (fun j hj => .inr hj), C, ⟨(World.cell?_of_block (hg.block q (World.block_lt_of_cell? _ _ h1.c) (by simpa using h1.ne))).trans h1.c, hC, hok, hnd⟩, hm⟩)
      have HFI := Lib.hid hfit
      clear hfit
      refine wp_region_wd_tail 8 (by kernel_rfl) (by kernel_rfl) ?_
      simp only [List.take_succ_cons, List.take_zero, List.drop_succ_cons, List.drop_zero]
      repeat (go_big_quiet_step (fail))
      refine wpQuiet_nil ?_
      rintro _ ⟨nq, rfl⟩
      clear c1 c2
      go_wp2_with (go_at_call 47; refine (HCO.out nq).mono ?_; rintro e w5 ⟨rfl, hg5, hC5⟩)
      go_ret
      exact .inr ⟨HFI.out, rfl, hg5, hC5⟩
    · intro i x w2 hx hns hI2 hg2 hs2 hen
      have hps : picks M (s ++ [i]) = picks M s ++ [x] := picks_snoc M s hx
      have HPS := Lib.hid hps
      have HXM := Lib.hid (List.mem_of_getElem? hx)
      have hlt2 : itLeft w2 r < itLeft wr r := by rw [hI2.left, hI.left]; have := hI2.len; simp at this ⊢; omega
      dsimp only [Ent.v, Ent.k] at hen ⊢
      clear hs2 hps
      go_upto_region 8 with fail
      obtain ⟨wz, hwz⟩ : ∃ wz, wz = (w2.alloc (.cells #[.string x.nd, .int .i64 x.bt, .int .i64 x.sq] 95)).alloc (.cells x.cs.toArray 86) := ⟨_, rfl⟩
      have XZ : Ext w2 wz := by rw [hwz]; exact ((Ext.refl w2).alloc _).alloc _
      have k0 : ∀ j u, [Value.string x.nd, .int .i64 x.bt, .int .i64 x.sq][j]? = some u → wz.cell? ⟨w2.heap.size, j, none⟩ = some u := fun j u hj => by
        rw [hwz]
        exact ((Ext.refl _).alloc _).cell (cell_at_new w2 _ _ _ rfl j u hj)
      have v0 : RowB wz (w2.heap.size + 1) 86 x.cs := by
        rw [hwz]
        have := row_laid (w2.alloc (.cells #[.string x.nd, .int .i64 x.bt, .int .i64 x.sq] 95)) 86 x.cs
        simpa using this
      have hX2 : Ext w w2 := Below.grown HX.out.1 hg2 HX.out.1.size (fun j hj => by cases hj; have := HR.out; omega)
      have hitz : ItAt wz r b' M (s ++ [i]) := hI2.kept (Below.block XZ b' (Array.getElem?_eq_some_iff.1 hI2.hb).1) (Below.block XZ _ (Array.getElem?_eq_some_iff.1 hI2.hr).1)
      have HIZ := Lib.hid hitz
      have HXZ := Lib.hid (hX2.trans XZ)
      have HLT := Lib.hid (show itLeft wz r < itLeft wr r by rw [hitz.left, ← hI2.left]; exact hlt2)
      have HKZ : Hid (∀ W, Ext wz W → W.cell? ⟨w2.heap.size, 0, none⟩ = some (.string x.nd) ∧ W.cell? ⟨w2.heap.size, 1, none⟩ = some (.int .i64 x.bt) ∧ W.cell? ⟨w2.heap.size, 2, none⟩ = some (.int .i64 x.sq)) := Lib.hid (fun W hW => ⟨hW.cell (k0 0 _ rfl), hW.cell (k0 1 _ rfl), hW.cell (k0 2 _ rfl)⟩)
      have HVZ := Lib.hid v0
      have HCZ : Hid (∀ W, Ext wz W → W.cell? ⟨q, 0, none⟩ = some (.map (some b))) := Lib.hid (fun W hW => (HXZ.out.trans hW).cell hc)
      have hLk : ∃ (old : Ent) (there : Bool), (∀ W, Ext wz W → (Instr.lookup 93 (.map (some b)) x.k true).run Try.prog W = .ok (.tuple #[old.v, .bool there]) W) ∧ ((there = false ∧ ∀ y ∈ L, y.key ≠ x.key) ∨ (there = true ∧ old ∈ L ∧ old.key = x.key)) := by
        have hwx : x.wf := Ent.good.wf (HS.out.2.ok x HXM.out)
        have hwL : ∀ e ∈ L, e.wf := fun e he => Ent.good.wf (HS.out.1.ok e he)
        have hbW : ∀ W, Ext wz W → W.heap[b]? = some (mpO L) := fun W hW => (HS.out.1.ext (HXZ.out.trans hW)).hb
        rcases look_mp (hbW wz (Ext.refl _)) hwL x hwx true with ⟨hn, _⟩ | ⟨e, he, hk, _⟩
        · refine ⟨entZ, false, fun W hW => ?_, .inl ⟨rfl, hn⟩⟩
          rcases look_mp (hbW W hW) hwL x hwx true with ⟨_, hr⟩ | ⟨e, he, hk, _⟩
          · exact hr
          · exact absurd hk (hn e he)
        · refine ⟨e, true, fun W hW => ?_, .inr ⟨rfl, he, hk⟩⟩
          rcases look_mp (hbW W hW) hwL x hwx true with ⟨hn, _⟩ | ⟨e', he', hk', hr⟩
          · exact absurd hk (hn e he)
          · rw [pair_unique HS.out.1.nd he he' (hk.trans hk'.symm)]; exact hr
      obtain ⟨old, there, hLK, hcase⟩ := hLk
      have HL := Lib.hid hLK
      have HCS := Lib.hid hcase
      simp only [Ent.v, Ent.k] at HL
      simp only [Ent.cs] at hwz
      rw [← hwz]
      obtain ⟨t5, ht5⟩ : ∃ t, w2.heap.size = t := ⟨_, rfl⟩
      rw [ht5] at HKZ HVZ ⊢
      clear hwz k0 v0 hitz XZ hI2 hg2 hen hX2 hlt2 hLK hcase ht5 hc hc' hx
      go_cut [7, 8] (fun pv kv wx => ∃ mb, pv = .pointer (some ⟨mb, 0, none⟩) ∧ kv = .bool there ∧ Ext wz wx ∧ RowB wx mb 86 old.cs)
      case first =>
        refine wp_region_C (C := fun w' => Ext wz w') (by kernel_rfl) ?_
        have HN1 := Lib.hid (show Ext wz wz.drew from (Ext.refl _).drew)
        refine wpAnyC_take (i := 0) (v := .pointer (some ⟨q, 0, none⟩)) rfl (by kernel_rfl) (by kernel_rfl) (by kernel_rfl) (fun _ _ _ h => h) HN1.out (by kernel_rfl) ?_ ?_
        · intro W hW; go_simp; all_goals first | (with_reducible rfl) | skip
        change wpAnyC _ _ _ _ _ _ _ (Act.put _ (some 25) (.pointer (some ⟨q, 0, none⟩))) _
        try simp only [Act.put, List.setIfInBounds_toArray, List.set_cons_succ, List.set_cons_zero]
        refine wpAnyC_take (i := 1) (v := .pointer (some ⟨q, 0, none⟩)) rfl (by kernel_rfl) (by kernel_rfl) (by kernel_rfl) (fun _ _ _ h => h) HN1.out (by kernel_rfl) ?_ ?_
        · intro W hW; go_simp; all_goals first | (with_reducible rfl) | skip
        change wpAnyC _ _ _ _ _ _ _ (Act.put _ (some 26) (.pointer (some ⟨q, 0, none⟩))) _
        try simp only [Act.put, List.setIfInBounds_toArray, List.set_cons_succ, List.set_cons_zero]
        refine wpAnyC_take (i := 2) (v := .pointer (some ⟨q, 0, none⟩)) rfl (by kernel_rfl) (by kernel_rfl) (by kernel_rfl) (fun _ _ _ h => h) HN1.out (by kernel_rfl) ?_ ?_
        · intro W hW; go_simp; all_goals first | (with_reducible rfl) | skip
        change wpAnyC _ _ _ _ _ _ _ (Act.put _ (some 27) (.pointer (some ⟨q, 0, none⟩))) _
        try simp only [Act.put, List.setIfInBounds_toArray, List.set_cons_succ, List.set_cons_zero]
        refine wpAnyC_take (i := 3) (v := .map (some b)) rfl (by kernel_rfl) (by kernel_rfl) (by kernel_rfl) (fun _ _ _ h => h) HN1.out (by kernel_rfl) ?_ ?_
        · intro W hW; have zz := HCZ.out _ hW; go_simp; all_goals first | (with_reducible rfl) | skip
        change wpAnyC _ _ _ _ _ _ _ (Act.put _ (some 28) (.map (some b))) _
        try simp only [Act.put, List.setIfInBounds_toArray, List.set_cons_succ, List.set_cons_zero]
        refine wpAnyC_take (i := 4) (v := .agg #[.string x.nd, .int .i64 x.bt, .int .i64 x.sq]) rfl (by kernel_rfl) (by kernel_rfl) (by kernel_rfl) (fun _ _ _ h => h) HN1.out (by kernel_rfl) ?_ ?_
        · intro W hW; obtain ⟨z0, z1, z2⟩ := HKZ.out _ hW; go_simp; all_goals first | (with_reducible rfl) | skip
        change wpAnyC _ _ _ _ _ _ _ (Act.put _ (some 29) (.agg #[.string x.nd, .int .i64 x.bt, .int .i64 x.sq])) _
        try simp only [Act.put, List.setIfInBounds_toArray, List.set_cons_succ, List.set_cons_zero]
        refine wpAnyC_take (i := 5) (v := .tuple #[.agg #[.string old.nd, .int .i64 old.bt, .int .i64 old.sq, .int .i64 old.tn, .int .i64 old.ht, .int .i64 old.by_, .int .i64 old.at_], .bool there]) rfl (by kernel_rfl) (by kernel_rfl) (by kernel_rfl) (fun _ _ _ h => h) HN1.out (by kernel_rfl) ?_ ?_
        · intro W hW; have zz := HL.out _ hW; go_simp; all_goals first | (with_reducible rfl) | skip
        change wpAnyC _ _ _ _ _ _ _ (Act.put _ (some 30) (.tuple #[.agg #[.string old.nd, .int .i64 old.bt, .int .i64 old.sq, .int .i64 old.tn, .int .i64 old.ht, .int .i64 old.by_, .int .i64 old.at_], .bool there])) _
        try simp only [Act.put, List.setIfInBounds_toArray, List.set_cons_succ, List.set_cons_zero]
        refine wpAnyC_take (i := 6) (v := .tuple #[.agg #[.string old.nd, .int .i64 old.bt, .int .i64 old.sq, .int .i64 old.tn, .int .i64 old.ht, .int .i64 old.by_, .int .i64 old.at_], .bool there]) rfl (by kernel_rfl) (by kernel_rfl) (by kernel_rfl) (fun _ _ _ h => h) HN1.out (by kernel_rfl) ?_ ?_
        · intro W hW; go_simp; all_goals first | (with_reducible rfl) | skip
        change wpAnyC _ _ _ _ _ _ _ (Act.put _ (some 24) (.tuple #[.agg #[.string old.nd, .int .i64 old.bt, .int .i64 old.sq, .int .i64 old.tn, .int .i64 old.ht, .int .i64 old.by_, .int .i64 old.at_], .bool there])) _
        try simp only [Act.put, List.setIfInBounds_toArray, List.set_cons_succ, List.set_cons_zero]
        refine wpAnyC_take (i := 7) (v := .agg #[.string old.nd, .int .i64 old.bt, .int .i64 old.sq, .int .i64 old.tn, .int .i64 old.ht, .int .i64 old.by_, .int .i64 old.at_]) rfl (by kernel_rfl) (by kernel_rfl) (by kernel_rfl) (fun _ _ _ h => h) HN1.out (by kernel_rfl) ?_ ?_
        · intro W hW; go_simp; all_goals first | (with_reducible rfl) | skip
        change wpAnyC _ _ _ _ _ _ _ (Act.put _ (some 31) (.agg #[.string old.nd, .int .i64 old.bt, .int .i64 old.sq, .int .i64 old.tn, .int .i64 old.ht, .int .i64 old.by_, .int .i64 old.at_])) _
        try simp only [Act.put, List.setIfInBounds_toArray, List.set_cons_succ, List.set_cons_zero]
        refine wpAnyC_take (i := 8) (v := .bool there) rfl (by kernel_rfl) (by kernel_rfl) (by kernel_rfl) (fun _ _ _ h => h) HN1.out (by kernel_rfl) ?_ ?_
        · intro W hW; go_simp; all_goals first | (with_reducible rfl) | skip
        change wpAnyC _ _ _ _ _ _ _ (Act.put _ (some 32) (.bool there)) _
        try simp only [Act.put, List.setIfInBounds_toArray, List.set_cons_succ, List.set_cons_zero]
        refine wpAnyC_one 9 (by kernel_rfl) rfl (by kernel_rfl) (fun KK hKK => ?_)
        go_simp
        refine hKK _ _ (Ext.alloc HN1.out _) ?_
        clear hKK KK
        try simp only [Act.put, List.setIfInBounds_toArray, List.set_cons_succ, List.set_cons_zero]
        refine wpAnyC_one 10 (by kernel_rfl) rfl (by kernel_rfl) (fun KK hKK => ?_)
        go_simp
        refine hKK _ _ (Ext.alloc HN1.out _) ?_
        clear hKK KK
        try simp only [Act.put, List.setIfInBounds_toArray, List.set_cons_succ, List.set_cons_zero]
        refine wpAnyC_one 11 (by kernel_rfl) rfl (by kernel_rfl) (fun KK hKK => ?_)
        go_simp
        refine hKK _ _ (Ext.alloc HN1.out _) ?_
        clear hKK KK
        try simp only [Act.put, List.setIfInBounds_toArray, List.set_cons_succ, List.set_cons_zero]
        refine ⟨by kernel_rfl, ?_⟩
        go_wp2_with fail
        go_meet
        exact ⟨wz.heap.size, rfl, rfl, Ext.alloc HN1.out _, row_laid _ _ old.cs⟩
      obtain ⟨mb, rfl, rfl, hx2, HM⟩ := hcut
      obtain ⟨t0, t1, t2, t3, t4, t5', t6⟩ := ent_cells (HVZ.out.ext hx2)
      obtain ⟨m0, m1, m2, m3, m4, m5, m6⟩ := ent_cells HM
      have HX2 := Lib.hid hx2
      obtain ⟨c, hcc⟩ : ∃ c, eqE old.nd old.bt old.sq old.tn old.ht old.by_ old.at_ x.nd x.bt x.sq x.tn x.ht x.by_ x.at_ = c := ⟨_, rfl⟩
      have HCC : Hid (c = decide (old = x)) := Lib.hid (hcc.symm.trans (eqE_ent old x))
      clear hx2 HM
      have goon : ((there = false ∧ ∀ y ∈ L, y.key ≠ x.key) ∨ old = x) → ∃ s, ItAt wc r b' M s ∧ Hid (Ext w wc ∧ ∀ x ∈ picks M s, ∀ y ∈ L, y.key = x.key → y = x) := by
        intro hor
        refine ⟨s ++ [i], HIZ.out.kept (Below.block HX2.out b' (Array.getElem?_eq_some_iff.1 HIZ.out.hb).1) (Below.block HX2.out _ (Array.getElem?_eq_some_iff.1 HIZ.out.hr).1), Lib.hid ⟨HXZ.out.trans HX2.out, fun z hz y hy hk => ?_⟩⟩
        rw [HPS.out] at hz
        rcases List.mem_append.1 hz with hz | hz
        · exact HX.out.2 z hz y hy hk
        · simp only [List.mem_singleton] at hz
          subst hz
          rcases hor with ⟨_, hno⟩ | rfl
          · exact absurd hk (hno y hy)
          · rcases HCS.out with ⟨_, hno⟩ | ⟨_, ho, _⟩
            · exact absurd hk (hno y hy)
            · exact pair_unique HS.out.1.nd hy ho hk
      have GO := Lib.hid goon
      have GL : Hid (itLeft wc r < itLeft wr r) := Lib.hid (by
        have h1 : itLeft wc r = itLeft wz r := by unfold itLeft; rw [Below.block HX2.out _ (Array.getElem?_eq_some_iff.1 HIZ.out.hr).1]
        rw [h1]; exact HLT.out)
      clear goon
      cases there with
      | false =>
        have hno : ∀ y ∈ L, y.key ≠ x.key := by rcases HCS.out with ⟨_, h⟩ | ⟨h, _⟩; · exact h
                                                · cases h
        have HNO := Lib.hid hno
        clear hno
        go_wp2_with fail
        go_roundw
        case rel => exact GO.out (.inl ⟨rfl, HNO.out⟩)
        case measure => exact GL.out
      | true =>
        cases c with
        | true =>
          go_wp2_with fail
          go_roundw
          case rel => exact GO.out (.inr (of_decide_eq_true HCC.out.symm))
          case measure => exact GL.out
        | false =>
          have hne := of_decide_eq_false HCC.out.symm
          have HNE := Lib.hid hne
          clear hne
          go_wp2_with fail
          go_ret
          refine .inl ⟨fun hf => ?_, rfl, HXZ.out.trans HX2.out⟩
          rcases HCS.out with ⟨h, _⟩ | ⟨_, ho, hk⟩
          · cases h
          · exact HNE.out (hf x HXM.out old ho hk)
end Go.Proofs.Ytepcnpnpjfdfmaa
namespace Go.Proofs.Ytepcnpnpjfdfmaa
open Go.RowKit Go.Maps
end Go.Proofs.Ytepcnpnpjfdfmaa
namespace Go.Proofs.Ytepcnpnpjfdfmaa
open Go.RowKit Go.Maps
theorem keys_nodup {L : List Ent} (h : L.Pairwise fun a b => a.key ≠ b.key) : L.Nodup := h.imp fun h e => h (by rw [e])
theorem tied_of_mem {r C : List Ent} (hs : r.Pairwise ltE) (hd : C.Pairwise fun a b => a.key ≠ b.key) (hm : ∀ x, x ∈ r ↔ x ∈ C) : Tied C r :=
  ⟨(List.perm_ext_iff_of_nodup (keys_nodup (hs.imp fun h => ltE_key h)) (keys_nodup hd)).2 hm, hs⟩
/-- the reference's union after some of the other's entries -/
structure UnAt (r t W : List Ent) (mx : Bool) : Prop where
  s : W.Pairwise ltE
  mem : ∀ z, z ∈ W ↔ z ∈ r ∨ (z ∈ t ∧ ∀ y ∈ r, y.key ≠ z.key)
  mx : mx = true ↔ ∃ x ∈ t, ∃ y ∈ r, y.key = x.key ∧ y ≠ x
theorem UnAt.start {r : List Ent} (h : r.Pairwise ltE) : UnAt r [] r false := ⟨h, by simp, by simp⟩
theorem UnAt.there {r t W : List Ent} {mx : Bool} (h : UnAt r t W mx) {x y : Ent} (hx : ∀ z ∈ t, z.key ≠ x.key) (hy : y ∈ W) (hk : y.key = x.key) : UnAt r (t ++ [x]) W (mx || !decide (y = x)) := by
  have hyr : y ∈ r := by
    rcases (h.mem y).1 hy with h1 | ⟨h1, _⟩
    · exact h1
    · exact absurd hk (hx y h1)
  refine ⟨h.s, fun z => ?_, ?_⟩
  · rw [h.mem z]
    constructor
    · rintro (h1 | ⟨h1, h2⟩)
      · exact .inl h1
      · exact .inr ⟨by simp [h1], h2⟩
    · rintro (h1 | ⟨h1, h2⟩)
      · exact .inl h1
      · rcases List.mem_append.1 h1 with h1 | h1
        · exact .inr ⟨h1, h2⟩
        · simp only [List.mem_singleton] at h1
          subst h1
          exact absurd hk (h2 y hyr)
  · rw [Bool.or_eq_true, h.mx]
    simp only [Bool.not_eq_true', decide_eq_false_iff_not]
    constructor
    · rintro (⟨a, ha, c, hc, h1, h2⟩ | h1)
      · exact ⟨a, by simp [ha], c, hc, h1, h2⟩
      · exact ⟨x, by simp, y, hyr, hk, h1⟩
    · rintro ⟨a, ha, c, hc, h1, h2⟩
      rcases List.mem_append.1 ha with ha | ha
      · exact .inl ⟨a, ha, c, hc, h1, h2⟩
      · simp only [List.mem_singleton] at ha
        subst ha
        right
        have e : y = c := sorted_key h.s hy ((h.mem c).2 (.inl hc)) (hk.trans h1.symm)
        rw [e]
        exact h2
theorem UnAt.new {r t W : List Ent} {mx : Bool} (h : UnAt r t W mx) {x : Ent} (hno : ∀ y ∈ W, y.key ≠ x.key) : UnAt r (t ++ [x]) (insE x W) mx := by
  have hnr : ∀ y ∈ r, y.key ≠ x.key := fun y hy => hno y ((h.mem y).2 (.inl hy))
  refine ⟨ins_sorted h.s hno, fun z => ?_, ?_⟩
  · rw [(ins_perm x W).mem_iff, List.mem_cons, h.mem z]
    constructor
    · rintro (rfl | h1 | ⟨h1, h2⟩)
      · exact .inr ⟨by simp, hnr⟩
      · exact .inl h1
      · exact .inr ⟨by simp [h1], h2⟩
    · rintro (h1 | ⟨h1, h2⟩)
      · exact .inr (.inl h1)
      · rcases List.mem_append.1 h1 with h1 | h1
        · exact .inr (.inr ⟨h1, h2⟩)
        · simp only [List.mem_singleton] at h1
          exact .inl h1
  · rw [h.mx]
    constructor
    · rintro ⟨a, ha, c, hc, h1, h2⟩
      exact ⟨a, by simp [ha], c, hc, h1, h2⟩
    · rintro ⟨a, ha, c, hc, h1, h2⟩
      rcases List.mem_append.1 ha with ha | ha
      · exact ⟨a, ha, c, hc, h1, h2⟩
      · simp only [List.mem_singleton] at ha
        subst ha
        exact absurd h1 (hnr c hc)
end Go.Proofs.Ytepcnpnpjfdfmaa
namespace Go.Proofs.Ytepcnpnpjfdfmaa
open Go.RowKit Go.Maps
set_option maxRecDepth 100000 in
theorem join_none (v : Value) (w : World) : Calls Try.prog 26 #[.pointer none, v] w fun e w' => e = .returned (errV 3) ∧ w = w' := by
  go_enter Try.func26, Try.ntmps26
  go_wp2_with fail
  go_ret
  exact ⟨rfl, rfl⟩
set_option maxRecDepth 100000 in
theorem join_nil (q : Nat) (w : World) : Calls Try.prog 26 #[.pointer (some ⟨q, 0, none⟩), .pointer none] w fun e w' => e = .returned .nilIface ∧ w = w' := by
  go_enter Try.func26, Try.ntmps26
  go_wp2_with fail
  go_ret
  exact ⟨rfl, rfl⟩
end Go.Proofs.Ytepcnpnpjfdfmaa
namespace Go.Proofs.Ytepcnpnpjfdfmaa
open Go.RowKit Go.Maps
/-- a slice of integers that came in -/
def IntsArg (w : World) (k : IntKind) (v : Value) (xs : List Int) : Prop := ∃ A cap, v = .slice A xs.length cap ∧ (0 < xs.length → ∃ a, A = some a ∧ ∀ i x, xs[i]? = some x → w.cell? (a.add i) = some (.int k x))
section
open Go.ChangeShapes Go.WideShapes Go.Deep
end
theorem IntsArg.ext {w w' : World} {k : IntKind} {v : Value} {xs : List Int} (h : IntsArg w k v xs) (hx : Ext w w') : IntsArg w' k v xs := by
  obtain ⟨A, cap, rfl, hr⟩ := h
  exact ⟨A, cap, rfl, fun hl => let ⟨a, e, hc⟩ := hr hl; ⟨a, e, fun i x hi => hx.cell (hc i x hi)⟩⟩
theorem putL_mem {L : List Ent} {x : Ent} (h : fitsL L x) (z : Ent) : z ∈ putL L x ↔ z ∈ L ∨ z = x := by
  unfold putL
  split
  · simp
  · rename_i hn
    constructor
    · exact fun h => .inl h
    · rintro (h1 | rfl)
      · exact h1
      · refine Classical.byContradiction fun hz => hn ⟨h.1, fun y hy hk => hz ?_⟩
        rw [← h.2 y hy hk]
        exact hy
/-- entries that do not contradict each other -/
def Coh (es : List Ent) : Prop := (∀ x ∈ es, x.good) ∧ ∀ x ∈ es, ∀ y ∈ es, y.key = x.key → y = x
theorem Coh.fits {es L : List Ent} (h : Coh es) (hs : ∀ z ∈ L, z ∈ es) {x : Ent} (hx : x ∈ es) : fitsL L x := ⟨h.1 x hx, fun y hy hk => h.2 x hx y (hs y hy) hk⟩
theorem Coh.both {es L M : List Ent} (h : Coh es) (hs : ∀ z ∈ L, z ∈ es) (ht : ∀ z ∈ M, z ∈ es) : Fits L M := fun x hx y hy hk => h.2 x (ht x hx) y (hs y hy) hk
theorem srt_same {L M : List Ent} (hL : L.Pairwise fun a b => a.key ≠ b.key) (hM : M.Pairwise fun a b => a.key ≠ b.key) (h : ∀ z, z ∈ L ↔ z ∈ M) : Tied M (srtL L) :=
  tied_of_mem (srt_tied hL).s hM (fun x => (srt_tied hL).mem.trans (h x))
theorem SetAt.lists_like {w : World} {q b : Nat} {L M : List Ent} (h : SetAt w q b M) (hL : L.Pairwise fun a b => a.key ≠ b.key) (hN : M.length ≤ 1000) (hm : ∀ z, z ∈ L ↔ z ∈ M) : ListsTo w (.pointer (some ⟨q, 0, none⟩)) (srtL L) :=
  lists_set (srt_same hL h.nd hm).s (srt_same hL h.nd hm).p hN h
theorem wf_of_new {w' : World} {q b : Nat} {L : List Ent} (h : SetAt w' q b L) : b < w'.heap.size ∧ q < w'.heap.size := by
  have h1 := (Array.getElem?_eq_some_iff.1 h.hb).1
  have h2 := World.block_lt_of_cell? w' _ h.c
  simp only at h2
  exact ⟨h1, h2⟩
/-- three sets next to each other, made after 'w' -/
structure TT (w wx : World) (q b : Nat) (L : List Ent) (qb bb : Nat) (B : List Ent) (qc bc : Nat) (C : List Ent) (es : List Ent) : Prop where
  x : Ext w wx
  a : SetAt wx q b L
  b : SetAt wx qb bb B
  c : SetAt wx qc bc C
  sb : ∀ z ∈ B, z ∈ es
  sc : ∀ z ∈ C, z ∈ es
/-- their blocks are different ones -/
structure TD (w : World) (q b qb bb qc bc : Nat) : Prop where
  lo : w.heap.size ≤ b ∧ w.heap.size ≤ bb ∧ w.heap.size ≤ bc
  ne : b ≠ bb ∧ b ≠ bc ∧ bb ≠ bc
  nq : q ≠ bb ∧ q ≠ bc ∧ qb ≠ b ∧ qb ≠ bc ∧ qc ≠ b ∧ qc ≠ bb
theorem TT.putB {w wx : World} {q b qb bb qc bc : Nat} {L B C es : List Ent} (h : TT w wx q b L qb bb B qc bc C es) (d : TD w q b qb bb qc bc) (hc : Coh es) {y : Ent} (hy : y ∈ es) (ht : y.typed) :
    Calls Try.prog 39 #[.pointer (some ⟨qb, 0, none⟩), y.v] wx fun e w' => ∃ is, e = .returned (.tuple #[.bool is, .nilIface]) ∧ TT w w' q b L qb bb (putL B y) qc bc C es := by
  refine (put_any qb bb B y wx h.b ht).mono ?_
  rintro e w' ⟨is, bad, rfl, hg, hS, hcase⟩
  have hf := hc.fits h.sb hy
  rcases hcase with ⟨-, rfl⟩ | ⟨hn, -⟩
  · refine ⟨is, rfl, h.x.grownB hg d.lo.2.1, h.a.kept hg (by simpa using d.nq.1) (by simpa using d.ne.1), hS, h.c.kept hg (by simpa using d.nq.2.2.2.2.2) (by simpa using d.ne.2.2.symm), fun z hz => ?_, h.sc⟩
    rcases (putL_mem hf z).1 hz with h1 | rfl
    · exact h.sb z h1
    · exact hy
  · exact absurd hf hn
theorem TT.putC {w wx : World} {q b qb bb qc bc : Nat} {L B C es : List Ent} (h : TT w wx q b L qb bb B qc bc C es) (d : TD w q b qb bb qc bc) (hc : Coh es) {y : Ent} (hy : y ∈ es) (ht : y.typed) :
    Calls Try.prog 39 #[.pointer (some ⟨qc, 0, none⟩), y.v] wx fun e w' => ∃ is, e = .returned (.tuple #[.bool is, .nilIface]) ∧ TT w w' q b L qb bb B qc bc (putL C y) es := by
  refine (put_any qc bc C y wx h.c ht).mono ?_
  rintro e w' ⟨is, bad, rfl, hg, hS, hcase⟩
  have hf := hc.fits h.sc hy
  rcases hcase with ⟨-, rfl⟩ | ⟨hn, -⟩
  · refine ⟨is, rfl, h.x.grownB hg d.lo.2.2, h.a.kept hg (by simpa using d.nq.2.1) (by simpa using d.ne.2.1), h.b.kept hg (by simpa using d.nq.2.2.2.1) (by simpa using d.ne.2.2), hS, h.sb, fun z hz => ?_⟩
    rcases (putL_mem hf z).1 hz with h1 | rfl
    · exact h.sc z h1
    · exact hy
  · exact absurd hf hn
theorem TT.ext {w wx w' : World} {q b qb bb qc bc : Nat} {L B C es : List Ent} (h : TT w wx q b L qb bb B qc bc C es) (hx : Ext wx w') : TT w w' q b L qb bb B qc bc C es :=
  ⟨h.x.trans hx, h.a.ext hx, h.b.ext hx, h.c.ext hx, h.sb, h.sc⟩
/-- Join of the second with the third -/
theorem TT.joinB {w wx : World} {q b qb bb qc bc : Nat} {L B C es : List Ent} (h : TT w wx q b L qb bb B qc bc C es) (d : TD w q b qb bb qc bc) (hc : Coh es) :
    Calls Try.prog 26 #[.pointer (some ⟨qb, 0, none⟩), .pointer (some ⟨qc, 0, none⟩)] wx fun e w' => e = .returned .nilIface ∧ ∃ B', TT w w' q b L qb bb B' qc bc C es ∧ ∀ z, z ∈ B' ↔ z ∈ B ∨ z ∈ C := by
  refine (join_any qb bb qc bc B C wx h.b h.c).mono ?_
  rintro e w' (⟨hn, -⟩ | ⟨-, rfl, hg, B', hB, hm⟩)
  · exact absurd (hc.both h.sb h.sc) hn
  · exact ⟨rfl, B', ⟨h.x.grownB hg d.lo.2.1, h.a.kept hg (by simpa using d.nq.1) (by simpa using d.ne.1), hB, h.c.kept hg (by simpa using d.nq.2.2.2.2.2) (by simpa using d.ne.2.2.symm), fun z hz => ((hm z).1 hz).elim (h.sb z) (h.sc z), h.sc⟩, hm⟩
theorem TT.joinC {w wx : World} {q b qb bb qc bc : Nat} {L B C es : List Ent} (h : TT w wx q b L qb bb B qc bc C es) (d : TD w q b qb bb qc bc) (hc : Coh es) :
    Calls Try.prog 26 #[.pointer (some ⟨qc, 0, none⟩), .pointer (some ⟨qb, 0, none⟩)] wx fun e w' => e = .returned .nilIface ∧ ∃ C', TT w w' q b L qb bb B qc bc C' es ∧ ∀ z, z ∈ C' ↔ z ∈ C ∨ z ∈ B := by
  refine (join_any qc bc qb bb C B wx h.c h.b).mono ?_
  rintro e w' (⟨hn, -⟩ | ⟨-, rfl, hg, B', hB, hm⟩)
  · exact absurd (hc.both h.sc h.sb) hn
  · exact ⟨rfl, B', ⟨h.x.grownB hg d.lo.2.2, h.a.kept hg (by simpa using d.nq.2.1) (by simpa using d.ne.2.1), h.b.kept hg (by simpa using d.nq.2.2.2.1) (by simpa using d.ne.2.2), hB, h.sb, fun z hz => ((hm z).1 hz).elim (h.sc z) (h.sb z)⟩, hm⟩
theorem SetAt.lists_of {w : World} {q b : Nat} {L M : List Ent} (h : SetAt w q b M) (hL : L.Pairwise fun a b => a.key ≠ b.key) (hN : L.length ≤ 1000) (hm : ∀ z, z ∈ L ↔ z ∈ M) : ListsTo w (.pointer (some ⟨q, 0, none⟩)) (srtL L) :=
  h.lists_like hL (by rw [← ((List.perm_ext_iff_of_nodup (keys_nodup hL) (keys_nodup h.nd)).2 hm).length_eq]; exact hN) hm
end Go.Proofs.Ytepcnpnpjfdfmaa
namespace Go.Proofs.Ytepcnpnpjfdfmaa
open Go.RowKit Go.Maps
end Go.Proofs.Ytepcnpnpjfdfmaa
namespace Go.Proofs.Ytepcnpnpjfdfmaa
open Go.RowKit Go.Maps
theorem len_sub : ∀ {L M : List Ent}, L.Nodup → (∀ z ∈ L, z ∈ M) → L.length ≤ M.length
  | [], _, _, _ => Nat.zero_le _
  | x :: L, M, hn, hs => by
    obtain ⟨h1, h2⟩ := List.nodup_cons.1 hn
    obtain ⟨A, B, rfl⟩ := List.append_of_mem (hs x (by simp))
    have ih := len_sub (M := A ++ B) h2 (fun z hz => by
      have h3 := hs z (by simp [hz])
      simp only [List.mem_append, List.mem_cons] at h3 ⊢
      rcases h3 with h3 | rfl | h3
      · exact .inl h3
      · exact absurd hz h1
      · exact .inr h3)
    simp only [List.length_append, List.length_cons] at ih ⊢
    omega
/-- three lists that came in, in a variable -/
structure Lists3 (w : World) (lb : Nat) (g : Nat → List Ent) : Prop where
  at_ : ∀ k, k < 3 → ∃ v, w.cell? ⟨lb, k, none⟩ = some v ∧ EnsArg w v (g k)
  len : ∀ k, k < 3 → (g k).length ≤ 30
  ty : ∀ k, k < 3 → ∀ x ∈ g k, x.typed
theorem Lists3.ext {w w' : World} {lb : Nat} {g : Nat → List Ent} (h : Lists3 w lb g) (hx : Ext w w') : Lists3 w' lb g :=
  ⟨fun k hk => let ⟨v, h1, h2⟩ := h.at_ k hk; ⟨v, hx.cell h1, h2.ext hx⟩, h.len, h.ty⟩
def uni (g : Nat → List Ent) (ks : List Nat) : List Ent := ks.flatMap g
theorem uni_snoc (g : Nat → List Ent) (ks : List Nat) (k : Nat) : uni g (ks ++ [k]) = uni g ks ++ g k := by simp [uni]
/-- the state between two lists -/
structure MdAt (w wx : World) (g : Nat → List Ent) (ks : List Nat) (q b : Nat) (j : Nat) (gd : Bool) (C : List Ent) : Prop where
  x : Ext w wx
  c : SetAt wx q b C
  n : C.length ≤ 30 * j
  s : ∀ z ∈ C, z ∈ uni g (ks.take j)
  f : gd = true → ∀ z ∈ uni g (ks.take j), z ∈ C
  co : Coh (uni g ks) → gd = true
/-- .. and inside one -/
structure MeAt (w wx : World) (g : Nat → List Ent) (ks : List Nat) (q b : Nat) (j : Nat) (gd : Bool) (C : List Ent) (k qs bs : Nat) (i : Nat) (S : List Ent) : Prop where
  m : MdAt w wx g ks q b j gd C
  c : SetAt wx qs bs S
  n : S.length ≤ i
  s : ∀ z ∈ S, z ∈ g k
  f : gd = true → ∀ z ∈ (g k).take i, z ∈ S
theorem MeAt.ext {w wx w' : World} {g : Nat → List Ent} {ks : List Nat} {q b j : Nat} {gd : Bool} {C : List Ent} {k qs bs i : Nat} {S : List Ent} (h : MeAt w wx g ks q b j gd C k qs bs i S) (hx : Ext wx w') : MeAt w w' g ks q b j gd C k qs bs i S :=
  ⟨⟨h.m.x.trans hx, h.m.c.ext hx, h.m.n, h.m.s, h.m.f, h.m.co⟩, h.c.ext hx, h.n, h.s, h.f⟩
theorem Coh.sub {es fs : List Ent} (h : Coh es) (hs : ∀ z ∈ fs, z ∈ es) : Coh fs := ⟨fun x hx => h.1 x (hs x hx), fun x hx y hy hk => h.2 x (hs x hx) y (hs y hy) hk⟩
theorem mem_uni {g : Nat → List Ent} {ks : List Nat} {k : Nat} (hk : k ∈ ks) {z : Ent} (hz : z ∈ g k) : z ∈ uni g ks := List.mem_flatMap.2 ⟨k, hk, hz⟩
theorem MeAt.put {w wx : World} {g : Nat → List Ent} {ks : List Nat} {q b j : Nat} {gd : Bool} {C : List Ent} {k qs bs i : Nat} {S : List Ent} (h : MeAt w wx g ks q b j gd C k qs bs i S) (hw : w.heap.size ≤ bs) (h1 : q ≠ bs) (h2 : b ≠ bs) (hk : k ∈ ks)
    {x : Ent} (hx : (g k)[i]? = some x) (ht : x.typed) :
    Calls Try.prog 39 #[.pointer (some ⟨qs, 0, none⟩), x.v] wx fun e w' => ∃ is bad gd', e = .returned (.tuple #[.bool is, bad]) ∧ ((bad = .nilIface ∧ gd' = gd) ∨ (∃ k, bad = errV k) ∧ gd' = false) ∧ MeAt w w' g ks q b j gd' C k qs bs (i + 1) (putL S x) := by
  refine (put_any qs bs S x wx h.c ht).mono ?_
  rintro e w' ⟨is, bad, rfl, hg, hS, hc⟩
  have hX := h.m.x.grownB hg hw
  have hC := h.m.c.kept hg (by simpa using h1) (by simpa using h2)
  have hl := putL_len S x
  have hn := h.n
  have hxm := List.mem_of_getElem? hx
  rcases hc with ⟨hf, rfl⟩ | ⟨hf, hp, kb, rfl⟩
  · refine ⟨is, _, gd, rfl, .inl ⟨rfl, rfl⟩, ⟨⟨hX, hC, h.m.n, h.m.s, h.m.f, h.m.co⟩, hS, by omega, fun z hz => ?_, fun hgd z hz => ?_⟩⟩
    · rcases (putL_mem hf z).1 hz with h3 | rfl
      · exact h.s z h3
      · exact hxm
    · rw [List.take_add_one, hx] at hz
      simp only [Option.toList_some, List.mem_append, List.mem_singleton] at hz
      exact (putL_mem hf z).2 (hz.imp (h.f hgd z) id)
  · have hgd : ¬ Coh (uni g ks) := fun hc => hf (hc.fits (fun z hz => mem_uni hk (h.s z hz)) (mem_uni hk hxm))
    refine ⟨is, _, false, rfl, .inr ⟨⟨kb, rfl⟩, rfl⟩, ⟨⟨hX, hC, h.m.n, h.m.s, fun h => (by cases h), fun hc => absurd hc hgd⟩, hS, by omega, fun z hz => h.s z (by rwa [hp] at hz), fun h => (by cases h)⟩⟩
theorem MeAt.join {w wx : World} {g : Nat → List Ent} {ks : List Nat} {q b j : Nat} {gd : Bool} {C : List Ent} {k qs bs i : Nat} {S : List Ent} (h : MeAt w wx g ks q b j gd C k qs bs i S) (hw : w.heap.size ≤ b) (hk : ks[j]? = some k) (hi : i = (g k).length) (hg30 : (g k).length ≤ 30) :
    Calls Try.prog 26 #[.pointer (some ⟨q, 0, none⟩), .pointer (some ⟨qs, 0, none⟩)] wx fun e w' => ∃ bad gd' C', e = .returned bad ∧ ((bad = .nilIface ∧ gd' = gd) ∨ (bad = errV 20 ∧ gd' = false)) ∧ MdAt w w' g ks q b (j + 1) gd' C' := by
  have hkm := List.mem_of_getElem? hk
  have hT : ks.take (j + 1) = ks.take j ++ [k] := by rw [List.take_add_one, hk]; rfl
  have hsub : ∀ z ∈ uni g (ks.take j), z ∈ uni g ks := fun z hz => by
    obtain ⟨a, ha, hz⟩ := List.mem_flatMap.1 hz
    exact mem_uni (List.mem_of_mem_take ha) hz
  refine (join_any q b qs bs C S wx h.m.c h.c).mono ?_
  rintro e w' (⟨hf, rfl, hX⟩ | ⟨hf, rfl, hg, C', hC, hm⟩)
  · have hgd : ¬ Coh (uni g ks) := fun hc => hf (hc.both (fun z hz => hsub z (h.m.s z hz)) (fun z hz => mem_uni hkm (h.s z hz)))
    refine ⟨_, false, C, rfl, .inr ⟨rfl, rfl⟩, ⟨h.m.x.trans hX, h.m.c.ext hX, by have := h.m.n; omega, fun z hz => ?_, fun h => (by cases h), fun hc => absurd hc hgd⟩⟩
    rw [hT, uni_snoc, List.mem_append]
    exact .inl (h.m.s z hz)
  · refine ⟨_, gd, C', rfl, .inl ⟨rfl, rfl⟩, ⟨h.m.x.grownB hg hw, hC, ?_, fun z hz => ?_, fun hgd z hz => ?_, h.m.co⟩⟩
    · have h1 : C'.length ≤ (C ++ S).length := len_sub (keys_nodup hC.nd) (fun z hz => List.mem_append.2 ((hm z).1 hz))
      rw [List.length_append] at h1
      have := h.m.n
      have := h.n
      omega
    · rw [hT, uni_snoc, List.mem_append]
      exact ((hm z).1 hz).imp (h.m.s z) (h.s z)
    · rw [hT, uni_snoc, List.mem_append] at hz
      refine (hm z).2 (hz.imp (h.m.f hgd z) fun h3 => h.f hgd z ?_)
      rwa [List.take_of_length_le (by omega)]
end Go.Proofs.Ytepcnpnpjfdfmaa
