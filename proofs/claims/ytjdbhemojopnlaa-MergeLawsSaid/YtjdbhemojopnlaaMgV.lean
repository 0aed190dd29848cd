/- Chapter 52: Put, whatever the entry; the sorted list of a set; gaps are gaps. -/
import Derived.Test.YtjdbhemojopnlaaMgU
namespace Go.Proofs.Ytjdbhemojopnlaa
open Go.RowKit Go.Maps
open Classical in
noncomputable def putL (L : List Ent) (x : Ent) : List Ent := if x.good ∧ ∀ y ∈ L, y.key ≠ x.key then L ++ [x] else L
def fitsL (L : List Ent) (x : Ent) : Prop := x.good ∧ ∀ y ∈ L, y.key = x.key → y = x
theorem put_any (q b : Nat) (L : List Ent) (x : Ent) (w : World) (h : SetAt w q b L) (hx : x.typed) :
    Calls Try.prog 19 #[.pointer (some ⟨q, 0, none⟩), x.v] w fun e w' => ∃ is bad, e = .returned (.tuple #[.bool is, bad]) ∧ w.grownBy w' (some b) ∧ SetAt w' q b (putL L x) ∧ ((fitsL L x ∧ bad = .nilIface) ∨ (¬ fitsL L x ∧ putL L x = L ∧ ∃ k, bad = errV k)) := by
  have hno : ¬ x.good → putL L x = L := fun hg => by unfold putL; exact if_neg (fun h => hg h.1)
  rcases ent_kinds x hx.1 with hbad | ⟨hnm, hbad⟩ | hgood
  · have hng : ¬ x.good := fun hg => by have := hg.1.2; rw [hbad] at this; cases this
    refine (put_err q x 8 w (fun W => check_name x.nd x.bt x.sq x.tn x.ht x.by_ x.at_ hx.1 hbad W)).mono ?_
    rintro _ w' ⟨rfl, hw⟩
    rw [hno hng]
    exact ⟨_, _, rfl, hw.grown _, h.ext hw, .inr ⟨fun hf => hng hf.1, rfl, 8, rfl⟩⟩
  · have hng : ¬ x.good := fun hg => hbad hg.2
    refine (put_err q x 1 w (fun W => check_bad x.nd x.bt x.sq x.tn x.ht x.by_ x.at_ hx.1 hnm hx.2 hbad W)).mono ?_
    rintro _ w' ⟨rfl, hw⟩
    rw [hno hng]
    exact ⟨_, _, rfl, hw.grown _, h.ext hw, .inr ⟨fun hf => hng hf.1, rfl, 1, rfl⟩⟩
  · refine (put_good q b L x w h hgood).mono ?_
    rintro _ w' ⟨v, L', hP, rfl, hg, hS⟩
    rcases hP with hold | hnew | ⟨y, hy, hk, hne⟩
    · have e1 : putL L x = L := by unfold putL; exact if_neg (fun h => h.2 x hold rfl)
      rw [e1]
      exact ⟨_, _, rfl, hg, hS, .inl ⟨⟨hgood, fun y hy hk => pair_unique h.nd hy hold hk⟩, rfl⟩⟩
    · have e1 : putL L x = L ++ [x] := by unfold putL; exact if_pos ⟨hgood, hnew⟩
      rw [e1]
      exact ⟨_, _, rfl, hg, hS, .inl ⟨⟨hgood, fun y hy hk => absurd hk (hnew y hy)⟩, rfl⟩⟩
    · have e1 : putL L x = L := by unfold putL; exact if_neg (fun h => h.2 y hy hk)
      rw [e1]
      exact ⟨_, _, rfl, hg, hS, .inr ⟨fun hf => hne (hf.2 y hy hk), rfl, 20, rfl⟩⟩
theorem putL_len (L : List Ent) (x : Ent) : (putL L x).length ≤ L.length + 1 := by unfold putL; split <;> simp
def srtL (L : List Ent) : List Ent := L.foldr insE []
theorem srt_tied : ∀ {L : List Ent}, (L.Pairwise fun a b => a.key ≠ b.key) → Tied L (srtL L)
  | [], _ => Tied.nil
  | x :: L, h => by
    obtain ⟨h1, h2⟩ := List.pairwise_cons.1 h
    have ih := srt_tied h2
    exact ⟨(ins_perm x _).trans (ih.p.cons x), ins_sorted ih.s (fun y hy => (h1 y (ih.mem.1 hy)).symm)⟩
theorem SetAt.tied {w : World} {q b : Nat} {L : List Ent} (h : SetAt w q b L) : Tied L (srtL L) := srt_tied h.nd
theorem SetAt.lists {w : World} {q b : Nat} {L : List Ent} (h : SetAt w q b L) (hN : L.length ≤ 1000) : ListsTo w (.pointer (some ⟨q, 0, none⟩)) (srtL L) := lists_set h.tied.s h.tied.p hN h
theorem SetAt.good {w : World} {q b : Nat} {L : List Ent} (h : SetAt w q b L) : ∀ x ∈ srtL L, x.good := fun x hx => h.ok x (h.tied.mem.1 hx)
theorem SetAt.slen {w : World} {q b : Nat} {L : List Ent} (h : SetAt w q b L) : (srtL L).length = L.length := h.tied.p.length_eq
/-! totals of two spans; gaps -/
theorem tot_parts (f : Ent → Int) (t at_ : Int) (h1 : -4611686018427387904 ≤ at_) (h2 : at_ ≤ 4611686018427387904) : ∀ r : List Ent, (∀ x ∈ r, x.good) → tot f (pT t) r = tot f (pB t (-4611686018427387904) at_) r + tot f (pB t at_ 4611686018427387904) r
  | [], _ => rfl
  | x :: r, h => by
    obtain ⟨a, b⟩ := (h x (by simp)).2.2.2.2.2.2
    have ih := tot_parts f t at_ h1 h2 r (fun y hy => h y (by simp [hy]))
    unfold tot
    rw [ih]
    have e1 : decide (-4611686018427387904 ≤ x.at_) = true := by simp; omega
    have e2 : decide (x.at_ < 4611686018427387904) = true := by simp; omega
    unfold pT pB
    rw [e1, e2]
    by_cases ht : x.tn = t
    · by_cases hc : x.at_ < at_
      · have hc2 : ¬ at_ ≤ x.at_ := by omega
        simp [ht, hc, hc2]
        omega
      · have hc2 : at_ ≤ x.at_ := by omega
        simp [ht, hc, hc2]
        omega
    · simp [ht]
theorem lastE_mem : ∀ (p : Option Ent) (r : List Ent) (y : Ent), lastE p r = some y → p = some y ∨ y ∈ r
  | _, [], _, h => .inl h
  | _, x :: r, y, h => by
    rcases lastE_mem (some x) r y h with h | h
    · cases h; exact .inr (by simp)
    · exact .inr (by simp [h])
theorem lastE_top : ∀ (r : List Ent) (p : Option Ent), r.Pairwise ltE → ∀ z ∈ r, ∃ y, lastE p r = some y ∧ (z = y ∨ ltE z y)
  | [], _, _, z, hz => by cases hz
  | x :: r, p, h, z, hz => by
    obtain ⟨h1, h2⟩ := List.pairwise_cons.1 h
    cases r with
    | nil =>
      simp only [List.mem_singleton] at hz
      exact ⟨x, rfl, .inl hz⟩
    | cons y r =>
      rcases List.mem_cons.1 hz with rfl | hz
      · obtain ⟨t, ht, _⟩ := lastE_top (y :: r) (some z) h2 y (by simp)
        refine ⟨t, ht, .inr (h1 t ?_)⟩
        rcases lastE_mem (some y) r t (by simpa [lastE] using ht) with e | e
        · cases e; simp
        · simp [e]
      · exact lastE_top (y :: r) (some x) h2 z hz
theorem gps_mem : ∀ (r : List Ent) (p : Option Ent) (g : Gp), g ∈ gps p r → ∃ pre x post, r = pre ++ x :: post ∧ g ∈ gapOf (lastE p pre) x
  | [], _, _, h => by cases h
  | x :: r, p, g, h => by
    simp only [gps, List.mem_append] at h
    rcases h with h | h
    · exact ⟨[], x, r, rfl, h⟩
    · obtain ⟨pre, y, post, e, hg⟩ := gps_mem r (some x) g h
      exact ⟨x :: pre, y, post, by rw [e]; rfl, hg⟩
theorem squeeze {z y x : Ent} (h1 : ltE z y) (h2 : ltE y x) (hn : z.nd = x.nd) (hb : z.bt = x.bt) : y.nd = x.nd ∧ y.bt = x.bt := by
  unfold ltE at h1 h2
  rcases h1 with h1 | ⟨e1, h1⟩
  · rcases h2 with h2 | ⟨e2, h2⟩
    · rw [hn] at h1
      have := ltS_asymm h1
      rw [this] at h2
      cases h2
    · rw [hn, e2, ltS_irrefl] at h1
      cases h1
  · have e3 : y.nd = x.nd := by rw [← e1, hn]
    rcases h2 with h2 | ⟨_, h2⟩
    · rw [e3, ltS_irrefl] at h2
      cases h2
    · exact ⟨e3, by omega⟩
theorem gap_facts {r : List Ent} (hs : r.Pairwise ltE) (hgd : ∀ x ∈ r, x.good) {g : Gp} (hg : g ∈ gps none r) :
    g.fr ≤ g.to_ ∧ 1 ≤ g.fr ∧ ∀ z ∈ r, ¬ (z.nd = g.nd ∧ z.bt = g.bt ∧ g.fr ≤ z.sq ∧ z.sq ≤ g.to_) := by
  obtain ⟨pre, x, post, rfl, hgm⟩ := gps_mem r none g hg
  unfold gapOf at hgm
  split at hgm
  · rename_i hlt
    simp only [List.mem_singleton] at hgm
    subst hgm
    have hpre : pre.Pairwise ltE := (List.pairwise_append.1 hs).1
    have hcross := (List.pairwise_append.1 hs).2.2
    have hx := (List.pairwise_append.1 hs).2.1
    have hl0 : 0 ≤ lastS (lastE none pre) x := by
      unfold lastS
      split
      · rename_i y hy
        split
        · rcases lastE_mem none pre y hy with h | h
          · cases h
          · have := (hgd y (by simp [h])).2.2.1.1
            omega
        · omega
      · omega
    refine ⟨by simp only; omega, by simp only; omega, ?_⟩
    rintro z hz ⟨e1, e2, h1, h2⟩
    simp only at e1 e2 h1 h2
    rcases List.mem_append.1 hz with hz | hz
    · obtain ⟨y, hy, hzy⟩ := lastE_top pre none hpre z hz
      have hyx : ltE y x := by
        rcases lastE_mem none pre y hy with h | h
        · cases h
        · exact hcross y h x (by simp)
      have hsame : y.nd = x.nd ∧ y.bt = x.bt := by
        rcases hzy with rfl | hzy
        · exact ⟨e1, e2⟩
        · exact squeeze hzy hyx e1 e2
      have hls : lastS (lastE none pre) x = y.sq := by rw [hy]; unfold lastS; exact if_pos hsame
      rw [hls] at h1
      have hle : z.sq ≤ y.sq := by
        rcases hzy with rfl | hzy
        · omega
        · rcases hzy with h | ⟨_, h⟩
          · rw [e1, hsame.1, ltS_irrefl] at h; cases h
          · have := hsame.2; omega
      omega
    · rcases List.mem_cons.1 hz with rfl | hz
      · omega
      · have := (List.pairwise_cons.1 hx).1 z hz
        rcases this with h | ⟨_, h⟩
        · rw [e1, ltS_irrefl] at h; cases h
        · omega
  · cases hgm
end Go.Proofs.Ytjdbhemojopnlaa
