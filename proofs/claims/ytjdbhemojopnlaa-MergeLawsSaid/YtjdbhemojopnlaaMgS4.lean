/- Chapter 52: what MergeLaws makes of an order of the lists. -/
import Derived.Test.YtjdbhemojopnlaaMgS3
namespace Go.Proofs.Ytjdbhemojopnlaa
open Go.RowKit Go.Maps
theorem len_sub : ∀ {L M : List Ent}, L.Nodup → (∀ z ∈ L, z ∈ M) → L.length ≤ M.length
  | [], _, _, _ => Nat.zero_le _
  | x :: L, M, hn, hs => by
    obtain ⟨h1, h2⟩ := List.nodup_cons.1 hn
    obtain ⟨A, B, rfl⟩ := List.append_of_mem (hs x (by simp))
    have ih := len_sub (M := A ++ B) h2 (fun z hz => by
      have h3 := hs z (by simp [hz])
      simp only [List.mem_append, List.mem_cons] at h3 ⊢
      rcases h3 with h3 | rfl | h3
      · exact .inl h3
      · exact absurd hz h1
      · exact .inr h3)
    simp only [List.length_append, List.length_cons] at ih ⊢
    omega
/-- three lists that came in, in a variable -/
structure Lists3 (w : World) (lb : Nat) (g : Nat → List Ent) : Prop where
  at_ : ∀ k, k < 3 → ∃ v, w.cell? ⟨lb, k, none⟩ = some v ∧ EnsArg w v (g k)
  len : ∀ k, k < 3 → (g k).length ≤ 30
  ty : ∀ k, k < 3 → ∀ x ∈ g k, x.typed
theorem Lists3.ext {w w' : World} {lb : Nat} {g : Nat → List Ent} (h : Lists3 w lb g) (hx : Ext w w') : Lists3 w' lb g :=
  ⟨fun k hk => let ⟨v, h1, h2⟩ := h.at_ k hk; ⟨v, hx.cell h1, h2.ext hx⟩, h.len, h.ty⟩
def uni (g : Nat → List Ent) (ks : List Nat) : List Ent := ks.flatMap g
theorem uni_snoc (g : Nat → List Ent) (ks : List Nat) (k : Nat) : uni g (ks ++ [k]) = uni g ks ++ g k := by simp [uni]
/-- the state between two lists -/
structure MdAt (w wx : World) (g : Nat → List Ent) (ks : List Nat) (q b : Nat) (j : Nat) (gd : Bool) (C : List Ent) : Prop where
  x : Ext w wx
  c : SetAt wx q b C
  n : C.length ≤ 30 * j
  s : ∀ z ∈ C, z ∈ uni g (ks.take j)
  f : gd = true → ∀ z ∈ uni g (ks.take j), z ∈ C
  co : Coh (uni g ks) → gd = true
/-- .. and inside one -/
structure MeAt (w wx : World) (g : Nat → List Ent) (ks : List Nat) (q b : Nat) (j : Nat) (gd : Bool) (C : List Ent) (k qs bs : Nat) (i : Nat) (S : List Ent) : Prop where
  m : MdAt w wx g ks q b j gd C
  c : SetAt wx qs bs S
  n : S.length ≤ i
  s : ∀ z ∈ S, z ∈ g k
  f : gd = true → ∀ z ∈ (g k).take i, z ∈ S
theorem MeAt.ext {w wx w' : World} {g : Nat → List Ent} {ks : List Nat} {q b j : Nat} {gd : Bool} {C : List Ent} {k qs bs i : Nat} {S : List Ent} (h : MeAt w wx g ks q b j gd C k qs bs i S) (hx : Ext wx w') : MeAt w w' g ks q b j gd C k qs bs i S :=
  ⟨⟨h.m.x.trans hx, h.m.c.ext hx, h.m.n, h.m.s, h.m.f, h.m.co⟩, h.c.ext hx, h.n, h.s, h.f⟩
theorem Coh.sub {es fs : List Ent} (h : Coh es) (hs : ∀ z ∈ fs, z ∈ es) : Coh fs := ⟨fun x hx => h.1 x (hs x hx), fun x hx y hy hk => h.2 x (hs x hx) y (hs y hy) hk⟩
theorem mem_uni {g : Nat → List Ent} {ks : List Nat} {k : Nat} (hk : k ∈ ks) {z : Ent} (hz : z ∈ g k) : z ∈ uni g ks := List.mem_flatMap.2 ⟨k, hk, hz⟩
theorem MeAt.put {w wx : World} {g : Nat → List Ent} {ks : List Nat} {q b j : Nat} {gd : Bool} {C : List Ent} {k qs bs i : Nat} {S : List Ent} (h : MeAt w wx g ks q b j gd C k qs bs i S) (hw : w.heap.size ≤ bs) (h1 : q ≠ bs) (h2 : b ≠ bs) (hk : k ∈ ks)
    {x : Ent} (hx : (g k)[i]? = some x) (ht : x.typed) :
    Calls Try.prog 19 #[.pointer (some ⟨qs, 0, none⟩), x.v] wx fun e w' => ∃ is bad gd', e = .returned (.tuple #[.bool is, bad]) ∧ ((bad = .nilIface ∧ gd' = gd) ∨ (∃ k, bad = errV k) ∧ gd' = false) ∧ MeAt w w' g ks q b j gd' C k qs bs (i + 1) (putL S x) := by
  refine (put_any qs bs S x wx h.c ht).mono ?_
  rintro e w' ⟨is, bad, rfl, hg, hS, hc⟩
  have hX := h.m.x.grownB hg hw
  have hC := h.m.c.kept hg (by simpa using h1) (by simpa using h2)
  have hl := putL_len S x
  have hn := h.n
  have hxm := List.mem_of_getElem? hx
  rcases hc with ⟨hf, rfl⟩ | ⟨hf, hp, kb, rfl⟩
  · refine ⟨is, _, gd, rfl, .inl ⟨rfl, rfl⟩, ⟨⟨hX, hC, h.m.n, h.m.s, h.m.f, h.m.co⟩, hS, by omega, fun z hz => ?_, fun hgd z hz => ?_⟩⟩
    · rcases (putL_mem hf z).1 hz with h3 | rfl
      · exact h.s z h3
      · exact hxm
    · rw [List.take_add_one, hx] at hz
      simp only [Option.toList_some, List.mem_append, List.mem_singleton] at hz
      exact (putL_mem hf z).2 (hz.imp (h.f hgd z) id)
  · have hgd : ¬ Coh (uni g ks) := fun hc => hf (hc.fits (fun z hz => mem_uni hk (h.s z hz)) (mem_uni hk hxm))
    refine ⟨is, _, false, rfl, .inr ⟨⟨kb, rfl⟩, rfl⟩, ⟨⟨hX, hC, h.m.n, h.m.s, fun h => (by cases h), fun hc => absurd hc hgd⟩, hS, by omega, fun z hz => h.s z (by rwa [hp] at hz), fun h => (by cases h)⟩⟩
theorem MeAt.join {w wx : World} {g : Nat → List Ent} {ks : List Nat} {q b j : Nat} {gd : Bool} {C : List Ent} {k qs bs i : Nat} {S : List Ent} (h : MeAt w wx g ks q b j gd C k qs bs i S) (hw : w.heap.size ≤ b) (hk : ks[j]? = some k) (hi : i = (g k).length) (hg30 : (g k).length ≤ 30) :
    Calls Try.prog 21 #[.pointer (some ⟨q, 0, none⟩), .pointer (some ⟨qs, 0, none⟩)] wx fun e w' => ∃ bad gd' C', e = .returned bad ∧ ((bad = .nilIface ∧ gd' = gd) ∨ (bad = errV 20 ∧ gd' = false)) ∧ MdAt w w' g ks q b (j + 1) gd' C' := by
  have hkm := List.mem_of_getElem? hk
  have hT : ks.take (j + 1) = ks.take j ++ [k] := by rw [List.take_add_one, hk]; rfl
  have hsub : ∀ z ∈ uni g (ks.take j), z ∈ uni g ks := fun z hz => by
    obtain ⟨a, ha, hz⟩ := List.mem_flatMap.1 hz
    exact mem_uni (List.mem_of_mem_take ha) hz
  refine (join_any q b qs bs C S wx h.m.c h.c).mono ?_
  rintro e w' (⟨hf, rfl, hX⟩ | ⟨hf, rfl, hg, C', hC, hm⟩)
  · have hgd : ¬ Coh (uni g ks) := fun hc => hf (hc.both (fun z hz => hsub z (h.m.s z hz)) (fun z hz => mem_uni hkm (h.s z hz)))
    refine ⟨_, false, C, rfl, .inr ⟨rfl, rfl⟩, ⟨h.m.x.trans hX, h.m.c.ext hX, by have := h.m.n; omega, fun z hz => ?_, fun h => (by cases h), fun hc => absurd hc hgd⟩⟩
    rw [hT, uni_snoc, List.mem_append]
    exact .inl (h.m.s z hz)
  · refine ⟨_, gd, C', rfl, .inl ⟨rfl, rfl⟩, ⟨h.m.x.grownB hg hw, hC, ?_, fun z hz => ?_, fun hgd z hz => ?_, h.m.co⟩⟩
    · have h1 : C'.length ≤ (C ++ S).length := len_sub (keys_nodup hC.nd) (fun z hz => List.mem_append.2 ((hm z).1 hz))
      rw [List.length_append] at h1
      have := h.m.n
      have := h.n
      omega
    · rw [hT, uni_snoc, List.mem_append]
      exact ((hm z).1 hz).imp (h.m.s z) (h.s z)
    · rw [hT, uni_snoc, List.mem_append] at hz
      refine (hm z).2 (hz.imp (h.m.f hgd z) fun h3 => h.f hgd z ?_)
      rwa [List.take_of_length_le (by omega)]
end Go.Proofs.Ytjdbhemojopnlaa
