/- Chapter 20: the law PiecesDrop, walked. -/
import Derived.Test.YtfgjbbpkkbohhaaGreatPcP
namespace Go.Proofs.YtfgjbbpkkbohhaaGreat
open Go.RowKit Go.Deep Go.Sort

/-- '[]byte(s)' behind a guard that is met -/
theorem wpList_bytes_of_string_g {P : Program} (w : World) {ops : Array Oper} {rest : List Oper} {o : Oper} {a : Act} {Q : Exit → Act → World → Prop}
    (src dst e : TypeId) (x : Operand) (ho : o.op = Op.convert src dst x) (hw : Region.wanted o (yielded ops a.tmps) = true) (hs : P.underlying src = some .string) (hd : P.underlying dst = some (.slice e)) (he : P.underlying e = some (.int .u8))
    (s : ByteArray) (hx : a.eval x = .string s)
    (hK : ∀ w' cap, Ext w w' → RowB w' w.heap.size e (s.data.toList.map fun b => Value.int .u8 b.toNat) → s.size ≤ cap → wpList P ops Q rest (a.put o.dst (.slice (some ⟨w.heap.size, 0, none⟩) s.size cap)) w') :
    wpList P ops Q (o :: rest) a w := by
  refine BigFrame.wpList_want hw fun K hK' => ?_
  have hrun := run_bytes_of_string (P := P) w src dst e s hs hd he
  unfold Oper.wp
  simp only [execOp, ho, hx, Sem.run_bind, hrun, Result.andThen]
  refine hK' _ _ (hK _ _ ((Ext.refl w).drew.trans (Ext.alloc (Ext.refl _) _)) ?_ ?_)
  · refine ⟨bytesRow s (grownCap w s.size 0 e), ((bytesRow s (grownCap w s.size 0 e)).size, (bytesRow s (grownCap w s.size 0 e)).size + 1), List.replicate (grownCap w s.size 0 e - s.size) (.int .u8 0), ?_, ?_, ?_⟩
    · show (w.heap.push _)[w.heap.size]? = _
      simp
    · intro j h1 _; exact h1
    · unfold bytesRow
      simp
  · exact grownCap_ge w s.size 0 e
theorem Ext.below' {B : Nat} {w w' : World} (h : Ext w w') (hb : B ≤ w.heap.size) : Below B w w' := Below.mono h hb
theorem BytesOwn.shape {w : World} {B : Nat} {v : Value} {xs : List Int} (h : BytesOwn w B v xs) : ∃ A cap, v = .slice A xs.length cap := by
  rcases h.2 with ⟨rfl, e⟩ | ⟨g, cap, cur, rfl, hb, hh, hl, hm, hc, ht⟩
  · exact ⟨none, 0, by rw [e]⟩
  · exact ⟨_, cap, rfl⟩
theorem BytesOwn.cell {w : World} {B : Nat} {A : Option Addr} {n cap : Nat} {xs : List Int} (h : BytesOwn w B (.slice A n cap) xs) (i : Nat) (hi : i < xs.length) :
    ∃ g, A = some ⟨g, 0, none⟩ ∧ xs.length ≤ cap ∧ B ≤ g ∧ w.cell? ⟨g, i, none⟩ = some (.int .u8 ((xs[i]? ).getD 0)) := by
  rcases h.2 with ⟨_, e⟩ | ⟨g, cap', cur, e, hb, hh, hl, hm, hc, ht⟩
  · omega
  · simp only [Value.slice.injEq] at e
    obtain ⟨rfl, rfl, rfl⟩ := e
    refine ⟨g, rfl, hl, hb, ?_⟩
    rw [cell_of_row w g i cur _ _ hh]
    have h1 : (cur.toList.take (xs.length * 1))[i]? = some (Value.int .u8 ((xs[i]?).getD 0)) := by
      rw [ht, List.getElem?_map, List.getElem?_eq_getElem hi]
      rfl
    rw [List.getElem?_take] at h1
    simpa [hi] using h1
theorem hD_all (t : ByteArray) (i : Nat) : hD t 255 i = some (pcS t i) := by
  unfold hD
  have : ∀ r, r < 8 → 255 / 2 ^ r % 2 = 1 := by decide
  rw [if_pos (this _ (Nat.mod_lt _ (by omega)))]
theorem mk_bytes {w' : World} {e : TypeId} {g : Nat} {s : ByteArray} (h : RowB w' g e (s.data.toList.map fun b => Value.int .u8 b.toNat)) : BytesAt w' g s := bytes_of_row h
def dp (t p : ByteArray) (k : Nat) : Nat → Option ByteArray := upd (upd (upd (hD t 255) k none) k none) k (some p)
theorem dp_at (t p : ByteArray) (k i : Nat) : dp t p k i = some (if i = k then p else pcS t i) := by
  unfold dp upd
  by_cases h : i = k
  · rw [if_pos h, if_pos h]
  · simp only [if_neg h]
    rw [hD_all]
theorem dp_whole (t p : ByteArray) (k m : Nat) : decide (∀ i, i < npc m → (dp t p k i).isSome = true) = true := by
  rw [decide_eq_true_iff]
  intro i _
  rw [dp_at]
  rfl
theorem dp_ok {t p : ByteArray} {k m : Nat} (hts : t.size = m) (hp : p.size = pto k m - k * 256) : PcOk m (dp t p k) := by
  intro i hi s hs
  rw [dp_at] at hs
  obtain rfl := Option.some.inj hs
  by_cases h : i = k
  · rw [if_pos h, h, hp]
  · rw [if_neg h, pcS_size t i (by unfold npc at hi; omega), hts]
theorem dp_gaps (t p : ByteArray) (k m : Nat) : gaps (dp t p k) (pcs 0 m) = [] := by
  unfold gaps
  rw [List.filter_eq_nil_iff]
  intro i _
  rw [dp_at]
  simp
theorem rd_byte {t o p : ByteArray} {k m : Nat} (hts : t.size = m) (hos : o.size = m) (ht : t = txS m 9) (ho : o = txS m 10) (hp : pcS o k = p) (j : Nat) (hj : j < m) :
    ((rdL (dp t p k) 0 m)[j]?).getD 0 = (if j / 256 = k then txB 10 j else txB 9 j) ∧ ∀ h : j < t.size, ((t[j]'h).toNat : Int) = txB 9 j := by
  have h9 : (byteIs t).getD j 0 = txB 9 j := by rw [ht, txS_bytes]; simp [hj]
  have h10 : (byteIs o).getD j 0 = txB 10 j := by rw [ho, txS_bytes]; simp [hj]
  refine ⟨?_, fun h => by rw [← byteIs_getD h, h9]⟩
  have : ((rdL (dp t p k) 0 m)[j]?).getD 0 = (byteIs ((dp t p k (j / 256)).getD ⟨#[]⟩)).getD (j % 256) 0 := by
    unfold rdL
    simp [hj]
  rw [this, dp_at, Option.getD_some]
  by_cases e : j / 256 = k
  · rw [if_pos e, if_pos e, ← hp, ← e, pcS_byte o j (by omega), h10]
  · rw [if_neg e, if_neg e, pcS_byte t j (by omega), h9]
end Go.Proofs.YtfgjbbpkkbohhaaGreat
