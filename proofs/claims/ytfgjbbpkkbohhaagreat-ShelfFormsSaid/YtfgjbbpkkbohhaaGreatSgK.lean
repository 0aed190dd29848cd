/- Chapter 24: an object that comes in; the law ShelfForms at any object. -/
import Derived.Test.YtfgjbbpkkbohhaaGreatSgJ
import Derived.Test.YtfgjbbpkkbohhaaGreatLift
import Derived.Test.YtfgjbbpkkbohhaaGreatRows
import Derived.SizedLaws
namespace Go.Proofs.YtfgjbbpkkbohhaaGreat
open Go.ChangeShapes Go.WideShapes Go.ChangeAt Go.RowKit Go.Deep
/-- a Meta that came in -/
def MetaIn (w : World) (A : Option Addr) (n : Nat) : Prop := n = 0 ∧ A = none ∨ ∃ (a : Addr) (zs : List Int), A = some a ∧ zs.length = n ∧ (∀ i, i < n → w.cell? (a.add i) = some (.int .u8 (zs.getD i 0))) ∧ ∀ z ∈ zs, 0 ≤ z ∧ z ≤ 255
theorem meta_cl {w : World} {A : Option Addr} {n c : Nat} (h : MetaIn w A n) (hc : A = none → c = 0) (hn : n ≤ 1000000) : ∃ mt, ∀ W, Ext w W → Calls Tryz.prog 49 #[.slice A n c] W fun e w' => (∃ A' c', e = .returned (.slice A' n c') ∧ Hid (MV w' (.slice A' n c') mt)) ∧ Ext W w' := by
  rcases h with ⟨rfl, rfl⟩ | ⟨a, zs, rfl, rfl, hz, hb⟩
  · obtain rfl := hc rfl
    exact ⟨⟨#[]⟩, fun W _ => clone_mv (.inl ⟨rfl, rfl⟩) (by omega)⟩
  · have hsz : (⟨(zs.map fun z => UInt8.ofNat z.toNat).toArray⟩ : ByteArray).size = zs.length := by
      show (zs.map fun z => UInt8.ofNat z.toNat).toArray.size = zs.length
      simp
    have hl : (⟨(zs.map fun z => UInt8.ofNat z.toNat).toArray⟩ : ByteArray).data.toList.map (fun b => Value.int .u8 b.toNat) = zs.map (Value.int .u8) := by
      show ((zs.map fun z => UInt8.ofNat z.toNat).toArray.toList).map _ = _
      rw [List.map_map]
      refine List.map_congr_left fun z hzm => ?_
      have := hb z hzm
      simp
      omega
    refine ⟨⟨(zs.map fun z => UInt8.ofNat z.toNat).toArray⟩, fun W hW => ?_⟩
    by_cases h0 : zs.length = 0
    · obtain rfl : zs = [] := List.eq_nil_of_length_eq_zero h0
      refine (bclone_any (w := W) a 0 c [] ⟨rfl, fun h => absurd h (by omega)⟩ (by simp) (by omega)).mono ?_
      rintro e w' ⟨⟨A', c', h1, h2⟩, h3⟩
      exact ⟨⟨A', c', h1, Lib.hid (by have h4 := mv_row (mt := ⟨#[]⟩) (A := A') (c := c') h2.out; exact h4)⟩, h3⟩
    refine (bclone_any (w := W) a zs.length c (zs.map (Value.int .u8)) ⟨by rw [List.length_map, Nat.mul_one], fun _ => ⟨a, rfl, ?_, fun j u hj => ?_⟩⟩ (fun u hu => ?_) hn).mono ?_
    · have h1 := hW.cell (hz 0 (by omega))
      have := World.block_lt_of_cell? W _ h1
      rwa [show (a.add 0).block = a.block by unfold Addr.add; split <;> rfl] at this
    · obtain ⟨h1, h2⟩ := List.getElem?_eq_some_iff.1 hj
      rw [List.length_map] at h1
      rw [hW.cell (hz j h1), ← h2]
      simp [List.getD, List.getElem?_eq_getElem h1]
    · obtain ⟨b, -, rfl⟩ := List.mem_map.1 hu
      rfl
    · rintro e w' ⟨⟨A', c', h1, h2⟩, h3⟩
      refine ⟨⟨A', c', h1, Lib.hid ?_⟩, h3⟩
      have h4 := h2.out
      rw [← hl, ← hsz] at h4
      have h5 := mv_row (A := A') (c := c') h4
      rwa [hsz] at h5
theorem forms24_law (key tag : ByteArray) (A : Option Addr) (n c : Nat) (len asof C i : Int) (w : World) (hm : MetaIn w A n ∧ (A = none → c = 0)) (hz : key.size ≤ 140737488355328 ∧ n ≤ 140737488355328 ∧ tag.size ≤ 140737488355328) :
    Calls Tryz.prog 7 #[objV key A n c tag len asof, .int .i64 C, .int .i64 i] w fun e w' => e = .returned (.bool true) ∧ Ext w w' := by
  by_cases hb : 20000 < key.size + n + tag.size
  · exact forms24_big key tag A n c len asof C i hb hz.1 hz.2.1 hz.2.2 w
  · by_cases hC : C < 1 ∨ 1099511627776 < C
    · exact forms24_no key tag A n c len asof C i (by omega) hC w
    · obtain ⟨mt, hcl⟩ := meta_cl (c := c) hm.1 hm.2 (by omega)
      exact forms24_ok key tag mt A n c len asof C i (by omega) (by omega) (by omega) w hcl
set_option maxRecDepth 100000 in
theorem open_obj {H : Type} {enc : TypeId × Value → H} {w : World} {base b0 : Nat} {r : Reach} {held : Bool} {v : Value} {d : DataW H} {p : List MemPlace}
    (hv : Value.okWide Tryz.prog w r b0 38 v) (h : DataW.Trod enc Tryz.prog w base (fun _ => true) held 38 v d p) :
    ∃ (k g : ByteArray) (A : Option Addr) (n c : Nat) (ln ao : Int) (dm : DataW H),
      v = objV k A n c g ln ao ∧ (MetaIn w A n ∧ (A = none → c = 0)) ∧ ((n = 0 ∧ dm = .nil) ∨ ∃ xs ys, dm = .slice xs ys ∧ n ≤ xs.length + ys.length) ∧ d = .agg [.lit (.string k.data.toList), dm, .lit (.string g.data.toList), .lit (.int .i64 ln), .lit (.int .i64 ao)] := by
  obtain ⟨cs, rfl, hsz⟩ := okWide_struct Tryz.underlying38 hv
  have hsz7 : cs.size = 5 := hsz.trans (by kernel_rfl)
  obtain ⟨v0, v1, v2, v3, v4, rfl⟩ : ∃ v0 v1 v2 v3 v4, cs = #[v0, v1, v2, v3, v4] := by
    obtain ⟨l⟩ := cs
    match l, hsz7 with
    | [a, b, c, d, e], _ => exact ⟨a, b, c, d, e, rfl⟩
  obtain ⟨fuel, hf⟩ := h
  obtain ⟨ys, n', -, hd, -, hys, hx⟩ := DataW.trod_struct Tryz.underlying38 hf
  have h0 := hx 0 _ rfl
  have h1 := hx 1 _ rfl
  have h2 := hx 2 _ rfl
  have h3 := hx 3 _ rfl
  have h4 := hx 4 _ rfl
  have hys5 : ys.length = 5 := hys
  obtain ⟨y0, y1, y2, y3, y4, rfl⟩ : ∃ y0 y1 y2 y3 y4, ys = [y0, y1, y2, y3, y4] := by
    match ys, hys5 with
    | [a, b, c, d, e], _ => exact ⟨a, b, c, d, e, rfl⟩
  have g0 : DataW.trod enc Tryz.prog w base (fun _ => true) held n' 9 [v0] = some y0 := h0
  have g1 : DataW.trod enc Tryz.prog w base (fun _ => true) held n' 36 [v1] = some y1 := h1
  have g2 : DataW.trod enc Tryz.prog w base (fun _ => true) held n' 9 [v2] = some y2 := h2
  have g3 : DataW.trod enc Tryz.prog w base (fun _ => true) held n' 3 [v3] = some y3 := h3
  have g4 : DataW.trod enc Tryz.prog w base (fun _ => true) held n' 3 [v4] = some y4 := h4
  clear h0 h1 h2 h3 h4 hx
  obtain ⟨s0, e0, f0, -⟩ := DataW.trod_string Tryz.underlying9 g0
  obtain ⟨s2, e2, f2, -⟩ := DataW.trod_string Tryz.underlying9 g2
  obtain ⟨z3, e3, f3, hw3⟩ := DataW.trod_int Tryz.underlying3 g3
  obtain ⟨z4, e4, f4, hw4⟩ := DataW.trod_int Tryz.underlying3 g4
  obtain rfl := List.singleton_inj.1 e0
  obtain rfl := List.singleton_inj.1 e2
  obtain rfl := List.singleton_inj.1 e3
  obtain rfl := List.singleton_inj.1 e4
  have hdd : d = .agg [y0.1, y1.1, y2.1, y3.1, y4.1] := by
    have := congrArg Prod.fst hd
    simpa using this
  rcases open_ints Tryz.underlying36 Tryz.underlying5 (by kernel_rfl) g1 with ⟨e1, e1'⟩ | ⟨a, ln, cap, zs, e1, -, hle, hlim, hm, hy, hxx, hwf⟩
  · obtain rfl := List.singleton_inj.1 e1
    refine ⟨s0, s2, none, 0, 0, z3, z4, y1.1, rfl, ⟨.inl ⟨rfl, rfl⟩, fun _ => rfl⟩, .inl ⟨rfl, by rw [e1']⟩, ?_⟩
    rw [hdd, f0, f2, f3, f4]
  · obtain rfl := List.singleton_inj.1 e1
    have hmm : zs.length = cap := by simpa using hm
    refine ⟨s0, s2, some a, ln, cap, z3, z4, y1.1, rfl, ⟨.inr ⟨a, zs.take ln, rfl, by rw [List.length_take]; omega, fun i hi => ?_, fun z hz => ?_⟩, fun h => by cases h⟩, .inr ⟨_, _, by rw [hy], ?_⟩, ?_⟩
    · rw [hxx i (by omega)]
      simp [List.getD, List.getElem?_take_of_lt hi]
    · exact wf_u8 (hwf z (List.mem_of_mem_take hz))
    · simp [lits]
      omega
    · rw [hdd, f0, f2, f3, f4]
theorem obj_sizes {H : Type} {ts : List TypeId} {ds : List (DataW H)} (h : (DataW.weightsEach Tryz.prog ts ds).all (· ≤ reachBytes) = true) {s0 s1 : List UInt8} {dm d3 d4 : DataW H} {n : Nat} (hn : (n = 0 ∧ dm = .nil) ∨ ∃ xs ys, dm = .slice xs ys ∧ n ≤ xs.length + ys.length) (ht : ts[0]? = some 38)
    (hd : ds[0]? = some (.agg [.lit (.string s0), dm, .lit (.string s1), d3, d4])) : s0.length ≤ reachBytes ∧ n ≤ reachBytes ∧ s1.length ≤ reachBytes := by
  have key : ∀ n, n ∈ (DataW.agg [.lit (.string s0), dm, .lit (.string s1), d3, d4] : DataW H).weights Tryz.prog 38 → n ≤ reachBytes := fun n hn => by
    have := List.all_eq_true.1 h _ (DataW.weights_mem_each ht hd n hn)
    simpa using this
  have hw : ∀ n, (n = s0.length ∨ n ∈ dm.weights Tryz.prog 36 ∨ n = s1.length) → n ∈ (DataW.agg [.lit (.string s0), dm, .lit (.string s1), d3, d4] : DataW H).weights Tryz.prog 38 := by
    intro n hn
    unfold DataW.weights
    rw [Tryz.underlying38]
    simp only [List.map_cons, List.map_nil, DataW.weightsEach, List.mem_append, List.not_mem_nil, or_false]
    rcases hn with rfl | hn | rfl
    · exact .inl (by simp [DataW.weights])
    · exact .inr (.inl hn)
    · exact .inr (.inr (.inl (by simp [DataW.weights])))
  refine ⟨key _ (hw _ (.inl rfl)), ?_, key _ (hw _ (.inr (.inr rfl)))⟩
  rcases hn with ⟨rfl, -⟩ | ⟨xs, ys, rfl, hle⟩
  · exact Nat.zero_le _
  · have h1 := key ((xs.length + ys.length) * Tryz.prog.bytesOf 5) (hw _ (.inr (.inl (by
      unfold DataW.weights
      rw [Tryz.underlying36]
      simp))))
    rw [show Tryz.prog.bytesOf 5 = 1 by kernel_rfl] at h1
    omega
theorem obj_ok {H : Type} {ts : List TypeId} {ds : List (DataW H)} (h : (DataW.weightsEach Tryz.prog ts ds).all (· ≤ reachBytes) = true) {k g : ByteArray} {dm d3 d4 : DataW H} {n : Nat} (hn : (n = 0 ∧ dm = .nil) ∨ ∃ xs ys, dm = .slice xs ys ∧ n ≤ xs.length + ys.length) (ht : ts[0]? = some 38)
    (hd : ds[0]? = some (.agg [.lit (.string k.data.toList), dm, .lit (.string g.data.toList), d3, d4])) : k.size ≤ 140737488355328 ∧ n ≤ 140737488355328 ∧ g.size ≤ 140737488355328 := by
  have h1 := obj_sizes h hn ht hd
  have h2 : reachBytes ≤ 140737488355328 := by decide
  have h3 : k.data.toList.length = k.size := rfl
  have h4 : g.data.toList.length = g.size := rfl
  omega
end Go.Proofs.YtfgjbbpkkbohhaaGreat
