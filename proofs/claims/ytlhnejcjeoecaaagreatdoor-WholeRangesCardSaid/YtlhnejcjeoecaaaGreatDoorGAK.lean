/- Chapter 09: the program's Multipart. Chapter 09: the program's Multipart: the walk. Chapter 09: the text of a list of ranges, and what Parse reads of it (plain). Chapter 09: Format of the program; 'are' against a list that came in. WholeRanges, plain: what Parse reads of a formatted list, whatever the length is. -/
import Derived.Test.YtlhnejcjeoecaaaGreatDoorGAJ
import Derived.Test.YtlhnejcjeoecaaaGreatDoorSh8
import Derived.Lib.AppendStr
import Derived.Laws.IdiomStrings
import Derived.Test.YtlhnejcjeoecaaaGreatDoorGAG
import Derived.Lib.Join
import Derived.Test.YtlhnejcjeoecaaaGreatDoorGAI
import Derived.Handy
namespace Go.Proofs.YtlhnejcjeoecaaaGreatDoor
open Go.RowKit Go.Deep
theorem bytesOf_nums (s : ByteArray) : Lib.bytesOf (numsOf s) = s.data.toList := by
  unfold Lib.bytesOf numsOf
  rw [List.map_map]
  conv => rhs; rw [← List.map_id s.data.toList]
  refine List.map_congr_left fun c _ => ?_
  simp
theorem nums_range (s : ByteArray) : ∀ x ∈ numsOf s, 0 ≤ x ∧ x < 256 := by
  intro x hx
  unfold numsOf at hx
  obtain ⟨c, -, rfl⟩ := List.mem_map.1 hx
  have := c.toNat_lt
  omega
theorem row_nums {w : World} {g : Nat} {s : ByteArray} (h : RowB w g 5 (s.data.toList.map fun b => Value.int .u8 b.toNat)) : ∀ i, i < s.size → w.cell? ((⟨g, 0, none⟩ : Addr).add i) = some (.int .u8 ((numsOf s).getD i 0)) := by
  intro i hi
  rw [Addr.add_lit, Nat.zero_add]
  have hl : i < s.data.toList.length := by rw [← Lib.size_eq]; exact hi
  refine h.cell ?_
  unfold numsOf
  rw [List.getD_eq_getElem?_getD, List.getElem?_map, List.getElem?_map, List.getElem?_eq_getElem hl]
  rfl
theorem bcontains_any {w : World} {B B' : Nat} {u v : Value} {s p : ByteArray} (h : BytesV w B u s) (k : BytesV w B' v p) (hs : s.size ≤ 100000) (hp : p.size ≤ 100000) (hcap : ∀ g n c, u = .slice g n c → n ≤ c) (hM : MaxL w) :
    Calls Tryz.prog 31 #[u, v] w fun e w' => e = .returned (.bool (holdF s p)) ∧ Ext w w' := by
  obtain ⟨m, hm⟩ := hM
  obtain ⟨g, c, rfl, -, hr⟩ := h
  obtain ⟨g', c', rfl, -, hr'⟩ := k
  have := Any.bytes_Contains_at (P := Tryz.prog) (ρ := Tryz.lays186_ren) { Tryz.lays186 with } ⟨g, 0, none⟩ ⟨g', 0, none⟩ s.size c p.size c' (numsOf s) (numsOf p) m w (numsOf_length s) (numsOf_length p) (nums_range s) (nums_range p) (row_nums hr) (row_nums hr') (hcap _ _ _ rfl) (by omega) (by omega) hm
  rw [bytesOf_nums, bytesOf_nums] at this
  refine this.mono ?_
  rintro e w' ⟨rfl, q, rfl⟩
  exact ⟨rfl, (Ext.refl w).drewN q⟩
/-- the bytes of a text in a slice of the call's own -/
def OS (w : World) (B : Nat) (v : Value) (s : ByteArray) : Prop := w.ownsRow B 5 1 v s.size (Lib.strCells s)
theorem OS.nil (w : World) (B : Nat) : OS w B (.slice none 0 0) ⟨#[]⟩ := World.ownsRow_nil _ _ _ _
theorem OS.slice {w : World} {B : Nat} {v : Value} {s : ByteArray} (h : OS w B v s) : ∃ A cap, v = .slice A s.size cap ∧ s.size ≤ cap := by
  rcases h.2 with ⟨rfl, e⟩ | ⟨g, cap, cur, rfl, hb, hh, hl, hm, hc, ht⟩
  · exact ⟨none, 0, by rw [e], by omega⟩
  · exact ⟨_, cap, rfl, hl⟩
theorem OS.kept {w w' : World} {B : Nat} {v : Value} {s : ByteArray} (h : OS w B v s) (hx : Ext w w') : OS w' B v s := own_kept h hx
theorem OS.bytes {w : World} {B : Nat} {v : Value} {s : ByteArray} (h : OS w B v s) (hs : 0 < s.size) : BytesV w B v s := by
  rcases h.2 with ⟨_, e⟩ | ⟨g, cap, cur, rfl, hb, hh, hl, hm, hc, ht⟩
  · omega
  · refine ⟨g, cap, rfl, hb, cur, (0, 0), cur.toList.drop s.size, hh, fun j _ h2 => absurd h2 (by omega), ?_⟩
    have e : cur.toList.take s.size = s.data.toList.map fun b => Value.int .u8 b.toNat := by
      have := ht
      rw [Nat.mul_one] at this
      exact this
    rw [← e, List.take_append_drop]
theorem os_ne {w : World} {B g : Nat} {v : Value} {s : ByteArray} {e : TypeId} {xs : List Value} (h : OS w B v s) (hr : RowB w g e xs) (he : e ≠ 5) : some g ≠ v.ownBlock := by
  rcases h.2 with ⟨rfl, _⟩ | ⟨g', cap, cur, rfl, _, hg, _⟩
  · simp [Value.ownBlock]
  · intro e'
    simp only [Value.ownBlock, Option.some.injEq] at e'
    obtain ⟨C, fr, rest, hc, _⟩ := hr
    rw [e', hg] at hc
    cases hc
    exact he rfl
/-- rows that hold no bytes stay -/
def KpU (w w' : World) : Prop := ∀ (g : Nat) (e : TypeId) (xs : List Value), e ≠ 5 → RowB w g e xs → RowB w' g e xs
theorem cells_app (s x : ByteArray) : Lib.strCells (s ++ x) = Lib.strCells s ++ Lib.strCells x := by
  unfold Lib.strCells
  rw [app_list, List.map_append]
theorem wpList_os_string (w : World) {ops : Array Oper} {rest : List Oper} {o : Oper} {a : Act} {Q : Exit → Act → World → Prop} (hgd : o.guard = none) (sl x : Operand)
    (ho : o.op = .call { callee := .builtin .append, args := #[sl, x], argTypes := #[22, 9] })
    (B : Nat) {v : Value} {y : ByteArray} (h : OS w B v y) (hs : a.eval sl = v) (z : ByteArray) (hx : a.eval x = .string z) (hlen : y.size + z.size ≤ 1000000000) (hB : B ≤ w.heap.size)
    (hK : ∀ (y' : ByteArray) A c w', y' = y ++ z → y'.size = y.size + z.size → y'.size ≤ c → OS w' B (.slice A y'.size c) y' → Below B w w' → KpU w w' → wpList Tryz.prog ops Q rest (a.put o.dst (.slice A y'.size c)) w') :
    wpList Tryz.prog ops Q (o :: rest) a w := by
  obtain ⟨i0, hi0, hz0, hz1, hz2⟩ := info_parts u8_info
  refine Lib.wpList_append_own_string w hgd sl x 22 9 ho B 5 i0 Tryz.underlying22 Tryz.underlying9 hi0 hz0 hz1 hz2 v y.size _ hs h z hx (by simp only [maxLen]; omega) (by omega) hB ?_
  intro v' w' hown hgr _
  have ho' : OS w' B v' (y ++ z) := by
    unfold OS
    rw [app_size, cells_app]
    exact hown
  obtain ⟨A, c, e, hc⟩ := ho'.slice
  subst e
  exact hK _ A c w' rfl (app_size _ _) hc ho' ((Below.refl B w).grown hgr hB (own_base h)) (fun g e xs he hr => hr.kept (hgr.block g hr.lt (os_ne h hr he)))
theorem wpList_os_bytes (w : World) {ops : Array Oper} {rest : List Oper} {o : Oper} {a : Act} {Q : Exit → Act → World → Prop} (hgd : o.guard = none) (sl x : Operand)
    (ho : o.op = .call { callee := .builtin .append, args := #[sl, x], argTypes := #[22, 22] })
    (B : Nat) {v : Value} {y : ByteArray} (h : OS w B v y) (hs : a.eval sl = v) (z : ByteArray) {A : Option Addr} {m c : Nat} (hx : a.eval x = .slice A m c) (hr : Reads w w.heap.size 1 A m (Lib.strCells z)) (hm : m = z.size) (hlen : y.size + z.size ≤ 1000000000) (hB : B ≤ w.heap.size)
    (hK : ∀ (y' : ByteArray) A c w', y' = y ++ z → y'.size = y.size + z.size → y'.size ≤ c → OS w' B (.slice A y'.size c) y' → Below B w w' → KpU w w' → wpList Tryz.prog ops Q rest (a.put o.dst (.slice A y'.size c)) w') :
    wpList Tryz.prog ops Q (o :: rest) a w := by
  subst hm
  obtain ⟨i0, hi0, hz0, hz1, hz2⟩ := info_parts u8_info
  refine wpList_append_any w hgd sl x 22 ho B 5 i0 (.int .u8 0) 1 1 Tryz.underlying22 hi0 hz0 hz1 hz2 rfl (by omega) v y.size _ hs h w.heap.size A z.size c (Lib.strCells z) hx hr ?_ (by simp only [maxLen]; omega) (by omega) hB ?_
  · intro u hu
    unfold Lib.strCells at hu
    obtain ⟨b, -, rfl⟩ := List.mem_map.1 hu
    rfl
  · intro v' w' hown hgr _
    have ho' : OS w' B v' (y ++ z) := by
      unfold OS
      rw [app_size, cells_app]
      exact hown
    obtain ⟨A, c, e, hc⟩ := ho'.slice
    subst e
    exact hK _ A c w' rfl (app_size _ _) hc ho' ((Below.refl B w).grown hgr hB (own_base h)) (fun g e xs he hr => hr.kept (hgr.block g hr.lt (os_ne h hr he)))
/-- a stretch of bytes in memory -/
theorem reads_part {w : World} {g : Nat} {body : ByteArray} (hr : RowB w g 5 (body.data.toList.map fun b => Value.int .u8 b.toNat)) {f t : Nat} (hft : f ≤ t) (ht : t ≤ body.size) : Reads w w.heap.size 1 (some ⟨g, f, none⟩) (t - f) (Lib.strCells (body.extract f t)) := by
  have hz : (body.extract f t).size = t - f := by rw [ByteArray.size_extract]; omega
  refine ⟨by rw [Lib.strCells_length, hz]; omega, fun _ => ⟨_, rfl, hr.lt, fun j u hu => ?_⟩⟩
  rw [Addr.add_lit]
  refine hr.cell ?_
  unfold Lib.strCells at hu
  rw [show (body.extract f t).data.toList = (body.data.toList.drop f).take (t - f) by rw [← ByteArray.toList_eq, Lib.extract_toList], List.getElem?_map, List.getElem?_take] at hu
  split at hu
  · rw [List.getElem?_drop] at hu
    rw [List.getElem?_map]
    exact hu
  · cases hu
end Go.Proofs.YtlhnejcjeoecaaaGreatDoor
namespace Go.Proofs.YtlhnejcjeoecaaaGreatDoor
open Go.RowKit Go.Deep
/-- '[]byte(s)' behind a guard that is met -/
theorem wpList_bytes_of_string_g {P : Program} (w : World) {ops : Array Oper} {rest : List Oper} {o : Oper} {a : Act} {Q : Exit → Act → World → Prop}
    (src dst e : TypeId) (x : Operand) (ho : o.op = Op.convert src dst x) (hw : Region.wanted o (yielded ops a.tmps) = true) (hs : P.underlying src = some .string) (hd : P.underlying dst = some (.slice e)) (he : P.underlying e = some (.int .u8))
    (s : ByteArray) (hx : a.eval x = .string s)
    (hK : ∀ w' cap, Ext w w' → RowB w' w.heap.size e (s.data.toList.map fun b => Value.int .u8 b.toNat) → s.size ≤ cap → wpList P ops Q rest (a.put o.dst (.slice (some ⟨w.heap.size, 0, none⟩) s.size cap)) w') :
    wpList P ops Q (o :: rest) a w := by
  refine BigFrame.wpList_want hw fun K hK' => ?_
  have hrun := run_bytes_of_string (P := P) w src dst e s hs hd he
  unfold Oper.wp
  simp only [execOp, ho, hx, Sem.run_bind, hrun, Result.andThen]
  refine hK' _ _ (hK _ _ ((Ext.refl w).drew.trans (Ext.alloc (Ext.refl _) _)) ?_ ?_)
  · refine ⟨bytesRow s (grownCap w s.size 0 e), ((bytesRow s (grownCap w s.size 0 e)).size, (bytesRow s (grownCap w s.size 0 e)).size + 1), List.replicate (grownCap w s.size 0 e - s.size) (.int .u8 0), ?_, ?_, ?_⟩
    · show (w.heap.push _)[w.heap.size]? = _
      simp
    · intro j h1 _; exact h1
    · unfold bytesRow
      simp
  · exact grownCap_ge w s.size 0 e
/-- what the program's Multipart returns -/
def MRes (w w' : World) (b k body : ByteArray) (xs : List (Int × Int)) (v' ev : Value) : Prop := ∃ s c, ev = errC c ∧ mOut b k body xs s c ∧ (c = 0 → BytesV w' w.heap.size v' s ∧ ∀ g n cap, v' = .slice g n cap → n ≤ cap) ∧ (c ≠ 0 → v' = .slice none 0 0)
theorem mres_two {w w' : World} {b k body : ByteArray} {xs : List (Int × Int)} (h : goodM b k body = false) : MRes w w' b k body xs (.slice none 0 0) (errV 2) :=
  ⟨⟨#[]⟩, 2, rfl, .inr (.inr ⟨h, rfl, rfl⟩), fun h => absurd h (by decide), fun _ => rfl⟩
theorem mres_one {w w' : World} {b k body : ByteArray} {xs : List (Int × Int)} (h : goodM b k body = true) (h2 : ¬ (xs ≠ [] ∧ ∀ p ∈ xs, okC p.1 p.2 body.size = true)) : MRes w w' b k body xs (.slice none 0 0) (errV 1) :=
  ⟨⟨#[]⟩, 1, rfl, .inr (.inl ⟨h, h2, rfl, rfl⟩), fun h => absurd h (by decide), fun _ => rfl⟩
theorem good_field {k : ByteArray} {vv : ByteArray} {ev : Value} (h : (kindF k = true ∧ vv = k ∧ ev = .nilIface) ∨ (kindF k = false ∧ (ev = errV 2 ∨ ev = errV 5 ∨ (ev = .nilIface ∧ vv ≠ k)))) : (kindF k = true ∧ vv = k ∧ ev = .nilIface) ∨ (kindF k = false ∧ (ev = errV 2 ∨ ev = errV 5)) ∨ (kindF k = false ∧ ev = .nilIface ∧ vv ≠ k) := by
  rcases h with h | ⟨h1, h2 | h2 | h2⟩
  · exact .inl h
  · exact .inr (.inl ⟨h1, .inl h2⟩)
  · exact .inr (.inl ⟨h1, .inr h2⟩)
  · exact .inr (.inr ⟨h1, h2⟩)
set_option maxRecDepth 100000 in
set_option maxHeartbeats 4000000 in
theorem mult_any (b k body : ByteArray) (hb : b.size ≤ 3000) (hk : k.size ≤ 3000) (hy : body.size ≤ 3000) {w : World} {v dv : Value} {xs : List (Int × Int)} (h : RIn w v xs) (hn : xs.length ≤ 12) {gd cd : Nat} (hdv : dv = .slice (some ⟨gd, 0, none⟩) body.size cd) (hcd : body.size ≤ cd) (hrd : RowB w gd 5 (body.data.toList.map fun b => Value.int .u8 b.toNat)) (hM : MaxL w) (hP : PowT w) :
    Calls Tryz.prog 17 #[.string b, .string k, v, dv] w fun e w' => ∃ v' ev, e = .returned (.tuple #[v', ev]) ∧ Hid (MRes w w' b k body xs v' ev) ∧ Ext w w' := by
  subst hdv
  have HBV := Lib.hid (show BytesV w 0 (.slice (some ⟨gd, 0, none⟩) body.size cd) body from ⟨gd, cd, rfl, Nat.zero_le _, hrd⟩)
  have HRD := Lib.hid hrd
  have HM := Lib.hid hM
  have HP := Lib.hid hP
  obtain ⟨A, cap, rfl, hcap, hr⟩ := h
  obtain ⟨n, hxn⟩ : ∃ n, xs.length = n := ⟨_, rfl⟩
  have HN := Lib.hid hxn
  rw [hxn] at hn hcap hr ⊢
  have HR := Lib.hid hr
  clear hr hxn hrd hM hP
  have HFV := Lib.hid (fvalue_any k (by omega) w)
  have HDL := Lib.hid (fun W => delimiter_any b (by omega) W)
  obtain ⟨b1, hb1⟩ : ∃ c, bndF b = c := ⟨_, rfl⟩
  obtain ⟨b2, hb2⟩ : ∃ c, holdF body b = c := ⟨_, rfl⟩
  obtain ⟨b3, hb3⟩ : ∃ c, kindF k = c := ⟨_, rfl⟩
  have HG : Hid (goodM b k body = (b1 && !b2 && b3)) := Lib.hid (by unfold goodM; rw [hb1, hb2, hb3])
  have HS1 := Lib.hid (fun h : b1 = true => bnd_size (hb1.trans h))
  have HS3 := Lib.hid (fun h : b3 = true => kind_size (hb3.trans h))
  have HB2 := Lib.hid hb2
  have HB3 := Lib.hid hb3
  rw [hb1] at HDL
  clear hb1 hb2 hb3
  go_enter Tryz.func17, Tryz.ntmps17
  go_upto_region 2 with (go_at_call 29; refine HFV.out.mono ?_; rintro e w1 ⟨⟨vv, ev, rfl, HK⟩, hx1⟩)
  have HX1 := Lib.hid hx1
  clear hx1
  cases b1 with
  | false =>
    go_wp2_with (go_at_call 30; refine (HDL.out _).mono ?_; rintro e w2 ⟨rfl, rfl⟩)
    go_returns
    exact ⟨_, _, rfl, Lib.hid (mres_two HG.out), HX1.out⟩
  | true =>
    have HCAP : Hid (∀ g n c, Value.slice (some ⟨gd, 0, none⟩) body.size cd = .slice g n c → n ≤ c) := Lib.hid (fun g n c e => by injection e with e1 e2 e3; omega)
    cases b2 with
    | true =>
      go_wp2_with (first
      | (go_at_call 30; refine (HDL.out _).mono ?_; rintro e w2 ⟨rfl, rfl⟩)
      | (go_at_call 31; refine (bcontains_any (HBV.out.ext (HX1.out.trans hx2)) (show BytesV w2 0 _ b from ⟨_, _, rfl, Nat.zero_le _, hr2⟩) (by omega) (by omega) HCAP.out (HM.out.ext (HX1.out.trans hx2))).mono ?_; rw [HB2.out]; rintro e w3 ⟨rfl, hx3⟩)
      | (refine wpList_bytes_of_string_g _ 9 22 5 (.tmp 27) rfl (by kernel_rfl) Tryz.underlying9 Tryz.underlying22 Tryz.underlying5 b rfl ?_; intro w2 cap2 hx2 hr2 hc2))
      go_returns
      exact ⟨_, _, rfl, Lib.hid (mres_two HG.out), (HX1.out.trans hx2).trans hx3⟩
    | false =>
      rcases good_field HK.out with ⟨h1, rfl, rfl⟩ | ⟨h1, h2⟩ | ⟨h1, rfl, h2⟩
      · obtain rfl : b3 = true := HB3.out.symm.trans h1
        have hbz := HS1.out rfl
        have hkz := HS3.out rfl
        clear h1 HS1 HS3 HB3
        go_upto_region 4 with (first
      | (go_at_call 30; refine (HDL.out _).mono ?_; rintro e w2 ⟨rfl, rfl⟩)
      | (go_at_call 31; refine (bcontains_any (HBV.out.ext (HX1.out.trans hx2)) (show BytesV w2 0 _ b from ⟨_, _, rfl, Nat.zero_le _, hr2⟩) (by omega) (by omega) HCAP.out (HM.out.ext (HX1.out.trans hx2))).mono ?_; rw [HB2.out]; rintro e w3 ⟨rfl, hx3⟩)
      | (refine wpList_bytes_of_string_g _ 9 22 5 (.tmp 27) rfl (by kernel_rfl) Tryz.underlying9 Tryz.underlying22 Tryz.underlying5 b rfl ?_; intro w2 cap2 hx2 hr2 hc2))
        have HX3 := Lib.hid ((HX1.out.trans hx2).trans hx3)
        clear hx2 hx3 hr2 hc2 HX1 HCAP HDL HFV HK HB2
        rcases Nat.eq_zero_or_pos n with h0 | h0
        · subst h0
          have HNE := Lib.hid (show xs = [] from List.length_eq_zero_iff.1 HN.out)
          go_wp2_with fail
          go_returns
          exact ⟨_, _, rfl, Lib.hid (mres_one HG.out (fun h => h.1 HNE.out)), HX3.out⟩
        · have h0' : ((n : Int) == 0) = false := by simp; omega
          have hne : ¬ (n : Int) = 0 := by omega
          have HNE := Lib.hid (show xs ≠ [] from fun e => by have h := HN.out; rw [e] at h; simp at h; omega)
          obtain ⟨B, hB⟩ : ∃ q, w3.heap.size = q := ⟨_, rfl⟩
          have HB := Lib.hid hB
          clear hB
          go_wp2_with fail
          go_loopw [12, 47] (fun ov i wr => ∃ (m : Nat) (y : ByteArray) (A8 : Option Addr) (c8 : Nat), m ≤ n ∧ i = .int .i64 m ∧ ov = .slice A8 y.size c8 ∧ y.size ≤ 64000 ∧ y.size ≤ c8 ∧ Hid (OS wr B (.slice A8 y.size c8) y ∧ Below B w3 wr ∧ y = preS b vv body body.size (xs.take m) ∧ ∀ p ∈ xs.take m, okC p.1 p.2 body.size = true)) (fun _ i _ => n - (intOf i).toNat)
          case atStart => exact ⟨0, ⟨#[]⟩, none, 0, by omega, rfl, rfl, by decide, by decide, Lib.hid ⟨OS.nil _ _, Below.refl _ _, rfl, fun p hp => by simp at hp⟩⟩
          case round =>
            obtain ⟨m, y, A8, c8, hm, rfl, rfl, hy64, hyc, HS⟩ := hrel
            have HX := Lib.hid (show Ext w wr from by have h := HS.out.2.1; rw [← HB.out] at h; exact HX3.out.trans h)
            have HBS := Lib.hid (show B ≤ wr.heap.size from by have h := HS.out.2.1.size; rw [HB.out] at h; exact h)
            by_cases hlt : m < n
            · obtain ⟨a, rfl, hg⟩ := HR.out (by omega)
              have hki : (m : Int) < (n : Int) := by omega
              have hk6 : (m : Int) < 13 := by omega
              have hkc : m < cap := by omega
              obtain ⟨⟨f, t⟩, hr⟩ : ∃ r, xs[m]? = some r := ⟨_, List.getElem?_eq_getElem (by rw [HN.out]; exact hlt)⟩
              have c0 := HX.out.cell (hg m _ hr).1
              have c1 := HX.out.cell (hg m _ hr).2
              simp only at c0 c1
              have HXM := Lib.hid hr
              clear hr hg
              cases hok : okC f t body.size with
              | false =>
                have HCR := Lib.hid (fun W => content_no hok W)
                have HNO := Lib.hid (show ¬ (xs ≠ [] ∧ ∀ p ∈ xs, okC p.1 p.2 body.size = true) from fun h => by
                  have := h.2 (f, t) (List.mem_of_getElem? HXM.out)
                  simp only at this
                  rw [hok] at this
                  cases this)
                clear hok
                by_cases a1 : f < 0
                · go_wp2_with fail
                  go_returns
                  exact ⟨_, _, rfl, Lib.hid (mres_one HG.out HNO.out), HX.out.alloc _⟩
                · by_cases a2 : t ≤ f
                  · go_wp2_with fail
                    go_returns
                    exact ⟨_, _, rfl, Lib.hid (mres_one HG.out HNO.out), HX.out.alloc _⟩
                  · by_cases a3 : (body.size : Int) < t
                    · go_wp2_with fail
                      go_returns
                      exact ⟨_, _, rfl, Lib.hid (mres_one HG.out HNO.out), HX.out.alloc _⟩
                    · go_wp2_with (go_at_call 32; refine (HCR.out _).mono ?_; rintro e w4 ⟨rfl, hx4⟩)
                      go_returns
                      exact ⟨_, _, rfl, Lib.hid (mres_one HG.out HNO.out), (HX.out.alloc _).trans hx4⟩
              | true =>
                have HCR := Lib.hid (fun W (hW : Ext w W) => content_ok hok W (HP.out.ext hW))
                have HOK := Lib.hid hok
                have hcz := cr_size hok
                obtain ⟨⟨p1, p2, p3⟩, p4, -, -⟩ := okC_parts hok
                obtain ⟨f, rfl⟩ := Int.eq_ofNat_of_zero_le p1
                obtain ⟨t, rfl⟩ := Int.eq_ofNat_of_zero_le (show 0 ≤ t by omega)
                obtain ⟨c, hc⟩ : ∃ c, crS f t body.size = c := ⟨_, rfl⟩
                rw [hc] at HCR hcz
                have HC := Lib.hid hc
                have hft : f ≤ t := by omega
                have hty : t ≤ body.size := by omega
                have hfc : ¬ cd = f := by omega
                have a1 : ¬ (f : Int) < 0 := by omega
                have a2 : ¬ (t : Int) ≤ (f : Int) := by omega
                have a3 : ¬ (body.size : Int) < (t : Int) := by omega
                clear hok hc p1 p3
                obtain ⟨H, hH⟩ : ∃ H, headS b vv c = H := ⟨_, rfl⟩
                have hHz : H.size ≤ 2210 := by rw [← hH]; exact head_size hbz hkz hcz
                have HH := Lib.hid hH
                clear hH
                go_upto_region 15 with (go_at_call 32; refine (HCR.out _ (HX.out.alloc _)).mono ?_; rintro e w4 ⟨rfl, hx4⟩)
                have HBX := Lib.hid ((row_laid wr 27 [.int .i64 (f : Int), .int .i64 (t : Int)]).ext hx4)
                have XA : Ext wr w4 := ((Ext.refl wr).alloc (.cells #[.int .i64 (f : Int), .int .i64 (t : Int)] 27)).trans hx4
                have HOS4 := Lib.hid (HS.out.1.kept XA)
                have HB4 := Lib.hid (Nat.le_trans HBS.out XA.size)
                have HW4 := Lib.hid (HS.out.2.1.trans (Below.mono XA HBS.out))
                clear hx4 XA c0 c1
                go_upto_region 16 with (at_builtin; refine wpList_os_string _ rfl _ _ rfl B HOS4.out rfl H (by rw [← HH.out]; rfl) (by omega) HB4.out ?_; intro y5 A5 c5 w5 e5 hz5 hc5 ho5 hb5 hk5; have HZ5 := Lib.hid hz5; have HE5 := Lib.hid e5; have hy5 : y5.size ≤ 66300 := (by omega); clear hz5 e5)
                have HBX5 := Lib.hid (hk5 _ _ _ (by decide) HBX.out)
                have HOS5 := Lib.hid ho5
                have HB5 := Lib.hid (Nat.le_trans HB4.out hb5.size)
                have HW5 := Lib.hid (HW4.out.trans hb5)
                have z0 := HBX5.out.cell (j := 0) rfl
                have z1 := HBX5.out.cell (j := 1) rfl
                clear ho5 hb5 hk5
                obtain ⟨d, hd⟩ : ∃ d, body.extract f t = d := ⟨_, rfl⟩
                have hdz : d.size = t - f := by rw [← hd, ByteArray.size_extract]; omega
                have HDZ := Lib.hid hdz
                have hd3 : d.size ≤ 3000 := by omega
                have HD := Lib.hid hd
                have HRD5 := Lib.hid (show Reads w5 w5.heap.size 1 (some ⟨gd, f, none⟩) (t - f) (Lib.strCells d) from by
                  have hX5 : Ext w w5 := by have h := HW5.out; rw [← HB.out] at h; exact HX3.out.trans h
                  have h := reads_part (HRD.out.ext hX5) hft hty
                  rwa [hd] at h)
                clear hd hdz
                go_upto_region 17 with (first
                  | (at_builtin; refine wpList_os_string _ rfl _ _ rfl B HOS6.out rfl crlB rfl (by have : crlB.size = 2 := rfl; omega) HB6.out ?_; intro y7 A7 c7 w7 e7 hz7 hc7 ho7 hb7 hk7; have HZ7 := Lib.hid hz7; have HE7 := Lib.hid e7; clear hz7 e7)
                  | (at_builtin; refine wpList_os_bytes _ rfl _ _ rfl B HOS5.out rfl d rfl HRD5.out HDZ.out.symm (by omega) HB5.out ?_; intro y6 A6 c6 w6 e6 hz6 hc6 ho6 hb6 hk6; have HZ6 := Lib.hid hz6; have HE6 := Lib.hid e6; have hy6 : y6.size ≤ 70000 := (by omega); have HOS6 := Lib.hid ho6; have HB6 := Lib.hid (Nat.le_trans HB5.out hb6.size); clear hz6 ho6 hk6 e6))
                have HY7 : Hid (y7 = preS b vv body body.size (xs.take (m + 1))) := Lib.hid (by
                  have hcut : cutO body ((f : Int), (t : Int)) = d := by unfold cutO; simpa using HD.out
                  rw [take_step HXM.out, preS_snoc, ← HS.out.2.2.1, hcut, HE7.out, HE6.out, HE5.out]
                  simp only
                  rw [HC.out]
                  unfold partS
                  rw [HH.out, app_assoc, app_assoc, app_assoc])
                have HALL : Hid (∀ p ∈ xs.take (m + 1), okC p.1 p.2 body.size = true) := Lib.hid (fun p hp => by
                  rw [take_step HXM.out, List.mem_append] at hp
                  rcases hp with hp | hp
                  · exact HS.out.2.2.2 p hp
                  · obtain rfl : p = ((f : Int), (t : Int)) := by simpa using hp
                    exact HOK.out)
                have hz7 : y7.size ≤ 64000 := by
                  have h := preS_size hbz hkz hy (xs.take (m + 1)) HALL.out
                  rw [← HY7.out, List.length_take] at h
                  omega
                have HOS7 := Lib.hid ho7
                have HW7 := Lib.hid ((HW5.out.trans hb6).trans hb7)
                clear ho7 hb6 hb7 hk7
                go_wp2_with fail
                go_roundw
                case rel => exact ⟨m + 1, y7, A7, c7, by omega, by go_num, rfl, hz7, hc7, Lib.hid ⟨HOS7.out, HW7.out, HY7.out, HALL.out⟩⟩
                case measure => simp [intOf]; omega
            · obtain rfl : m = n := by omega
              have htk : xs.take m = xs := by rw [← HN.out, List.take_length]
              rw [htk] at HS
              clear htk
              have hfz : (finB b).size ≤ 46 := by
                unfold finB
                rw [app_size, app_size]
                have e1 : (⟨#[45, 45]⟩ : ByteArray).size = 2 := rfl
                have e2 : (⟨#[45, 45, 13, 10]⟩ : ByteArray).size = 4 := rfl
                omega
              have hf0 : 0 < (finB b).size := by
                unfold finB
                rw [app_size, app_size]
                have e2 : (⟨#[45, 45, 13, 10]⟩ : ByteArray).size = 4 := rfl
                omega
              obtain ⟨F, hF⟩ : ∃ F, finB b = F := ⟨_, rfl⟩
              have HF := Lib.hid hF
              rw [hF] at hfz hf0
              clear hF
              go_wp2_with (at_builtin; refine wpList_os_string _ rfl _ _ rfl B HS.out.1 rfl F (by rw [← HF.out]; rfl) (by omega) HBS.out ?_; intro y7 A7 c7 w7 e7 hz7 hc7 ho7 hb7 hk7; have HZ7 := Lib.hid hz7; have HE7 := Lib.hid e7; clear hz7 e7)
              go_returns
              refine ⟨_, _, rfl, Lib.hid ⟨y7, 0, rfl, .inl ⟨HG.out, HNE.out, HS.out.2.2.2, ?_, rfl⟩, fun _ => ⟨?_, ?_⟩, fun h => absurd rfl h⟩, ?_⟩
              · rw [HE7.out, HS.out.2.2.1, HF.out]
              · obtain ⟨g, cap, e, hg, hr⟩ := ho7.bytes (by have := HZ7.out; omega)
                exact ⟨g, cap, e, Nat.le_trans (by have := HX3.out.size; rw [HB.out] at this; exact this) hg, hr⟩
              · intro g n cap e
                injection e with e1 e2 e3
                omega
              · have h := HS.out.2.1.trans hb7
                rw [← HB.out] at h
                exact HX3.out.trans h
      · obtain rfl : b3 = false := HB3.out.symm.trans h1
        rcases h2 with rfl | rfl
        · clear h1
          go_wp2_with (first
      | (go_at_call 30; refine (HDL.out _).mono ?_; rintro e w2 ⟨rfl, rfl⟩)
      | (go_at_call 31; refine (bcontains_any (HBV.out.ext (HX1.out.trans hx2)) (show BytesV w2 0 _ b from ⟨_, _, rfl, Nat.zero_le _, hr2⟩) (by omega) (by omega) HCAP.out (HM.out.ext (HX1.out.trans hx2))).mono ?_; rw [HB2.out]; rintro e w3 ⟨rfl, hx3⟩)
      | (refine wpList_bytes_of_string_g _ 9 22 5 (.tmp 27) rfl (by kernel_rfl) Tryz.underlying9 Tryz.underlying22 Tryz.underlying5 b rfl ?_; intro w2 cap2 hx2 hr2 hc2))
          go_returns
          exact ⟨_, _, rfl, Lib.hid (mres_two HG.out), (HX1.out.trans hx2).trans hx3⟩
        · clear h1
          go_wp2_with (first
      | (go_at_call 30; refine (HDL.out _).mono ?_; rintro e w2 ⟨rfl, rfl⟩)
      | (go_at_call 31; refine (bcontains_any (HBV.out.ext (HX1.out.trans hx2)) (show BytesV w2 0 _ b from ⟨_, _, rfl, Nat.zero_le _, hr2⟩) (by omega) (by omega) HCAP.out (HM.out.ext (HX1.out.trans hx2))).mono ?_; rw [HB2.out]; rintro e w3 ⟨rfl, hx3⟩)
      | (refine wpList_bytes_of_string_g _ 9 22 5 (.tmp 27) rfl (by kernel_rfl) Tryz.underlying9 Tryz.underlying22 Tryz.underlying5 b rfl ?_; intro w2 cap2 hx2 hr2 hc2))
          go_returns
          exact ⟨_, _, rfl, Lib.hid (mres_two HG.out), (HX1.out.trans hx2).trans hx3⟩
      · obtain rfl : b3 = false := HB3.out.symm.trans h1
        have qv : (vv.toList == k.toList) = false := by rw [beq_eq_false_iff_ne]; exact fun h => h2 (bs_ext h)
        clear h1 h2
        go_wp2_with (first
      | (go_at_call 30; refine (HDL.out _).mono ?_; rintro e w2 ⟨rfl, rfl⟩)
      | (go_at_call 31; refine (bcontains_any (HBV.out.ext (HX1.out.trans hx2)) (show BytesV w2 0 _ b from ⟨_, _, rfl, Nat.zero_le _, hr2⟩) (by omega) (by omega) HCAP.out (HM.out.ext (HX1.out.trans hx2))).mono ?_; rw [HB2.out]; rintro e w3 ⟨rfl, hx3⟩)
      | (refine wpList_bytes_of_string_g _ 9 22 5 (.tmp 27) rfl (by kernel_rfl) Tryz.underlying9 Tryz.underlying22 Tryz.underlying5 b rfl ?_; intro w2 cap2 hx2 hr2 hc2))
        go_returns
        exact ⟨_, _, rfl, Lib.hid (mres_two HG.out), (HX1.out.trans hx2).trans hx3⟩
end Go.Proofs.YtlhnejcjeoecaaaGreatDoor
namespace Go.Proofs.YtlhnejcjeoecaaaGreatDoor
open Go.RowKit
/-- what follows the first element -/
def tl : List (List UInt8) → List UInt8
  | [] => []
  | y :: r => 44 :: (y ++ tl r)
theorem tl_join (r : List (List UInt8)) : Lib.joinTail [44] r = tl r := by
  induction r with
  | nil => rfl
  | cons y r ih =>
    show ((y :: r).map ([44] ++ ·)).flatten = _
    rw [List.map_cons, List.flatten_cons]
    have : (r.map ([44] ++ ·)).flatten = tl r := ih
    rw [this]
    rfl
theorem scn_skip {s : ByteArray} {fr : Nat} : ∀ (n i : Nat), i + n ≤ s.size → (∀ k, i ≤ k → k < i + n → byt s k ≠ 34 ∧ byt s k ≠ 44) → scn s i fr false = scn s (i + n) fr false
  | 0, _, _, _ => rfl
  | n + 1, i, hn, h => by
    have h0 := h i (Nat.le_refl _) (by omega)
    rw [scn_on (by omega) (by simp) h0.1 (fun hh => h0.2 hh.2), scn_skip n (i + 1) (by omega) (fun k h1 h2 => h k (by omega) (by omega)), show i + 1 + n = i + (n + 1) by omega]
theorem ext_mid (pre x z : List UInt8) : (bs (pre ++ (x ++ z))).extract pre.length (pre.length + x.length) = bs x := by
  refine bs_ext ?_
  rw [ext_list, bs_mk, bs_mk, List.drop_left, Nat.add_sub_cancel_left, List.take_left]
theorem byt_mid {pre x z : List UInt8} {k : Nat} (h1 : pre.length ≤ k) (h2 : k < pre.length + x.length) : ∃ c ∈ x, byt (bs (pre ++ (x ++ z))) k = c.toNat := by
  have hk : k < (pre ++ (x ++ z)).length := by simp; omega
  refine ⟨x[k - pre.length], List.getElem_mem _, ?_⟩
  rw [byt_mk _ k hk, List.getElem_append_right h1, List.getElem_append_left (by omega)]
theorem scn_join : ∀ (r : List (List UInt8)) (x pre : List UInt8), plain x → (∀ y ∈ r, plain y) → scn (bs (pre ++ (x ++ tl r))) pre.length pre.length false = some (bs x :: r.map bs)
  | [], x, pre, hx, _ => by
    have hsz : (bs (pre ++ (x ++ tl []))).size = pre.length + x.length := by rw [bs_size]; simp [tl]
    rw [scn_skip x.length pre.length (by omega) (fun k h1 h2 => by
      obtain ⟨c, hc, e⟩ := byt_mid (z := tl []) h1 h2
      have := hx c hc
      omega), scn_end (by omega), hsz, ext_mid, trim_plain hx]
    rfl
  | y :: r, x, pre, hx, hr => by
    have hsz : (bs (pre ++ (x ++ tl (y :: r)))).size = pre.length + x.length + 1 + (y ++ tl r).length := by rw [bs_size]; simp [tl]; omega
    rw [scn_skip x.length pre.length (by omega) (fun k h1 h2 => by
      obtain ⟨c, hc, e⟩ := byt_mid (z := tl (y :: r)) h1 h2
      have := hx c hc
      omega)]
    have hb : byt (bs (pre ++ (x ++ tl (y :: r)))) (pre.length + x.length) = 44 := by
      rw [byt_mk _ _ (by simp [tl]), List.getElem_append_right (by omega), List.getElem_append_right (by omega)]
      simp [tl]
    rw [scn_sep (by omega) hb, ext_mid, trim_plain hx]
    have ih := scn_join r y (pre ++ (x ++ [44])) (hr y (by simp)) (fun z hz => hr z (by simp [hz]))
    have e1 : pre ++ (x ++ [44]) ++ (y ++ tl r) = pre ++ (x ++ tl (y :: r)) := by simp [tl]
    have e2 : (pre ++ (x ++ [44])).length = pre.length + x.length + 1 := by simp; omega
    rw [e1, e2] at ih
    rw [ih]
    rfl
theorem list_join {x : List UInt8} {r : List (List UInt8)} (hx : plain x) (hr : ∀ y ∈ r, plain y) (h0 : 0 < x.length) (h1 : ∀ y ∈ r, 0 < y.length) : listF (bs (x ++ tl r)) = some (bs x :: r.map bs) := by
  have hb : ∀ (r : List (List UInt8)), (∀ y ∈ r, plain y) → ∀ c ∈ tl r, 44 ≤ c.toNat ∧ c.toNat ≤ 57 := by
    intro r
    induction r with
    | nil => intro _ c hc; cases hc
    | cons y r ih =>
      intro h c hc
      rcases List.mem_cons.1 hc with rfl | hc
      · decide
      · rcases List.mem_append.1 hc with hc | hc
        · have := h y (by simp) c hc; omega
        · exact ih (fun z hz => h z (by simp [hz])) c hc
  have hall : ∀ c ∈ x ++ tl r, 44 ≤ c.toNat ∧ c.toNat ≤ 57 := by
    intro c hc
    rcases List.mem_append.1 hc with hc | hc
    · have := hx c hc; omega
    · exact hb r hr c hc
  have hc : cleanF (bs (x ++ tl r)) = true := decide_eq_true fun i hi => by
    obtain ⟨c, hc, e⟩ := bs_byt hi
    have := hall c hc
    rw [e]
    unfold ctl
    simp
    omega
  have hs := scn_join r x [] hx hr
  unfold listF partsF
  rw [hc, if_pos rfl]
  have e : scn (bs (x ++ tl r)) 0 0 false = some (bs x :: r.map bs) := hs
  rw [e, Option.map_some]
  have hf : (bs x :: r.map bs).filter neS = bs x :: r.map bs := by
    rw [List.filter_eq_self]
    intro z hz
    rcases List.mem_cons.1 hz with rfl | hz
    · exact decide_eq_true (by rw [bs_size]; omega)
    · obtain ⟨y, hy, rfl⟩ := List.mem_map.1 hz
      have := h1 y hy
      exact decide_eq_true (by rw [bs_size]; omega)
  rw [hf]
/-- an element -/
def elL (p : Int × Int) : List UInt8 := Lib.itoa p.1 ++ 45 :: Lib.itoa (p.2 - 1)
theorem okR_parts {f t : Int} (h : okR f t = true) : 0 ≤ f ∧ f < t ∧ t ≤ 999999999999999 := of_decide_eq_true h
theorem el_facts {p : Int × Int} (h : okR p.1 p.2 = true) : plain (elL p) ∧ 0 < (elL p).length ∧ (elL p).length ≤ 40 ∧ ∀ len, p.2 ≤ len → elF (bs (elL p)) len = some p := by
  obtain ⟨f, t⟩ := p
  obtain ⟨h0, h1, h2⟩ := okR_parts h
  obtain ⟨u, rfl⟩ := Int.eq_ofNat_of_zero_le h0
  obtain ⟨v, rfl⟩ : ∃ v : Nat, t = (v : Int) + 1 := ⟨(t - 1).toNat, by omega⟩
  unfold elL
  simp only
  rw [show (v : Int) + 1 - 1 = (v : Int) by omega]
  refine ⟨plain_dash (itoa_digs u) (itoa_digs v), by simp; omega, ?_, fun len hl => ?_⟩
  · have k1 := (itoa_len u 15 (by omega) (by omega)).2
    have k2 := (itoa_len v 15 (by omega) (by omega)).2
    simp only [List.length_append, List.length_cons]
    omega
  · rw [el_two (by omega) (by omega) (by omega) len, show min len ((v : Int) + 1) = (v : Int) + 1 by omega]
theorem els_all (len : Int) : ∀ (xs : List (Int × Int)), (∀ p ∈ xs, okR p.1 p.2 = true ∧ p.2 ≤ len) → elsF len (xs.map fun p => bs (elL p)) = some xs
  | [], _ => rfl
  | p :: r, h => by
    have h1 := h p (by simp)
    have h2 := (okR_parts h1.1).2.1
    rw [List.map_cons, elsF, (el_facts h1.1).2.2.2 len h1.2]
    simp only
    rw [els_all len r (fun q hq => h q (by simp [hq]))]
    simp [h2]
/-- the elements, joined by commas -/
def fmtL : List (Int × Int) → List UInt8
  | [] => []
  | p :: r => elL p ++ tl (r.map elL)
theorem fmt_parse (xs : List (Int × Int)) (len : Int) (h0 : xs ≠ []) (hl : 0 ≤ len) (h : ∀ p ∈ xs, okR p.1 p.2 = true ∧ p.2 ≤ len) : parseF (bs (pfxL ++ fmtL xs)) len = if 8 < xs.length then ([], 5) else (xs, 0) := by
  cases xs with
  | nil => exact absurd rfl h0
  | cons p r =>
    have hp := el_facts (h p (by simp)).1
    have hr : ∀ y ∈ r.map elL, plain y ∧ 0 < y.length := fun y hy => by
      obtain ⟨q, hq, rfl⟩ := List.mem_map.1 hy
      have := el_facts (h q (by simp [hq])).1
      exact ⟨this.1, this.2.1⟩
    have hlist := list_join hp.1 (fun y hy => (hr y hy).1) hp.2.1 (fun y hy => (hr y hy).2)
    have he := els_all len (p :: r) h
    rw [List.map_cons] at he
    unfold parseF
    rw [pfx_app, if_pos rfl, rest_app]
    have e1 : fmtL (p :: r) = elL p ++ tl (r.map elL) := rfl
    rw [e1, hlist]
    simp only
    rw [if_neg (by simp), show max 0 len = len by omega]
    have e2 : bs (elL p) :: (r.map elL).map bs = bs (elL p) :: r.map fun p => bs (elL p) := by simp
    rw [e2, he]
    simp only
    by_cases h8 : 8 < (p :: r).length
    · rw [if_pos (by simpa using h8), if_pos h8]
    · rw [if_neg (by simpa using h8), if_neg h8, if_neg (by simp)]
theorem tl_length (n : Nat) : ∀ (r : List (List UInt8)), (∀ y ∈ r, y.length ≤ n) → (tl r).length ≤ r.length * (n + 1)
  | [], _ => by simp [tl]
  | y :: r, h => by
    have h1 := tl_length n r (fun z hz => h z (by simp [hz]))
    have h2 := h y (by simp)
    simp only [tl, List.length_cons, List.length_append]
    rw [Nat.succ_mul]
    omega
theorem fmt_length (xs : List (Int × Int)) (h : ∀ p ∈ xs, okR p.1 p.2 = true) : (fmtL xs).length ≤ xs.length * 41 := by
  cases xs with
  | nil => simp [fmtL]
  | cons p r =>
    have h1 := (el_facts (h p (by simp))).2.2.1
    have h2 := tl_length 40 (r.map elL) (fun y hy => by
      obtain ⟨q, hq, rfl⟩ := List.mem_map.1 hy
      exact (el_facts (h q (by simp [hq]))).2.2.1)
    simp only [fmtL, List.length_append, List.length_cons]
    rw [List.length_map] at h2
    omega
theorem tl_append : ∀ (r : List (List UInt8)) (y : List UInt8), tl (r ++ [y]) = tl r ++ 44 :: y
  | [], y => by simp [tl]
  | z :: r, y => by simp [tl, tl_append r y]
/-- one element more -/
theorem fmt_snoc (xs : List (Int × Int)) (p : Int × Int) : fmtL (xs ++ [p]) = if xs = [] then elL p else fmtL xs ++ 44 :: elL p := by
  cases xs with
  | nil => simp [fmtL, tl]
  | cons q r => simp [fmtL, tl_append]
theorem fmt_join (xs : List (Int × Int)) : Lib.join (xs.map elL) [44] = fmtL xs := by
  cases xs with
  | nil => rfl
  | cons p r =>
    rw [List.map_cons, Lib.join_cons, tl_join]
    rfl
end Go.Proofs.YtlhnejcjeoecaaaGreatDoor
namespace Go.Proofs.YtlhnejcjeoecaaaGreatDoor
open Go.RowKit
def okL (xs : List (Int × Int)) : Bool := !xs.isEmpty && xs.all fun p => okR p.1 p.2
theorem okL_true {xs : List (Int × Int)} (h : okL xs = true) : xs ≠ [] ∧ ∀ p ∈ xs, okR p.1 p.2 = true := by
  unfold okL at h
  rw [Bool.and_eq_true, List.all_eq_true] at h
  refine ⟨fun e => ?_, h.2⟩
  rw [e] at h
  exact absurd h.1 (by simp)
theorem okL_yes {xs : List (Int × Int)} (h0 : xs ≠ []) (h : ∀ p ∈ xs, okR p.1 p.2 = true) : okL xs = true := by
  unfold okL
  rw [Bool.and_eq_true, List.all_eq_true]
  refine ⟨?_, h⟩
  cases xs with
  | nil => exact absurd rfl h0
  | cons _ _ => rfl
theorem okL_no {xs : List (Int × Int)} {k : Nat} {p : Int × Int} (hk : xs[k]? = some p) (h : okR p.1 p.2 = false) : okL xs = false := by
  rw [← Bool.not_eq_true]
  intro h2
  have := (okL_true h2).2 p (List.mem_of_getElem? hk)
  rw [h] at this
  cases this
theorem mem_take_ok {xs : List (Int × Int)} {n : Nat} (hn : xs.length = n) (h : ∀ j, j < n → ∀ p, xs[j]? = some p → okR p.1 p.2 = true) : ∀ p ∈ xs, okR p.1 p.2 = true := by
  intro p hp
  obtain ⟨j, hj⟩ := List.getElem?_of_mem hp
  exact h j (by rw [← hn]; exact (List.getElem?_eq_some_iff.1 hj).1) p hj
theorem StrOwn.ext {w w' : World} {B : Nat} {v : Value} {xs : List ByteArray} (h : StrOwn w B v xs) (hx : Ext w w') : StrOwn w' B v xs := own_kept h hx
theorem join_own {w : World} {B : Nat} {v : Value} {ls : List (List UInt8)} (h : StrOwn w B v (ls.map bs)) (h0 : 0 < ls.length) (hn : ls.length ≤ 1000) (hl : (Lib.join ls [44]).length ≤ 100000) :
    Calls Tryz.prog 21 #[v, .string ⟨#[44]⟩] w fun e w' => e = .returned (.string (bs (Lib.join ls [44]))) ∧ Ext w w' := by
  have hat := h.at
  rcases h.2 with ⟨_, e⟩ | ⟨g, cap, cur, rfl, hb, hh, hcap, _⟩
  · rw [List.length_map] at e; omega
  · have hlt : g < w.heap.size := (Array.getElem?_eq_some_iff.1 hh).1
    have hc : ∀ (j : Nat) x, (ls.map bs)[j]? = some x → w.cell? ⟨g, 0 + j, none⟩ = some (.string x) := by
      intro j x hx
      rcases hat with ⟨h1, _⟩ | ⟨g', cap', h1, h2⟩
      · cases h1
      · cases h1
        have := h2 j x hx 0 _ rfl
        rw [show j * 1 + 0 = 0 + j by omega] at this
        exact this
    have e : (ls.map bs).map (·.data.toList) = ls := by
      rw [List.map_map]
      exact List.map_id'' (fun x => rfl) ls
    have hcall := Any.strings_Join Tryz.lays156 Tryz.Builder_Extra_156 g 0 cap (ls.map bs) ⟨#[44]⟩ w hc hlt (by rw [List.length_map]; omega) hcap (by rw [e]; exact Nat.le_trans hl (by omega))
    rw [e] at hcall
    exact hcall
theorem elS {f t : Int} : itoS f ++ ⟨#[45]⟩ ++ itoS (t - 1) = bs (elL (f, t)) := by
  show bs (Lib.itoa f) ++ bs [45] ++ bs (Lib.itoa (t - 1)) = _
  rw [itoS_app, itoS_app]
  simp [elL]
def sL (xs : List (Int × Int)) (k : Nat) : List ByteArray := ((xs.take k).map elL).map bs
theorem sL_length (xs : List (Int × Int)) (k : Nat) : (sL xs k).length = (xs.take k).length := by simp [sL]
theorem sL_step {xs : List (Int × Int)} {k : Nat} {p : Int × Int} (h : xs[k]? = some p) : sL xs (k + 1) = sL xs k ++ [bs (elL p)] := by
  unfold sL
  rw [List.take_add_one, h]
  simp
set_option maxRecDepth 100000 in
set_option maxHeartbeats 2000000 in
theorem format_any {w : World} {v : Value} {xs : List (Int × Int)} (h : RIn w v xs) (hn : xs.length ≤ 300) (hP : PowT w) :
    Calls Tryz.prog 6 #[v] w fun e w' => e = .returned (.tuple #[.string (if okL xs = true then bs (pfxL ++ fmtL xs) else ⟨#[]⟩), if okL xs = true then .nilIface else errV 2]) ∧ Ext w w' := by
  obtain ⟨A, cap, rfl, hcap, hr⟩ := h
  obtain ⟨n, hxn⟩ : ∃ n, xs.length = n := ⟨_, rfl⟩
  have HN := Lib.hid hxn
  rw [hxn] at hn hcap hr ⊢
  have HR := Lib.hid hr
  have HP := Lib.hid hP
  clear hr hxn hP
  rcases Nat.eq_zero_or_pos n with h0 | h0
  · obtain ⟨b, hb⟩ : ∃ b, okL xs = b := ⟨_, rfl⟩
    have hbf : b = false := by
      rw [← hb, List.length_eq_zero_iff.1 (HN.out.trans h0)]
      rfl
    subst hbf
    rw [hb]
    subst h0
    clear hb
    go_enter Tryz.func6, Tryz.ntmps6
    go_wp2_with fail
    go_returns
    exact ⟨rfl, Ext.refl _⟩
  · have h0i : ((n : Int) == 0) = false := by simp; omega
    have h0n : ¬ n = 0 := by omega
    obtain ⟨OK, hOK⟩ : ∃ b, okL xs = b := ⟨_, rfl⟩
    have HOK := Lib.hid hOK
    rw [hOK]
    clear hOK
    go_enter Tryz.func6, Tryz.ntmps6
    go_wp2_with fail
    go_loopw [4, 13] (fun ov i wr => ∃ k : Nat, k ≤ n ∧ i = .int .i64 k ∧ StrOwn wr w.heap.size ov (sL xs k) ∧ Ext w wr ∧ Hid (∀ j, j < k → ∀ p, xs[j]? = some p → okR p.1 p.2 = true)) (fun _ i _ => n - (intOf i).toNat)
    case atStart => exact ⟨0, by omega, rfl, StrOwn.nil _ _, Ext.refl _, Lib.hid (fun j hj => by omega)⟩
    case round =>
      obtain ⟨k, hk, rfl, hown, hX, HALL⟩ := hrel
      by_cases hlt : k < n
      · obtain ⟨a, rfl, hg⟩ := HR.out h0
        have hki : (k : Int) < (n : Int) := by omega
        have hk6 : (k : Int) < 301 := by omega
        have hkc : k < cap := by omega
        obtain ⟨⟨f, t⟩, hr⟩ : ∃ r, xs[k]? = some r := ⟨_, List.getElem?_eq_getElem (by rw [HN.out]; exact hlt)⟩
        have c0 := hX.cell (hg k _ hr).1
        have c1 := hX.cell (hg k _ hr).2
        simp only at c0 c1
        have HXK := Lib.hid hr
        have HO := Lib.hid hown
        have HX := Lib.hid hX
        have HLN := Lib.hid (show (sL xs k).length ≤ 300 by rw [sL_length, List.length_take]; omega)
        have HTT := Lib.hid (sL_step hr)
        have HPR := Lib.hid (fun W => proper_any f t W)
        clear hr hg hown
        go_upto_region 7 with fail
        obtain ⟨wa, hwa⟩ : ∃ wa, wa = wr.alloc (.cells #[.int .i64 f, .int .i64 t] 27) := ⟨_, rfl⟩
        have XA : Ext wr wa := by rw [hwa]; exact (Ext.refl wr).alloc _
        have HB : Hid (RowB wa wr.heap.size 27 [.int .i64 f, .int .i64 t]) := Lib.hid (by rw [hwa]; exact row_laid _ _ _)
        rw [← hwa]
        clear hwa c0 c1
        obtain ⟨rb, hrb⟩ : ∃ q, wr.heap.size = q := ⟨_, rfl⟩
        rw [hrb] at HB ⊢
        clear hrb
        have HXA := Lib.hid XA
        clear XA
        have b0 := HB.out.cell (j := 0) rfl
        have b1 := HB.out.cell (j := 1) rfl
        cases hok : okR f t with
        | false =>
          rw [hok] at HPR
          obtain rfl : OK = false := HOK.out.symm.trans (okL_no HXK.out hok)
          clear hok hX
          go_wp2_with (go_at_call 19; refine (HPR.out _).mono ?_; rintro e w3 ⟨rfl, hx3⟩)
          go_returns
          exact ⟨rfl, (HX.out.trans HXA.out).trans hx3⟩
        | true =>
          rw [hok] at HPR
          have HALL2 : Hid (∀ j, j < k + 1 → ∀ p, xs[j]? = some p → okR p.1 p.2 = true) := Lib.hid (fun j hj p hp => by
            by_cases e : j = k
            · subst e
              rw [HXK.out] at hp
              obtain rfl := Option.some.inj hp
              exact hok
            · exact HALL.out j (by omega) p hp)
          have HTX := Lib.hid (fun W (hW : Ext w W) => rangetext_any (okR_parts hok) W (HP.out.ext hW))
          obtain ⟨z, hz⟩ : ∃ z, itoS f ++ ⟨#[45]⟩ ++ itoS (t - 1) = z := ⟨_, rfl⟩
          have HZ := Lib.hid (elS.symm.trans hz)
          rw [hz] at HTX
          rw [show bs (elL (f, t)) = z from HZ.out] at HTT
          clear hok hX hz
          go_upto_region 9 with (go_at_call 19; refine (HPR.out _).mono ?_; rintro e w3 ⟨rfl, hx3⟩)
          have HB3 := Lib.hid (HB.out.ext hx3)
          have HX3 := Lib.hid ((HX.out.trans HXA.out).trans hx3)
          have HO3 := Lib.hid (HO.out.ext (HXA.out.trans hx3))
          clear hx3 b0 b1
          have b0 := HB3.out.cell (j := 0) rfl
          have b1 := HB3.out.cell (j := 1) rfl
          go_wp2_with fail
          refine (HTX.out _ HX3.out).mono ?_
          rintro e w4 ⟨rfl, hx4⟩
          have hsz := (HX3.out.trans hx4).size
          have HX4 := Lib.hid (HX3.out.trans hx4)
          have HO4 := Lib.hid (HO3.out.ext hx4)
          clear hx4 b0 b1
          go_wp2_with (at_builtin; refine wpList_append_str w4 rfl (.tmp 21) (.tmp 24) rfl w.heap.size z HO4.out rfl rfl rfl (by have := HLN.out; omega) hsz ?_)
          intro v' w5 hown' hb _
          rw [← HTT.out] at hown'
          go_wp2_with fail
          go_roundw
          case rel => exact ⟨k + 1, by omega, by go_num, hown', Below.trans HX4.out hb, HALL2⟩
          case measure => simp [intOf]; omega
      · obtain rfl : k = n := by omega
        unfold sL at hown
        rw [← HN.out, List.take_length] at hown
        have hall : ∀ p ∈ xs, okR p.1 p.2 = true := mem_take_ok HN.out HALL.out
        obtain rfl : OK = true := HOK.out.symm.trans (okL_yes (fun e => by rw [e] at HN; exact h0n HN.out.symm) hall)
        have HJ := Lib.hid (join_own hown (by rw [List.length_map, HN.out]; exact h0) (by rw [List.length_map, HN.out]; omega) (by rw [fmt_join]; exact Nat.le_trans (fmt_length xs hall) (by rw [HN.out]; omega)))
        obtain ⟨jj, hjj⟩ : ∃ j, bs (Lib.join (xs.map elL) [44]) = j := ⟨_, rfl⟩
        have HJJ := Lib.hid hjj
        have hjs : jj.size ≤ 20000 := by
          rw [← hjj, bs_size, fmt_join]
          exact Nat.le_trans (fmt_length xs hall) (by rw [HN.out]; omega)
        rw [hjj] at HJ
        have HX := Lib.hid hX
        clear hown hall hjj hX
        go_wp2_with (go_at_call 21; refine HJ.out.mono ?_; rintro e w3 ⟨rfl, hx3⟩)
        go_returns
        refine ⟨?_, HX.out.trans hx3⟩
        rw [← HJJ.out, fmt_join]
        show Ending.returned (.tuple #[.string (bs pfxL ++ bs (fmtL xs)), .nilIface]) = _
        rw [itoS_app]
end Go.Proofs.YtlhnejcjeoecaaaGreatDoor
namespace Go.Proofs.YtlhnejcjeoecaaaGreatDoor
open Go.RowKit
/-- the list cut at a length -/
def cutR (len : Int) (xs : List (Int × Int)) : List (Int × Int) := (xs.map fun p => (p.1, min len p.2)).filter fun p => decide (p.1 < p.2)
theorem el_cut {p : Int × Int} (h : okR p.1 p.2 = true) (len : Int) : elF (bs (elL p)) len = some (p.1, min len p.2) := by
  obtain ⟨f, t⟩ := p
  obtain ⟨h0, h1, h2⟩ := okR_parts h
  obtain ⟨u, rfl⟩ := Int.eq_ofNat_of_zero_le h0
  obtain ⟨v, rfl⟩ : ∃ v : Nat, t = (v : Int) + 1 := ⟨(t - 1).toNat, by omega⟩
  unfold elL
  simp only
  rw [show (v : Int) + 1 - 1 = (v : Int) by omega, el_two (by omega) (by omega) (by omega) len]
theorem els_cut (len : Int) : ∀ (xs : List (Int × Int)), (∀ p ∈ xs, okR p.1 p.2 = true) → elsF len (xs.map fun p => bs (elL p)) = some (cutR len xs)
  | [], _ => rfl
  | p :: r, h => by
    rw [List.map_cons, elsF, el_cut (h p (by simp)) len]
    simp only
    rw [els_cut len r (fun q hq => h q (by simp [hq]))]
    unfold cutR
    simp only [List.map_cons, List.filter_cons, Option.map_some, decide_eq_true_eq]
theorem fmt_cut (xs : List (Int × Int)) (len : Int) (h0 : xs ≠ []) (h8 : xs.length ≤ 8) (hl : 0 ≤ len) (h : ∀ p ∈ xs, okR p.1 p.2 = true) : parseF (bs (pfxL ++ fmtL xs)) len = if (cutR len xs).length = 0 then ([], 1) else (cutR len xs, 0) := by
  cases xs with
  | nil => exact absurd rfl h0
  | cons p r =>
    have hp := el_facts (h p (by simp))
    have hr : ∀ y ∈ r.map elL, plain y ∧ 0 < y.length := fun y hy => by
      obtain ⟨q, hq, rfl⟩ := List.mem_map.1 hy
      have := el_facts (h q (by simp [hq]))
      exact ⟨this.1, this.2.1⟩
    have hlist := list_join hp.1 (fun y hy => (hr y hy).1) hp.2.1 (fun y hy => (hr y hy).2)
    have he := els_cut len (p :: r) h
    rw [List.map_cons] at he
    unfold parseF
    rw [pfx_app, if_pos rfl, rest_app]
    have e1 : fmtL (p :: r) = elL p ++ tl (r.map elL) := rfl
    rw [e1, hlist]
    simp only
    rw [if_neg (by simp), show max 0 len = len by omega]
    have e2 : bs (elL p) :: (r.map elL).map bs = bs (elL p) :: r.map fun p => bs (elL p) := by simp
    rw [e2, he]
    simp only
    rw [if_neg (by simp at h8 ⊢; omega)]
theorem cut_mem {len : Int} {xs : List (Int × Int)} {q : Int × Int} (h : q ∈ cutR len xs) : ∃ p ∈ xs, q = (p.1, min len p.2) ∧ q.1 < q.2 := by
  unfold cutR at h
  rw [List.mem_filter] at h
  obtain ⟨p, hp, e⟩ := List.mem_map.1 h.1
  exact ⟨p, hp, e.symm, of_decide_eq_true h.2⟩
theorem cut_none {len : Int} {xs : List (Int × Int)} (h : (cutR len xs).length = 0) : ∀ p ∈ xs, ¬ p.1 < min len p.2 := by
  intro p hp hlt
  have h1 := List.length_eq_zero_iff.1 h
  have : (p.1, min len p.2) ∈ cutR len xs := by
    unfold cutR
    rw [List.mem_filter]
    exact ⟨List.mem_map.2 ⟨p, hp, rfl⟩, decide_eq_true hlt⟩
  rw [h1] at this
  cases this
theorem cut_length (len : Int) (xs : List (Int × Int)) : (cutR len xs).length ≤ xs.length := by
  unfold cutR
  exact Nat.le_trans (List.length_filter_le _ _) (by simp)
end Go.Proofs.YtlhnejcjeoecaaaGreatDoor
