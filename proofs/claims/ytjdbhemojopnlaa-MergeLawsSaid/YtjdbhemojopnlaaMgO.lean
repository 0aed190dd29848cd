/- Chapter 52: Total, Between and the reference's Sum. -/
import Derived.Test.YtjdbhemojopnlaaMgN
namespace Go.Proofs.Ytjdbhemojopnlaa
open Go.RowKit Go.Maps
def tot (f : Ent → Int) (p : Ent → Bool) : List Ent → Int
  | [] => 0
  | x :: r => (if p x then f x else 0) + tot f p r
theorem tot_snoc (f : Ent → Int) (p : Ent → Bool) (x : Ent) : ∀ r : List Ent, tot f p (r ++ [x]) = tot f p r + (if p x then f x else 0)
  | [] => by simp [tot]
  | y :: r => by simp [tot, tot_snoc f p x r, Int.add_assoc]
theorem tot_bd (f : Ent → Int) (p : Ent → Bool) : ∀ r : List Ent, (∀ x ∈ r, 0 ≤ f x ∧ f x ≤ 1099511627776) → 0 ≤ tot f p r ∧ tot f p r ≤ r.length * 1099511627776
  | [], _ => by simp [tot]
  | x :: r, h => by
    have h1 := h x (by simp)
    have h2 := tot_bd f p r (fun y hy => h y (by simp [hy]))
    unfold tot
    rw [List.length_cons]
    split <;> omega
def pB (t f u : Int) (x : Ent) : Bool := decide (x.tn = t) && (decide (f ≤ x.at_) && decide (x.at_ < u))
def pT (t : Int) (x : Ent) : Bool := decide (x.tn = t)
set_option maxRecDepth 100000 in
theorem plus_any (a b : Int) (ha : 0 ≤ a ∧ a ≤ 2305843009213693952) (hb : 0 ≤ b ∧ b ≤ 1099511627776) (w : World) :
    Calls Try.prog 29 #[.int .i64 a, .int .i64 b] w fun e w' => e = .returned (.int .i64 (a + b)) ∧ w = w' := by
  have h1 : wrap64 (4611686018427387904 - b) = 4611686018427387904 - b := by unfold wrap64; omega
  have h2 : min a (4611686018427387904 - b) = a := by omega
  have h3 : wrap64 (a + b) = a + b := by unfold wrap64; omega
  go_enter Try.func29, Try.ntmps29
  go_wp2_with fail
  go_ret
  exact ⟨rfl, rfl⟩
set_option maxRecDepth 100000 in
set_option maxHeartbeats 2000000 in
theorem total_any {v : Value} {r : List Ent} (hn : r.length ≤ 1000) (hgd : ∀ x ∈ r, x.good) (tenant : Int) (w : World) (HLS : ListsTo w v r) :
    Calls Try.prog 15 #[v, .int .i64 tenant] w fun e w' => e = .returned (.tuple #[.int .i64 (tot Ent.ht (pT tenant) r), .int .i64 (tot Ent.by_ (pT tenant) r)]) ∧ Ext w w' := by
  obtain ⟨n, hxn⟩ : ∃ n, r.length = n := ⟨_, rfl⟩
  have HN := Lib.hid hxn
  have HG := Lib.hid hgd
  have HL := Lib.hid HLS
  rw [hxn] at hn
  clear hxn hgd HLS
  go_enter Try.func15, Try.ntmps15
  go_wp2_with (go_at_call 20; refine (HL.out w (Ext.refl w)).mono ?_; rintro e w1 ⟨u, rfl, hu, hx1, -⟩; obtain ⟨A, cap, rfl, hr⟩ := hu.parts; rw [HN.out] at hr ⊢)
  go_loopw [4, 5, 11] (fun hv bv i wr => ∃ k : Nat, k ≤ n ∧ i = .int .i64 k ∧ hv = .int .i64 (tot Ent.ht (pT tenant) (r.take k)) ∧ bv = .int .i64 (tot Ent.by_ (pT tenant) (r.take k)) ∧ Ext w1 wr) (fun _ _ i _ => n - (intOf i).toNat)
  case atStart => exact ⟨0, by omega, rfl, by simp [tot], by simp [tot], Ext.refl w1⟩
  case round =>
    obtain ⟨k, hk, rfl, rfl, rfl, hX⟩ := hrel
    by_cases hlt : k < n
    · obtain ⟨g, off, rfl, hg⟩ := hr (by omega)
      obtain ⟨x, hx⟩ : ∃ x, r[k]? = some x := ⟨r[k]'(by rw [HN.out]; exact hlt), by simp⟩
      have hki : (k : Int) < (n : Int) := by omega
      have hk6 : (k : Int) < 1001 := by omega
      have hTK : r.take (k + 1) = r.take k ++ [x] := by rw [List.take_add_one, hx]; rfl
      have hxg := HG.out x (List.mem_of_getElem? hx)
      have tk : ∀ y ∈ r.take k, y.good := fun y hy => HG.out y (List.mem_of_mem_take hy)
      have bh := tot_bd Ent.ht (pT tenant) (r.take k) (fun y hy => (tk y hy).2.2.2.2.1)
      have bb := tot_bd Ent.by_ (pT tenant) (r.take k) (fun y hy => (tk y hy).2.2.2.2.2.1)
      have lk : (r.take k).length ≤ k := List.length_take_le _ _
      have s1 : tot Ent.ht (pT tenant) (r.take (k + 1)) = tot Ent.ht (pT tenant) (r.take k) + (if (pT tenant) x then x.ht else 0) := by rw [hTK, tot_snoc]
      have s2 : tot Ent.by_ (pT tenant) (r.take (k + 1)) = tot Ent.by_ (pT tenant) (r.take k) + (if (pT tenant) x then x.by_ else 0) := by rw [hTK, tot_snoc]
      obtain ⟨th, hth⟩ : ∃ z, tot Ent.ht (pT tenant) (r.take k) = z := ⟨_, rfl⟩
      obtain ⟨tb, htb⟩ : ∃ z, tot Ent.by_ (pT tenant) (r.take k) = z := ⟨_, rfl⟩
      rw [hth] at s1 bh ⊢
      rw [htb] at s2 bb ⊢
      have S1 := Lib.hid s1
      have S2 := Lib.hid s2
      have HB := Lib.hid (show (0 ≤ th ∧ th ≤ 2305843009213693952) ∧ (0 ≤ tb ∧ tb ≤ 2305843009213693952) ∧ (0 ≤ x.ht ∧ x.ht ≤ 1099511627776) ∧ (0 ≤ x.by_ ∧ x.by_ ≤ 1099511627776) from ⟨by omega, by omega, hxg.2.2.2.2.1, hxg.2.2.2.2.2.1⟩)
      obtain ⟨a0, a1, a2, a3, a4, a5, a6⟩ := cells7 (w := wr) (fun j u hj => hX.cell (hg k x hx j u hj))
      clear hg hx hr hTK hxg tk bh bb lk s1 s2 hth htb
      go_upto_region 4 with fail
      obtain ⟨wa, hwa⟩ : ∃ wa, wa = wr.alloc (.cells x.cs.toArray 41) := ⟨_, rfl⟩
      have XA : Ext wr wa := by rw [hwa]; exact (Ext.refl wr).alloc _
      have HT : Hid (RowB wa wr.heap.size 41 x.cs) := Lib.hid (by rw [hwa]; exact row_laid _ _ _)
      simp only [Ent.cs] at hwa
      rw [← hwa]
      clear hwa a0 a1 a2 a3 a4 a5 a6
      obtain ⟨t0, t1, t2, t3, t4, t5, t6⟩ := ent_cells HT.out
      cases hp : (pT tenant) x with
      | true =>
        have hp1 : x.tn = tenant := of_decide_eq_true hp
        have hp2 : (x.tn == tenant) = true := by simp [hp1]
        go_upto_region 5 with fail
        clear t0 t1 t2 t3 t4 t5 t6
        have t0 := fun n : Wd wa => (ent_cells (HT.out.ext n.ext)).1
        have t1 := fun n : Wd wa => (ent_cells (HT.out.ext n.ext)).2.1
        have t2 := fun n : Wd wa => (ent_cells (HT.out.ext n.ext)).2.2.1
        have t3 := fun n : Wd wa => (ent_cells (HT.out.ext n.ext)).2.2.2.1
        have t4 := fun n : Wd wa => (ent_cells (HT.out.ext n.ext)).2.2.2.2.1
        have t5 := fun n : Wd wa => (ent_cells (HT.out.ext n.ext)).2.2.2.2.2.1
        have t6 := fun n : Wd wa => (ent_cells (HT.out.ext n.ext)).2.2.2.2.2.2

        refine wp_region_wd (by kernel_rfl) (by kernel_rfl) ?_
        repeat (go_big_quiet_step (first
          | (go_at_call_of 29 (Value.int .i64 th); exact Calls.wd_of_same (plus_any th x.ht HB.out.1 HB.out.2.2.1 _))
          | (go_at_call 29; exact Calls.wd_of_same (plus_any tb x.by_ HB.out.2.1 HB.out.2.2.2 _))))
        refine wpQuiet_nil ?_
        rintro _ ⟨nq, rfl⟩
        go_wp2_with fail
        go_roundw
        case rel => exact ⟨k + 1, by omega, by go_num, by rw [S1.out, hp]; rfl, by rw [S2.out, hp]; rfl, (hX.trans XA).trans nq.ext⟩
        case measure => simp [intOf]; omega
      | false =>
        have hp1 : x.tn ≠ tenant := of_decide_eq_false hp
        have hp2 : (x.tn == tenant) = false := by simp [hp1]
        go_wp2_with fail
        go_roundw
        case rel => exact ⟨k + 1, by omega, by go_num, by rw [S1.out, hp]; simp, by rw [S2.out, hp]; simp, hX.trans XA⟩
        case measure => simp [intOf]; omega
    · obtain rfl : k = n := by omega
      have hall : r.take k = r := List.take_of_length_le (by have := HN.out; omega)
      rw [hall]
      go_wp2_with fail
      go_ret2
      exact ⟨rfl, hx1.trans hX⟩
set_option maxRecDepth 100000 in
set_option maxHeartbeats 2000000 in
theorem between_any {v : Value} {r : List Ent} (hn : r.length ≤ 1000) (hgd : ∀ x ∈ r, x.good) (tenant from_ to_ : Int) (w : World) (HLS : ListsTo w v r) :
    Calls Try.prog 16 #[v, .int .i64 tenant, .int .i64 from_, .int .i64 to_] w fun e w' => e = .returned (.tuple #[.int .i64 (tot Ent.ht (pB tenant from_ to_) r), .int .i64 (tot Ent.by_ (pB tenant from_ to_) r)]) ∧ Ext w w' := by
  obtain ⟨n, hxn⟩ : ∃ n, r.length = n := ⟨_, rfl⟩
  have HN := Lib.hid hxn
  have HG := Lib.hid hgd
  have HL := Lib.hid HLS
  rw [hxn] at hn
  clear hxn hgd HLS
  go_enter Try.func16, Try.ntmps16
  go_wp2_with (go_at_call 20; refine (HL.out w (Ext.refl w)).mono ?_; rintro e w1 ⟨u, rfl, hu, hx1, -⟩; obtain ⟨A, cap, rfl, hr⟩ := hu.parts; rw [HN.out] at hr ⊢)
  go_loopw [8, 9, 15] (fun hv bv i wr => ∃ k : Nat, k ≤ n ∧ i = .int .i64 k ∧ hv = .int .i64 (tot Ent.ht (pB tenant from_ to_) (r.take k)) ∧ bv = .int .i64 (tot Ent.by_ (pB tenant from_ to_) (r.take k)) ∧ Ext w1 wr) (fun _ _ i _ => n - (intOf i).toNat)
  case atStart => exact ⟨0, by omega, rfl, by simp [tot], by simp [tot], Ext.refl w1⟩
  case round =>
    obtain ⟨k, hk, rfl, rfl, rfl, hX⟩ := hrel
    by_cases hlt : k < n
    · obtain ⟨g, off, rfl, hg⟩ := hr (by omega)
      obtain ⟨x, hx⟩ : ∃ x, r[k]? = some x := ⟨r[k]'(by rw [HN.out]; exact hlt), by simp⟩
      have hki : (k : Int) < (n : Int) := by omega
      have hk6 : (k : Int) < 1001 := by omega
      have hTK : r.take (k + 1) = r.take k ++ [x] := by rw [List.take_add_one, hx]; rfl
      have hxg := HG.out x (List.mem_of_getElem? hx)
      have tk : ∀ y ∈ r.take k, y.good := fun y hy => HG.out y (List.mem_of_mem_take hy)
      have bh := tot_bd Ent.ht (pB tenant from_ to_) (r.take k) (fun y hy => (tk y hy).2.2.2.2.1)
      have bb := tot_bd Ent.by_ (pB tenant from_ to_) (r.take k) (fun y hy => (tk y hy).2.2.2.2.2.1)
      have lk : (r.take k).length ≤ k := List.length_take_le _ _
      have s1 : tot Ent.ht (pB tenant from_ to_) (r.take (k + 1)) = tot Ent.ht (pB tenant from_ to_) (r.take k) + (if (pB tenant from_ to_) x then x.ht else 0) := by rw [hTK, tot_snoc]
      have s2 : tot Ent.by_ (pB tenant from_ to_) (r.take (k + 1)) = tot Ent.by_ (pB tenant from_ to_) (r.take k) + (if (pB tenant from_ to_) x then x.by_ else 0) := by rw [hTK, tot_snoc]
      obtain ⟨th, hth⟩ : ∃ z, tot Ent.ht (pB tenant from_ to_) (r.take k) = z := ⟨_, rfl⟩
      obtain ⟨tb, htb⟩ : ∃ z, tot Ent.by_ (pB tenant from_ to_) (r.take k) = z := ⟨_, rfl⟩
      rw [hth] at s1 bh ⊢
      rw [htb] at s2 bb ⊢
      have S1 := Lib.hid s1
      have S2 := Lib.hid s2
      have HB := Lib.hid (show (0 ≤ th ∧ th ≤ 2305843009213693952) ∧ (0 ≤ tb ∧ tb ≤ 2305843009213693952) ∧ (0 ≤ x.ht ∧ x.ht ≤ 1099511627776) ∧ (0 ≤ x.by_ ∧ x.by_ ≤ 1099511627776) from ⟨by omega, by omega, hxg.2.2.2.2.1, hxg.2.2.2.2.2.1⟩)
      obtain ⟨a0, a1, a2, a3, a4, a5, a6⟩ := cells7 (w := wr) (fun j u hj => hX.cell (hg k x hx j u hj))
      clear hg hx hr hTK hxg tk bh bb lk s1 s2 hth htb
      go_upto_region 4 with fail
      obtain ⟨wa, hwa⟩ : ∃ wa, wa = wr.alloc (.cells x.cs.toArray 41) := ⟨_, rfl⟩
      have XA : Ext wr wa := by rw [hwa]; exact (Ext.refl wr).alloc _
      have HT : Hid (RowB wa wr.heap.size 41 x.cs) := Lib.hid (by rw [hwa]; exact row_laid _ _ _)
      simp only [Ent.cs] at hwa
      rw [← hwa]
      clear hwa a0 a1 a2 a3 a4 a5 a6
      obtain ⟨t0, t1, t2, t3, t4, t5, t6⟩ := ent_cells HT.out
      cases hp : (pB tenant from_ to_) x with
      | true =>
        obtain ⟨hp1, hp3, hp4⟩ : x.tn = tenant ∧ from_ ≤ x.at_ ∧ x.at_ < to_ := by simpa [pB] using hp
        have hp2 : (x.tn == tenant) = true := by simp [hp1]
        go_upto_region 5 with fail
        clear t0 t1 t2 t3 t4 t5 t6
        have t0 := fun n : Wd wa => (ent_cells (HT.out.ext n.ext)).1
        have t1 := fun n : Wd wa => (ent_cells (HT.out.ext n.ext)).2.1
        have t2 := fun n : Wd wa => (ent_cells (HT.out.ext n.ext)).2.2.1
        have t3 := fun n : Wd wa => (ent_cells (HT.out.ext n.ext)).2.2.2.1
        have t4 := fun n : Wd wa => (ent_cells (HT.out.ext n.ext)).2.2.2.2.1
        have t5 := fun n : Wd wa => (ent_cells (HT.out.ext n.ext)).2.2.2.2.2.1
        have t6 := fun n : Wd wa => (ent_cells (HT.out.ext n.ext)).2.2.2.2.2.2

        refine wp_region_wd (by kernel_rfl) (by kernel_rfl) ?_
        repeat (go_big_quiet_step (first
          | (go_at_call_of 29 (Value.int .i64 th); exact Calls.wd_of_same (plus_any th x.ht HB.out.1 HB.out.2.2.1 _))
          | (go_at_call 29; exact Calls.wd_of_same (plus_any tb x.by_ HB.out.2.1 HB.out.2.2.2 _))))
        refine wpQuiet_nil ?_
        rintro _ ⟨nq, rfl⟩
        go_wp2_with fail
        go_roundw
        case rel => exact ⟨k + 1, by omega, by go_num, by rw [S1.out, hp]; rfl, by rw [S2.out, hp]; rfl, (hX.trans XA).trans nq.ext⟩
        case measure => simp [intOf]; omega
      | false =>
        have hp0 : x.tn ≠ tenant ∨ (x.tn = tenant ∧ ¬ from_ ≤ x.at_) ∨ (x.tn = tenant ∧ from_ ≤ x.at_ ∧ ¬ x.at_ < to_) := by
          have h0 : ¬ (x.tn = tenant ∧ from_ ≤ x.at_ ∧ x.at_ < to_) := by simpa [pB] using hp
          omega
        rcases hp0 with hp1 | ⟨hp1, hp3⟩ | ⟨hp1, hp3, hp4⟩
        · have hp2 : (x.tn == tenant) = false := by simp [hp1]
          go_wp2_with fail
          go_roundw
          case rel => exact ⟨k + 1, by omega, by go_num, by rw [S1.out, hp]; simp, by rw [S2.out, hp]; simp, hX.trans XA⟩
          case measure => simp [intOf]; omega
        · have hp2 : (x.tn == tenant) = true := by simp [hp1]
          go_wp2_with fail
          go_roundw
          case rel => exact ⟨k + 1, by omega, by go_num, by rw [S1.out, hp]; simp, by rw [S2.out, hp]; simp, hX.trans XA⟩
          case measure => simp [intOf]; omega
        · have hp2 : (x.tn == tenant) = true := by simp [hp1]
          go_wp2_with fail
          go_roundw
          case rel => exact ⟨k + 1, by omega, by go_num, by rw [S1.out, hp]; simp, by rw [S2.out, hp]; simp, hX.trans XA⟩
          case measure => simp [intOf]; omega
    · obtain rfl : k = n := by omega
      have hall : r.take k = r := List.take_of_length_le (by have := HN.out; omega)
      rw [hall]
      go_wp2_with fail
      go_ret2
      exact ⟨rfl, hx1.trans hX⟩
set_option maxRecDepth 100000 in
set_option maxHeartbeats 2000000 in
theorem sum_any {w : World} {v : Value} {r : List Ent} (h : EnsAt w v r) (hn : r.length ≤ 1000) (hgd : ∀ x ∈ r, x.good) (tenant from_ to_ : Int) :
    Calls Try.prog 17 #[v, .int .i64 tenant, .int .i64 from_, .int .i64 to_] w fun e w' => e = .returned (.tuple #[.int .i64 (tot Ent.ht (pB tenant from_ to_) r), .int .i64 (tot Ent.by_ (pB tenant from_ to_) r)]) ∧ Ext w w' := by
  obtain ⟨A, cap, rfl, hr⟩ := h.parts
  clear h
  obtain ⟨n, hxn⟩ : ∃ n, r.length = n := ⟨_, rfl⟩
  have HN := Lib.hid hxn
  have HG := Lib.hid hgd
  rw [hxn] at hn hr ⊢
  clear hxn hgd
  go_enter Try.func17, Try.ntmps17
  go_wp2_with fail
  go_loopw [10, 11, 15] (fun hv bv i wr => ∃ k : Nat, k ≤ n ∧ i = .int .i64 k ∧ hv = .int .i64 (tot Ent.ht (pB tenant from_ to_) (r.take k)) ∧ bv = .int .i64 (tot Ent.by_ (pB tenant from_ to_) (r.take k)) ∧ Ext w wr) (fun _ _ i _ => n - (intOf i).toNat)
  case atStart => exact ⟨0, by omega, rfl, by simp [tot], by simp [tot], Ext.refl w⟩
  case round =>
    obtain ⟨k, hk, rfl, rfl, rfl, hX⟩ := hrel
    by_cases hlt : k < n
    · obtain ⟨g, off, rfl, hg⟩ := hr (by omega)
      obtain ⟨x, hx⟩ : ∃ x, r[k]? = some x := ⟨r[k]'(by rw [HN.out]; exact hlt), by simp⟩
      have hki : (k : Int) < (n : Int) := by omega
      have hk6 : (k : Int) < 1001 := by omega
      have hTK : r.take (k + 1) = r.take k ++ [x] := by rw [List.take_add_one, hx]; rfl
      have hxg := HG.out x (List.mem_of_getElem? hx)
      have tk : ∀ y ∈ r.take k, y.good := fun y hy => HG.out y (List.mem_of_mem_take hy)
      have bh := tot_bd Ent.ht (pB tenant from_ to_) (r.take k) (fun y hy => (tk y hy).2.2.2.2.1)
      have bb := tot_bd Ent.by_ (pB tenant from_ to_) (r.take k) (fun y hy => (tk y hy).2.2.2.2.2.1)
      have lk : (r.take k).length ≤ k := List.length_take_le _ _
      have s1 : tot Ent.ht (pB tenant from_ to_) (r.take (k + 1)) = tot Ent.ht (pB tenant from_ to_) (r.take k) + (if (pB tenant from_ to_) x then x.ht else 0) := by rw [hTK, tot_snoc]
      have s2 : tot Ent.by_ (pB tenant from_ to_) (r.take (k + 1)) = tot Ent.by_ (pB tenant from_ to_) (r.take k) + (if (pB tenant from_ to_) x then x.by_ else 0) := by rw [hTK, tot_snoc]
      obtain ⟨th, hth⟩ : ∃ z, tot Ent.ht (pB tenant from_ to_) (r.take k) = z := ⟨_, rfl⟩
      obtain ⟨tb, htb⟩ : ∃ z, tot Ent.by_ (pB tenant from_ to_) (r.take k) = z := ⟨_, rfl⟩
      rw [hth] at s1 bh ⊢
      rw [htb] at s2 bb ⊢
      have S1 := Lib.hid s1
      have S2 := Lib.hid s2
      have HB := Lib.hid (show (0 ≤ th ∧ th ≤ 2305843009213693952) ∧ (0 ≤ tb ∧ tb ≤ 2305843009213693952) ∧ (0 ≤ x.ht ∧ x.ht ≤ 1099511627776) ∧ (0 ≤ x.by_ ∧ x.by_ ≤ 1099511627776) from ⟨by omega, by omega, hxg.2.2.2.2.1, hxg.2.2.2.2.2.1⟩)
      obtain ⟨a0, a1, a2, a3, a4, a5, a6⟩ := cells7 (w := wr) (fun j u hj => hX.cell (hg k x hx j u hj))
      clear hg hx hr hTK hxg tk bh bb lk s1 s2 hth htb
      obtain ⟨⟨b1, b2⟩, ⟨b3, b4⟩, ⟨b5, b6⟩, ⟨b7, b8⟩⟩ := HB.out
      have w1 : wrap64 (th + x.ht) = th + x.ht := by unfold wrap64; omega
      have w2 : min (th + x.ht) 4611686018427387904 = th + x.ht := by omega
      have w3 : wrap64 (tb + x.by_) = tb + x.by_ := by unfold wrap64; omega
      have w4 : min (tb + x.by_) 4611686018427387904 = tb + x.by_ := by omega
      clear b1 b2 b3 b4 b5 b6 b7 b8
      cases hp : (pB tenant from_ to_) x with
      | true =>
        obtain ⟨hp1, hp3, hp4⟩ : x.tn = tenant ∧ from_ ≤ x.at_ ∧ x.at_ < to_ := by simpa [pB] using hp
        have hp2 : (x.tn == tenant) = true := by simp [hp1]
        go_wp2_with fail
        go_roundw
        case rel => exact ⟨k + 1, by omega, by go_num, by rw [S1.out, hp]; rfl, by rw [S2.out, hp]; rfl, hX⟩
        case measure => simp [intOf]; omega
      | false =>
        have hp0 : x.tn ≠ tenant ∨ (x.tn = tenant ∧ ¬ from_ ≤ x.at_) ∨ (x.tn = tenant ∧ from_ ≤ x.at_ ∧ ¬ x.at_ < to_) := by
          have h0 : ¬ (x.tn = tenant ∧ from_ ≤ x.at_ ∧ x.at_ < to_) := by simpa [pB] using hp
          omega
        rcases hp0 with hp1 | ⟨hp1, hp3⟩ | ⟨hp1, hp3, hp4⟩
        · have hp2 : (x.tn == tenant) = false := by simp [hp1]
          go_wp2_with fail
          go_roundw
          case rel => exact ⟨k + 1, by omega, by go_num, by rw [S1.out, hp]; simp, by rw [S2.out, hp]; simp, hX⟩
          case measure => simp [intOf]; omega
        · have hp2 : (x.tn == tenant) = true := by simp [hp1]
          go_wp2_with fail
          go_roundw
          case rel => exact ⟨k + 1, by omega, by go_num, by rw [S1.out, hp]; simp, by rw [S2.out, hp]; simp, hX⟩
          case measure => simp [intOf]; omega
        · have hp2 : (x.tn == tenant) = true := by simp [hp1]
          go_wp2_with fail
          go_roundw
          case rel => exact ⟨k + 1, by omega, by go_num, by rw [S1.out, hp]; simp, by rw [S2.out, hp]; simp, hX⟩
          case measure => simp [intOf]; omega
    · obtain rfl : k = n := by omega
      have hall : r.take k = r := List.take_of_length_le (by have := HN.out; omega)
      rw [hall]
      go_wp2_with fail
      go_ret2
      exact ⟨rfl, hX⟩
end Go.Proofs.Ytjdbhemojopnlaa
