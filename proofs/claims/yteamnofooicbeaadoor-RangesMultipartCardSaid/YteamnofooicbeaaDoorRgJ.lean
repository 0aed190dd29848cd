/- Chapter 09: the elements of a list. -/
import Derived.Test.YteamnofooicbeaaDoorRgI
namespace Go.Proofs.YteamnofooicbeaaDoor
open Go.RowKit
def neS (x : ByteArray) : Bool := decide (x.size ≠ 0)
def listF (s : ByteArray) : Option (List ByteArray) := (partsF s).map (·.filter neS)
theorem StrsAt.parts {w : World} {v : Value} {xs : List ByteArray} (h : StrsAt w v xs) : ∃ A cap, v = .slice A xs.length cap ∧ (0 < xs.length → ∃ g, A = some ⟨g, 0, none⟩ ∧ ∀ i x, xs[i]? = some x → w.cell? ⟨g, i, none⟩ = some (.string x)) := by
  rcases h with ⟨rfl, rfl⟩ | ⟨g, cap, hv, hc⟩
  · exact ⟨none, 0, rfl, fun h => absurd h (by simp)⟩
  · refine ⟨_, cap, hv, fun _ => ⟨g, rfl, fun i x hx => ?_⟩⟩
    have := hc i x hx 0 (.string x) rfl
    rwa [Nat.mul_one, Nat.add_zero] at this
theorem filter_snoc {l : List ByteArray} {k : Nat} {x : ByteArray} (h : l[k]? = some x) : (l.take (k + 1)).filter neS = (l.take k).filter neS ++ if x.size = 0 then [] else [x] := by
  rw [List.take_add_one, h]
  simp only [Option.toList_some, List.filter_append]
  congr 1
  by_cases hx : x.size = 0
  · have e : neS x = false := decide_eq_false (fun h => h hx)
    rw [if_pos hx]
    simp [e]
  · have e : neS x = true := decide_eq_true hx
    rw [if_neg hx]
    simp [e]
theorem scn_len (s : ByteArray) : ∀ (n i fr : Nat) (q : Bool), s.size ≤ i + n → ∀ l, scn s i fr q = some l → l.length ≤ n + 1
  | 0, i, fr, q, h, l, e => by
    rw [scn_end (by omega)] at e
    split at e
    · cases e
    · cases e; simp
  | n + 1, i, fr, q, h, l, e => by
    rw [scn] at e
    split at e
    · split at e
      · have := scn_len s n (i + 2) fr q (by omega) l e; omega
      · split at e
        · have := scn_len s n (i + 1) fr (!q) (by omega) l e; omega
        · split at e
          · cases e2 : scn s (i + 1) (i + 1) false with
            | none => rw [e2] at e; cases e
            | some m =>
              rw [e2] at e
              cases e
              have := scn_len s n (i + 1) (i + 1) false (by omega) m e2
              simp only [List.length_cons]
              omega
          · have := scn_len s n (i + 1) fr q (by omega) l e; omega
    · split at e
      · cases e
      · cases e; simp
theorem parts_len {s : ByteArray} {l : List ByteArray} (h : partsF s = some l) : l.length ≤ s.size + 1 := by
  unfold partsF at h
  split at h
  · exact scn_len s s.size 0 0 false (by omega) l h
  · cases h
set_option maxRecDepth 100000 in
set_option maxHeartbeats 2000000 in
theorem list_any (s : ByteArray) (hs : s.size ≤ 100000) (w : World) :
    Calls Tryd.prog 42 #[.string s] w fun e w' => (∃ v ev, e = .returned (.tuple #[v, ev]) ∧ ((∃ l, listF s = some l ∧ ev = .nilIface ∧ StrsAt w' v l) ∨ (listF s = none ∧ ev = errV 2 ∧ v = .slice none 0 0))) ∧ Ext w w' := by
  have HPA := Lib.hid (parts_any s hs w)
  go_enter Tryd.func42, Tryd.ntmps42
  go_upto_region 2 with (go_at_call 72; refine HPA.out.mono ?_; rintro e w1 ⟨⟨v1, ev, rfl, hc⟩, hx1⟩)
  rcases hc with ⟨l, hp, rfl, hl⟩ | ⟨hp, rfl, rfl⟩
  · have HLF : Hid (listF s = some (l.filter neS)) := Lib.hid (by unfold listF; rw [hp]; rfl)
    have hn := parts_len hp
    obtain ⟨A, cap, rfl, hr⟩ := hl.parts
    obtain ⟨n, hxn⟩ : ∃ n, l.length = n := ⟨_, rfl⟩
    have HN := Lib.hid hxn
    rw [hxn] at hr hn ⊢
    obtain ⟨B, hB⟩ : ∃ B, w1.heap.size = B := ⟨_, rfl⟩
    have HB := Lib.hid hB
    have HX1 := Lib.hid hx1
    clear hp hl hxn hB hx1
    go_wp2_with fail
    go_loopw [6, 19] (fun ov i wr => ∃ k : Nat, k ≤ n ∧ i = .int .i64 k ∧ Hid (StrOwn wr B ov ((l.take k).filter neS) ∧ Ext w1 wr)) (fun _ i _ => n - (intOf i).toNat)
    case atStart => exact ⟨0, by omega, rfl, Lib.hid ⟨StrOwn.nil _ _, Ext.refl _⟩⟩
    case round =>
      obtain ⟨k, hk, rfl, HR⟩ := hrel
      by_cases hlt : k < n
      · obtain ⟨g, rfl, hg⟩ := hr (by omega)
        obtain ⟨x, hx⟩ : ∃ x, l[k]? = some x := ⟨l[k]'(by rw [HN.out]; exact hlt), by simp⟩
        have hki : (k : Int) < (n : Int) := by omega
        have hk6 : (k : Int) < 200001 := by omega
        have a0 := HR.out.2.cell (hg k x hx)
        have HFS := Lib.hid (filter_snoc hx)
        have hlen : ((l.take k).filter neS).length ≤ 200000 := by have := List.length_filter_le neS (l.take k); rw [List.length_take] at this; omega
        have hsz : B ≤ wr.heap.size := by have := HB.out; have := HR.out.2.size; omega
        clear hx hg hr
        rcases Nat.eq_zero_or_pos x.size with h0 | h0
        · have he := empty_yes h0
          have H0 := Lib.hid h0
          clear h0
          go_wp2_with fail
          go_roundw
          case rel => exact ⟨k + 1, by omega, by go_num, Lib.hid ⟨by rw [HFS.out, if_pos H0.out, List.append_nil]; exact HR.out.1, HR.out.2⟩⟩
          case measure => simp [intOf]; omega
        · have he := empty_no h0
          have H0 := Lib.hid h0
          clear h0
          go_wp2_with (at_builtin; refine wpList_append_str _ rfl _ _ rfl B x HR.out.1 rfl rfl rfl hlen hsz ?_; intro v' w9 hO9 hB9 hK9)
          go_roundw
          case rel => exact ⟨k + 1, by omega, by go_num, Lib.hid ⟨by rw [HFS.out, if_neg (by have := H0.out; omega)]; exact hO9, Below.trans HR.out.2.below (Below.mono hB9 (by have := HB.out; omega))⟩⟩
          case measure => simp [intOf]; omega
      · obtain rfl : k = n := by omega
        have HLA : Hid ((l.take k).filter neS = l.filter neS) := Lib.hid (by rw [List.take_of_length_le (by have := HN.out; omega)])
        go_wp2_with fail
        go_ret2
        exact ⟨⟨_, _, rfl, .inl ⟨_, HLF.out, rfl, by rw [← HLA.out]; exact HR.out.1.at⟩⟩, HX1.out.trans HR.out.2⟩
  · have HLF : Hid (listF s = none) := Lib.hid (by unfold listF; rw [hp]; rfl)
    clear hp
    go_wp2_with fail
    go_ret2
    exact ⟨⟨_, _, rfl, .inr ⟨HLF.out, rfl, rfl⟩⟩, hx1⟩
set_option maxRecDepth 100000 in
set_option maxHeartbeats 2000000 in
theorem rlist_any (s : ByteArray) (hs : s.size ≤ 100000) (w : World) :
    Calls Tryd.prog 44 #[.string s] w fun e w' => (∃ v ok, e = .returned (.tuple #[v, .bool ok]) ∧ Hid ((∃ l, listF s = some l ∧ ok = true ∧ StrsAt w' v l) ∨ (listF s = none ∧ ok = false))) ∧ Ext w w' := by
  have HPA : Hid (Calls Tryd.prog 73 #[.string s, .int .u8 44] w fun e w' => (∃ v ok l, e = .returned (.tuple #[v, .bool ok]) ∧ StrsAt w' v l ∧ l.length ≤ s.size + 1 ∧ Hid ((partsF s = some l ∧ ok = true) ∨ (partsF s = none ∧ ok = false))) ∧ Ext w w') := Lib.hid ((rparts_any s hs w).mono (by
    rintro e w' ⟨⟨v, ok, rfl, hc⟩, hx⟩
    rcases hc with ⟨l, h1, h2, h3⟩ | ⟨h1, h2, rfl⟩
    · exact ⟨⟨v, ok, l, rfl, h3, parts_len h1, Lib.hid (.inl ⟨h1, h2⟩)⟩, hx⟩
    · exact ⟨⟨_, ok, [], rfl, .inl ⟨rfl, rfl⟩, by simp, Lib.hid (.inr ⟨h1, h2⟩)⟩, hx⟩))
  go_enter Tryd.func44, Tryd.ntmps44
  go_upto_region 2 with (go_at_call 73; refine HPA.out.mono ?_; rintro e w1 ⟨⟨v1, ok, l, rfl, hl, hn, HC⟩, hx1⟩)
  have HLF : Hid ((listF s = some (l.filter neS) ∧ ok = true) ∨ (listF s = none ∧ ok = false)) := Lib.hid (by
    unfold listF
    rcases HC.out with ⟨h1, h2⟩ | ⟨h1, h2⟩
    · rw [h1]; exact .inl ⟨rfl, h2⟩
    · rw [h1]; exact .inr ⟨rfl, h2⟩)
  obtain ⟨A, cap, rfl, hr⟩ := hl.parts
  obtain ⟨n, hxn⟩ : ∃ n, l.length = n := ⟨_, rfl⟩
  have HN := Lib.hid hxn
  rw [hxn] at hr hn ⊢
  obtain ⟨B, hB⟩ : ∃ B, w1.heap.size = B := ⟨_, rfl⟩
  have HB := Lib.hid hB
  have HX1 := Lib.hid hx1
  clear hl hxn hB hx1 HC
  go_wp2_with fail
  go_loopw [6, 15] (fun ov i wr => ∃ k : Nat, k ≤ n ∧ i = .int .i64 k ∧ Hid (StrOwn wr B ov ((l.take k).filter neS) ∧ Ext w1 wr)) (fun _ i _ => n - (intOf i).toNat)
  case atStart => exact ⟨0, by omega, rfl, Lib.hid ⟨StrOwn.nil _ _, Ext.refl _⟩⟩
  case round =>
    obtain ⟨k, hk, rfl, HR⟩ := hrel
    by_cases hlt : k < n
    · obtain ⟨g, rfl, hg⟩ := hr (by omega)
      obtain ⟨x, hx⟩ : ∃ x, l[k]? = some x := ⟨l[k]'(by rw [HN.out]; exact hlt), by simp⟩
      have hki : (k : Int) < (n : Int) := by omega
      have hk6 : (k : Int) < 200001 := by omega
      have a0 := HR.out.2.cell (hg k x hx)
      have HFS := Lib.hid (filter_snoc hx)
      have hlen : ((l.take k).filter neS).length ≤ 200000 := by have := List.length_filter_le neS (l.take k); rw [List.length_take] at this; omega
      have hsz : B ≤ wr.heap.size := by have := HB.out; have := HR.out.2.size; omega
      clear hx hg hr
      rcases Nat.eq_zero_or_pos x.size with h0 | h0
      · have he := empty_yes h0
        have H0 := Lib.hid h0
        clear h0
        go_wp2_with fail
        go_roundw
        case rel => exact ⟨k + 1, by omega, by go_num, Lib.hid ⟨by rw [HFS.out, if_pos H0.out, List.append_nil]; exact HR.out.1, HR.out.2⟩⟩
        case measure => simp [intOf]; omega
      · have he := empty_no h0
        have H0 := Lib.hid h0
        clear h0
        go_wp2_with (at_builtin; refine wpList_append_str _ rfl _ _ rfl B x HR.out.1 rfl rfl rfl hlen hsz ?_; intro v' w9 hO9 hB9 hK9)
        go_roundw
        case rel => exact ⟨k + 1, by omega, by go_num, Lib.hid ⟨by rw [HFS.out, if_neg (by have := H0.out; omega)]; exact hO9, Below.trans HR.out.2.below (Below.mono hB9 (by have := HB.out; omega))⟩⟩
        case measure => simp [intOf]; omega
    · obtain rfl : k = n := by omega
      have HLA : Hid ((l.take k).filter neS = l.filter neS) := Lib.hid (by rw [List.take_of_length_le (by have := HN.out; omega)])
      go_wp2_with fail
      go_ret2
      refine ⟨⟨_, _, rfl, Lib.hid ?_⟩, HX1.out.trans HR.out.2⟩
      rcases HLF.out with ⟨h1, h2⟩ | ⟨h1, h2⟩
      · exact .inl ⟨_, h1, h2, by rw [← HLA.out]; exact HR.out.1.at⟩
      · exact .inr ⟨h1, h2⟩
end Go.Proofs.YteamnofooicbeaaDoor
