/- Chapter 20: what holds between the acts of Play. -/
import Derived.Test.YtfjpaacanoocmaaPf3
import Derived.Test.YtfjpaacanoocmaaPf4
import Derived.Test.YtfjpaacanoocmaaPe2
import Derived.Test.YtfjpaacanoocmaaPe3
import Derived.Test.YtfjpaacanoocmaaPe4
import Derived.Test.YtfjpaacanoocmaaPd9
import Derived.Test.YtfjpaacanoocmaaPcQ
namespace Go.Proofs.Ytfjpaacanoocmaa
open Go.RowKit Go.Deep Go.Sort

/-- the reference's body in a variable -/
abbrev refC (tag : ByteArray) (len d t : Nat) : List Value := [.string tag, .int .i64 len, .slice (some ⟨d, 0, none⟩) (npc len) (npc len), .slice (some ⟨t, 0, none⟩) (npc len) (npc len)]
structure PSt (w : World) (B b l mb len d t : Nat) (tag : ByteArray) (D : Nat → Option ByteArray) (G : Nat → Prop) : Prop where
  body : BodyAt w B (fun q => q = mb ∨ q = d ∨ q = t ∨ G q) b l tag len D
  ref : RefAt w d t len D
  row : RowB w mb 29 (refC tag len d t)
  ok : PcOk len D
  ne : d ≠ mb ∧ t ≠ mb
section
variable {w w' w1 w2 : World} {B b l mb len d t d' t' g : Nat} {tag : ByteArray} {D D' : Nat → Option ByteArray} {G : Nat → Prop}
theorem PSt.ext (h : PSt w B b l mb len d t tag D G) (hx : Ext w w') : PSt w' B b l mb len d t tag D G := ⟨h.body.ext hx, h.ref.ext hx, h.row.ext hx, h.ok, h.ne⟩
theorem PSt.lt (h : PSt w B b l mb len d t tag D G) : mb < w.heap.size ∧ d < w.heap.size ∧ t < w.heap.size := ⟨h.row.lt, h.ref.data.lt, h.ref.there.lt⟩
theorem PSt.forget (h : PSt w B b l mb len d t tag D G) : PSt w B b l mb len d t tag D (fun _ => False) :=
  ⟨h.body.avoid _ fun k hk => .inr (.inr (by rcases hk with e | e | e | e <;> simp_all)), h.ref, h.row, h.ok, h.ne⟩
theorem PSt.more (h : PSt w B b l mb len d t tag D (fun _ => False)) (hg : w.heap.size ≤ g) : PSt w B b l mb len d t tag D (fun q => q = g) :=
  ⟨h.body.avoid _ fun k hk => by
    rcases hk with e | e | e | e
    · exact .inr (.inr (.inl e))
    · exact .inr (.inr (.inr (.inl e)))
    · exact .inr (.inr (.inr (.inr (.inl e))))
    · exact .inl (by omega), h.ref, h.row, h.ok, h.ne⟩
theorem RefAt.kept {m : Nat} (h : RefAt w d t len D) (hk : Kept m w w') (h1 : d ≠ m) (h2 : t ≠ m) : RefAt w' d t len D := h.of_blocks (hk.2 d h.data.lt h1) (hk.2 t h.there.lt h2)
/-- block g is written -/
theorem PSt.wrote (h : PSt w B b l mb len d t tag D (fun q => q = g)) (hk : Kept g w w') (h1 : d ≠ g) (h2 : t ≠ g) (h3 : mb ≠ g) : PSt w' B b l mb len d t tag D (fun q => q = g) :=
  ⟨h.body.kept hk (.inr (.inr (.inr rfl))), h.ref.kept hk h1 h2, h.row.kept (hk.2 mb h.row.lt h3), h.ok, h.ne⟩
/-- the program's body has been changed, the reference not yet -/
theorem PSt.half (h : PSt w B b l mb len d t tag D G) (hk : Kept l w w') : RefAt w' d t len D ∧ RowB w' mb 29 (refC tag len d t) := by
  have h1 : d ≠ l := fun e => h.body.av.2 (.inr (.inl e.symm))
  have h2 : t ≠ l := fun e => h.body.av.2 (.inr (.inr (.inl e.symm)))
  have h3 : mb ≠ l := fun e => h.body.av.2 (.inl e.symm)
  exact ⟨h.ref.kept hk h1 h2, h.row.kept (hk.2 mb h.row.lt h3)⟩
/-- the four cells of the variable -/
def mSt (w : World) (mb : Nat) (tag : ByteArray) (len d t : Nat) : World := (((w.setCell ⟨mb, 0, none⟩ (.string tag)).setCell ⟨mb, 1, none⟩ (.int .i64 len)).setCell ⟨mb, 2, none⟩ (.slice (some ⟨d, 0, none⟩) (npc len) (npc len))).setCell ⟨mb, 3, none⟩ (.slice (some ⟨t, 0, none⟩) (npc len) (npc len))
theorem mSt_kept (w : World) (mb : Nat) (tag : ByteArray) (len d t : Nat) : Kept mb w (mSt w mb tag len d t) := ((((Kept.refl mb w).set _ _).set _ _).set _ _).set _ _
theorem mSt_ext {w0 : World} (h : Ext w0 w) (hm : w0.heap.size ≤ mb) : Ext w0 (mSt w mb tag len d t) := (((h.setCell hm _).setCell hm _).setCell hm _).setCell hm _
theorem PSt.step (hb : BodyAt w1 B (fun q => q = mb ∨ q = d ∨ q = t ∨ G q) b l tag len D') (hx : Ext w1 w2) (hrow : RowB w1 mb 29 (refC tag len d t)) (hd : w1.heap.size ≤ d' ∧ w1.heap.size ≤ t') (hr : RefAt w2 d' t' len D') (hok : PcOk len D') :
    PSt (mSt w2 mb tag len d' t') B b l mb len d' t' tag D' G := by
  have hm := hrow.lt
  have n1 : d' ≠ mb := by omega
  have n2 : t' ≠ mb := by omega
  refine ⟨?_, hr.kept (mSt_kept _ _ _ _ _ _) n1 n2, ?_, hok, ⟨n1, n2⟩⟩
  · have h1 : BodyAt w1 B (fun q => q = mb ∨ q = d' ∨ q = t' ∨ G q) b l tag len D' := hb.avoid _ fun k hk => by
      rcases hk with e | e | e | e
      · exact .inr (.inr (.inl e))
      · exact .inl (by omega)
      · exact .inl (by omega)
      · exact .inr (.inr (.inr (.inr (.inr e))))
    exact (h1.ext hx).kept (mSt_kept _ _ _ _ _ _) (.inl rfl)
  · exact ((((hrow.ext hx).set 0 (.string tag) (by simp)).set 1 (.int .i64 len) (by simp)).set 2 (.slice (some ⟨d', 0, none⟩) (npc len) (npc len)) (by simp)).set 3 (.slice (some ⟨t', 0, none⟩) (npc len) (npc len)) (by simp)
theorem PSt.congr (h : PSt w B b l mb len d t tag D G) (he : ∀ j, j < npc len → D j = D' j) : PSt w B b l mb len d t tag D' G :=
  ⟨h.body.congr he, h.ref.congr he, h.row, fun i hi s hs => h.ok i hi s (by rw [he i hi]; exact hs), h.ne⟩
end
theorem PcOk.upd {len i : Nat} {D : Nat → Option ByteArray} (h : PcOk len D) (o : Option ByteArray) (ho : ∀ s, o = some s → s.size = pto i len - i * 256) : PcOk len (upd D i o) := by
  intro j hj s hs
  unfold Go.Proofs.Ytfjpaacanoocmaa.upd at hs
  by_cases e : j = i
  · rw [if_pos e] at hs; rw [e]; exact ho s hs
  · rw [if_neg e] at hs; exact h j hj s hs

/-- the acts, as they lie -/
def okZ (z : Int) : Prop := -9223372036854775808 ≤ z ∧ z ≤ 9223372036854775807
structure Acts (w : World) (p : Option Addr) (n cap : Nat) (K O : Nat → Nat) (I N M : Nat → Int) : Prop where
  le : n ≤ cap
  lim : (cap : Int) ≤ 9223372036854775807
  cell : ∀ i, i < n → ∃ a, p = some a ∧ w.cell? (a.add (i * 5)) = some (.int .u8 (K i)) ∧ w.cell? ⟨(a.add (i * 5)).block, (a.add (i * 5)).off + 1, none⟩ = some (.int .u8 (O i)) ∧
    w.cell? ⟨(a.add (i * 5)).block, (a.add (i * 5)).off + 2, none⟩ = some (.int .i64 (I i)) ∧ w.cell? ⟨(a.add (i * 5)).block, (a.add (i * 5)).off + 3, none⟩ = some (.int .i64 (N i)) ∧ w.cell? ⟨(a.add (i * 5)).block, (a.add (i * 5)).off + 4, none⟩ = some (.int .i64 (M i))
  ok : ∀ i, i < n → K i < 256 ∧ O i < 256 ∧ okZ (I i) ∧ okZ (N i) ∧ okZ (M i)
theorem Acts.ext {w w' : World} {p : Option Addr} {n cap : Nat} {K O : Nat → Nat} {I N M : Nat → Int} (h : Acts w p n cap K O I N M) (he : Ext w w') : Acts w' p n cap K O I N M :=
  ⟨h.le, h.lim, fun i hi => by
    obtain ⟨a, ha, h1, h2, h3, h4, h5⟩ := h.cell i hi
    exact ⟨a, ha, he.cell h1, he.cell h2, he.cell h3, he.cell h4, he.cell h5⟩, h.ok⟩
/-- a piece that there is not: no bytes -/
theorem piece_out (t : ByteArray) (i : Int) (hl : t.size ≤ 65536) (hi : i < 0 ∨ (t.size : Int) ≤ i * 256) (h1 : i ≤ 9223372036854775807) (w : World) :
    Calls Try.prog 14 #[.string t, .int .i64 i] w fun e w' => e = .returned (.string ⟨#[]⟩) ∧ Ext w w' := by
  have HP := Lib.hid (fun W => piece9_bad i t.size hl hi h1 W)
  clear hi
  go_enter Try.func14, Try.ntmps14
  go_wp2_with (go_at_call 37; refine (HP.out _).mono ?_; rintro e w' ⟨rfl, hx⟩)
  go_ret
  exact ⟨rfl, hx.alloc _⟩
end Go.Proofs.Ytfjpaacanoocmaa
