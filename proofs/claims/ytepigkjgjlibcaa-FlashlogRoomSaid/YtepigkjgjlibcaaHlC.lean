/- Chapter 23: a log beside a map: the calls, one by one. -/
import Derived.Test.YtepigkjgjlibcaaHlB
import Derived.Test.YtepigkjgjlibcaaGAA
namespace Go.Proofs.Ytepigkjgjlibcaa
open Go.RowKit Go.Deep Go.Proofs.Ytepigkjgjlibcaa.FL
set_option maxRecDepth 100000
structure Act4 where
  kind : Nat
  key : Nat
  fill : Nat
  many : Nat
def Act4.ok (a : Act4) : Prop := a.kind < 256 ∧ a.key < 256 ∧ a.fill < 256 ∧ a.many < 65536
def actCells (w : World) (g i : Nat) (a : Act4) : Prop := w.cell? ⟨g, i, none⟩ = some (.int .u8 a.kind) ∧ w.cell? ⟨g, i + 1, none⟩ = some (.int .u8 a.key) ∧ w.cell? ⟨g, i + 2, none⟩ = some (.int .u8 a.fill) ∧ w.cell? ⟨g, i + 3, none⟩ = some (.int .u16 a.many)
/-- a list of acts that comes in -/
def ActsIn (w : World) (v : Value) (acts : List Act4) : Prop := ∃ A cap, v = .slice A acts.length cap ∧ (0 < acts.length → ∃ g o, A = some ⟨g, o, none⟩ ∧ ∀ (i : Nat) (a : Act4), acts[i]? = some a → a.ok ∧ actCells w g (o + i * 4) a)
/-- a log on a device and a map, above a world -/
structure LM (W wr : World) (d l np n mb : Nat) (lst : List (ByteArray × Value)) (L : Log) : Prop where
  ext : Ext W wr
  log : ∃ S, LogOn wr S l d L ∧ (∀ x, S x → W.heap.size ≤ x) ∧ ¬ S mb
  map : MsAt wr mb lst
  mb0 : W.heap.size ≤ mb
  inv : MInv L n np
theorem LM.step {W wr w' : World} {d l np n m mb : Nat} {lst : List (ByteArray × Value)} {L L' : Log} {S : Nat → Prop} (h : LM W wr d l np n mb lst L) (hS : ∀ x, S x → W.heap.size ≤ x) (hmb : ¬ S mb) (hs : LogStep wr w' S l d L') (hi : MInv L' m np) : LM W w' d l np m mb lst L' := by
  obtain ⟨S', h1, h2, h3⟩ := hs
  exact ⟨ext_step h.ext hS h2, ⟨S', h1, from_step h.ext hS h3, fun h9 => (h3 mb h9).elim hmb (fun h8 => by have := h.map.lt; omega)⟩, h.map.mod h2 hmb, h.mb0, hi⟩
theorem LM.grow {W wr w' : World} {d l np n mb : Nat} {lst : List (ByteArray × Value)} {L : Log} (h : LM W wr d l np n mb lst L) (hx : Ext wr w') : LM W w' d l np n mb lst L := by
  obtain ⟨S, h1, h2, h3⟩ := h.log
  exact ⟨h.ext.trans hx, ⟨S, h1.ext hx, h2, h3⟩, h.map.ext hx, h.mb0, h.inv⟩
theorem LM.remap {W wr w' : World} {d l np n mb : Nat} {lst lst' : List (ByteArray × Value)} {L : Log} (h : LM W wr d l np n mb lst L) (hg : wr.grownBy w' (some mb)) (hm : MsAt w' mb lst') : LM W w' d l np n mb lst' L := by
  obtain ⟨S, h1, h2, h3⟩ := h.log
  have hmod : Mod (fun x => x = mb) wr w' := ⟨hg.os, hg.tape, hg.output, hg.size, fun k hk hn => hg.block k hk (fun e => hn (by cases e; rfl))⟩
  refine ⟨ext_step h.ext (S := fun x => x = mb) (fun x hx => by rw [show x = mb from hx]; exact h.mb0) hmod, ⟨S, h1.mod hmod (fun g C fr hg9 h9 => ?_) (fun x hx h9 => h3 (by rw [← show x = mb from h9]; exact hx)), h2, h3⟩, hm, h.mb0, h.inv⟩
  obtain ⟨es, n, hb, -⟩ := h.map
  rw [show g = mb from h9, hb] at hg9
  cases hg9
theorem LM.mono {W wr : World} {d l np n m mb : Nat} {lst : List (ByteArray × Value)} {L : Log} (h : LM W wr d l np n mb lst L) (hnm : n ≤ m) : LM W wr d l np m mb lst L := ⟨h.ext, h.log, h.map, h.mb0, h.inv.mono hnm⟩
section
variable {W wr : World} {d l np n mb : Nat} {lst : List (ByteArray × Value)} {L : Log} (h : LM W wr d l np n mb lst L) (hn : n ≤ 500)
include h
omit h in
theorem minv_put {L : Log} {n np : Nat} (h : MInv L n np) (k v : Bs) : MInv (putF L k v).2 (n + 1) np := by
  rcases hp : putF L k v with ⟨c, L'⟩
  rcases h.put hp with ⟨-, h1, -⟩ | ⟨-, h1⟩
  · exact h1
  · simp only; rw [h1]; exact h.mono (Nat.le_succ n)
include hn in
omit h in
theorem minv_delete {L : Log} {np : Nat} (h : MInv L n np) (k : Bs) : MInv (deleteF L k).2 (n + 1) np := by
  rcases hp : deleteF L k with ⟨c, L'⟩
  rcases h.delete (by omega) hp with ⟨-, -, h1⟩ | ⟨v, -, -, h1, -⟩
  · simp only; rw [h1]; exact h.mono (Nat.le_succ n)
  · exact h1
include hn in
theorem LM.put {key value : Bs} (hkl : key.length ≤ 100000) (hvl : value.length ≤ 100000) {v : Value} (hv : BS wr v value) : Calls Try.prog 16 #[.pointer (some ⟨l, 0, none⟩), .string (st key), v] wr fun e w' => e = .returned (codeV (putF L key value).1) ∧ LM W w' d l np (n + 1) mb lst (putF L key value).2 ∧ ∀ u x, BS wr u x → BS w' u x := by
  obtain ⟨S, ⟨F, SD, G, hdv, hl⟩, hS, hmb⟩ := h.log
  have h8 := hl.no8
  have h0 := put_any hl h.inv.inv hkl hvl hv (by have := h.inv.pend; omega)
  rw [hdv] at h0
  refine h0.mono ?_
  rintro e w' ⟨rfl, hs⟩
  refine ⟨rfl, h.step hS hmb hs (minv_put h.inv key value), fun u x hu => ?_⟩
  obtain ⟨S', -, hm, -⟩ := hs
  exact hu.mod hm h8
include hn in
theorem LM.delete {key : Bs} : Calls Try.prog 12 #[.pointer (some ⟨l, 0, none⟩), .string (st key)] wr fun e w' => e = .returned (codeV (deleteF L key).1) ∧ LM W w' d l np (n + 1) mb lst (deleteF L key).2 := by
  obtain ⟨S, ⟨F, SD, G, hdv, hl⟩, hS, hmb⟩ := h.log
  have h0 := delete_any hl h.inv.inv (key := key) (by have := h.inv.pend; omega)
  rw [hdv] at h0
  refine h0.mono ?_
  rintro e w' ⟨rfl, hs⟩
  exact ⟨rfl, h.step hS hmb hs (minv_delete hn h.inv key)⟩
include hn in
theorem LM.reopen : Calls Try.prog 10 #[.pointer (some ⟨d, 0, none⟩)] wr fun e w' => ∃ l' L', e = .returned (.tuple #[.pointer (some ⟨l', 0, none⟩), .nilIface]) ∧ LM W w' d l' np n mb lst L' ∧ ∀ k, valL L' k = valL L k := by
  obtain ⟨S, ⟨F, SD, G, hdv, hl⟩, hS, hmb⟩ := h.log
  obtain ⟨L', h1, h2, h3, h4⟩ := h.inv.reopen
  have hd := hl.dev
  rw [hdv] at hd
  have h0 := open_any hd h.inv.inv.dev (by have := h.inv.pend; omega)
  rw [h1] at h0
  refine h0.mono ?_
  rintro e w' ⟨l', S', rfl, g1, g2, g3⟩
  have hsd : ∀ x, SD x → S x := hl.inS.2.2.2
  refine ⟨l', L', rfl, ⟨ext_step h.ext (fun x hx => hS x (hsd x hx)) g2, ⟨S', g1, fun x hx => (g3 x hx).elim (fun h9 => hS x (hsd x h9)) (fun h9 => Nat.le_trans h.ext.size h9), fun h9 => (g3 mb h9).elim (fun h8 => hmb (hsd mb h8)) (fun h8 => by have := h.map.lt; omega)⟩, h.map.mod g2 (fun h9 => hmb (hsd mb h9)), h.mb0, h3⟩, h4⟩
theorem LM.keys : Calls Try.prog 17 #[.pointer (some ⟨l, 0, none⟩)] wr fun e w' => ∃ v, e = .returned v ∧ Ext wr w' ∧ KsAt w' wr.heap.size v (keysF L) := by
  obtain ⟨S, ⟨F, SD, G, hdv, hl⟩, hS, hmb⟩ := h.log
  exact keys_any hl h.inv.inv
theorem LM.freeb : Calls Try.prog 15 #[.pointer (some ⟨l, 0, none⟩)] wr fun e w' => e = .returned (.int .i64 (freeBytes L)) ∧ Ext wr w' := by
  obtain ⟨S, ⟨F, SD, G, hdv, hl⟩, hS, hmb⟩ := h.log
  exact freeb_any hl h.inv.inv.wf
theorem LM.gett {key v : Bs} (hv : valL L key = some v) : Calls Try.prog 18 #[.pointer (some ⟨l, 0, none⟩), .string (st key)] wr fun e w' => Ext wr w' ∧ ∃ u, e = .returned (.tuple #[u, .nilIface]) ∧ BS w' u v := by
  obtain ⟨S, ⟨F, SD, G, hdv, hl⟩, hS, hmb⟩ := h.log
  have hg := h.inv.get key
  rw [hv] at hg
  have h0 := gett_any hl h.inv.inv.wf.nb.2 (by have := h.inv.inv.wf.nb.1; omega) (wf_ok h.inv.inv.wf) key (fun v2 hv2 => by
    obtain ⟨y, hy1, hy2, hy3⟩ := get_kind hv2
    have := (hy1.ok h.inv.inv.wf).val
    rw [hy3] at this
    omega)
  rw [hg] at h0
  refine h0.mono ?_
  rintro e w' ⟨hx, u, rfl, hu⟩
  exact ⟨hx, u, rfl, hu.bs⟩
end
theorem zero_str (w : World) : (zeroValue 9).run Try.prog w = .ok (.string ⟨#[]⟩) w := by kernel_rfl
theorem ms_len {w : World} {b : Nat} {l : List (ByteArray × Value)} (h : MsAt w b l) (ty : TypeId) : (Builtin.len_ #[33] ty #[.map (some b)]).run Try.prog w = .ok (goInt l.length) w := by
  obtain ⟨es, n, hb, he, -⟩ := h
  have hl : es.size = l.length := by have := congrArg List.length he; simpa using this
  rw [← hl]
  exact run_len_map w 33 ty b es n (by kernel_rfl) hb
theorem keyF_len (k : Nat) : (keyF k).length ≤ 2049 := by
  unfold keyF
  split
  · simp
  · split
    · simp
    · split
      · simp
      · simp
theorem valueF_len (f m : Nat) : (valueF f m).length < 4000 := by unfold valueF; rw [List.length_map, List.length_range]; omega
theorem st_max {k : Bs} (h : k.length ≤ 1000000) : (st k).size ≤ maxLen := by rw [st_size]; unfold maxLen; omega
theorem codeV_is (c : Nat) : codeV c = if c = 0 then .nilIface else errV c := rfl
end Go.Proofs.Ytepigkjgjlibcaa
