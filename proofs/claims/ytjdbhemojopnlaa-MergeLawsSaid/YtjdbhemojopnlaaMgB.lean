/- Chapter 52: Check and Code of an entry. -/
import Derived.Test.YtjdbhemojopnlaaMgA
import Derived.Test.YtjdbhemojopnlaaRow
namespace Go.Proofs.Ytjdbhemojopnlaa
open Go.RowKit
abbrev entV (nd : ByteArray) (bt sq tn ht by_ at_ : Int) : Value := .agg #[.string nd, .int .i64 bt, .int .i64 sq, .int .i64 tn, .int .i64 ht, .int .i64 by_, .int .i64 at_]
def okN (z : Int) : Prop := 0 ≤ z ∧ z ≤ 1099511627776
def okE (bt sq tn ht by_ at_ : Int) : Prop := okN bt ∧ (1 ≤ sq ∧ sq ≤ 1099511627776) ∧ (0 ≤ tn ∧ tn ≤ 15) ∧ okN ht ∧ okN by_ ∧ okN at_
set_option maxRecDepth 100000 in
theorem check_name (nd : ByteArray) (bt sq tn ht by_ at_ : Int) (hs : (nd.size : Int) ≤ 9223372036854775807) (hn : nmB nd = false) (w : World) :
    Calls Try.prog 30 #[entV nd bt sq tn ht by_ at_] w fun e w' => e = .returned (errV 8) ∧ Ext w w' := by
  have HN := Lib.hid (fun W => named_any nd hs W)
  rw [hn] at HN
  clear hn
  go_enter Try.func30, Try.ntmps30
  go_wp2_with (go_at_call 43; refine (HN.out _).mono ?_; rintro e w' ⟨rfl, rfl⟩)
  go_ret
  exact ⟨rfl, (Ext.refl w).alloc _⟩
set_option maxRecDepth 100000 in
set_option maxHeartbeats 4000000 in
theorem check_ok (nd : ByteArray) (bt sq tn ht by_ at_ : Int) (hs : (nd.size : Int) ≤ 9223372036854775807) (hn : nmB nd = true) (h : okE bt sq tn ht by_ at_) (w : World) :
    Calls Try.prog 30 #[entV nd bt sq tn ht by_ at_] w fun e w' => e = .returned .nilIface ∧ Ext w w' := by
  have HN := Lib.hid (fun W => named_any nd hs W)
  rw [hn] at HN
  obtain ⟨⟨a1, a2⟩, ⟨b1, b2⟩, ⟨c1, c2⟩, ⟨d1, d2⟩, ⟨e1, e2⟩, ⟨f1, f2⟩⟩ := h
  have n1 : ¬ bt < 0 := by omega
  have n2 : ¬ 1099511627776 < bt := by omega
  have n3 : ¬ sq - 1 < 0 := by omega
  have n4 : ¬ 1099511627776 < sq - 1 := by omega
  have n5 : ¬ tn < 0 := by omega
  have n6 : ¬ 1099511627776 < tn := by omega
  have n7 : ¬ ht < 0 := by omega
  have n8 : ¬ 1099511627776 < ht := by omega
  have n9 : ¬ by_ < 0 := by omega
  have n10 : ¬ 1099511627776 < by_ := by omega
  have n11 : ¬ at_ < 0 := by omega
  have n12 : ¬ 1099511627776 < at_ := by omega
  have n13 : ¬ 1099511627776 < sq := by omega
  have n14 : ¬ 16 ≤ tn := by omega
  clear hn a1 a2 c1 c2 d1 d2 e1 e2 f1 f2
  go_enter Try.func30, Try.ntmps30
  go_wp2_with (go_at_call 43; refine (HN.out _).mono ?_; rintro e w' ⟨rfl, rfl⟩)
  refine wp_loop_rounds 8 ?_
  repeat any_goals (rw [rounds_succ]; go_wp2_with fail)
  all_goals go_ret
  all_goals exact ⟨rfl, ((Ext.refl w).alloc _).alloc _⟩
end Go.Proofs.Ytjdbhemojopnlaa
