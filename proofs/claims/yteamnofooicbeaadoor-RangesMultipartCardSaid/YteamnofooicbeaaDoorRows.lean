/-
  NARROWER THAN 'FOR EVERY INPUT', by the rows' own cells (each row's printed sentence says how): RangesParses: laid · RangesSpells: laid · RangesContent: laid · RangesFormats: laid · RangesReads: laid · RangesMerges: laid · RangesCovers: laid · RangesPieces: laid · RangesMultipart: laid.
  DERIVED. THE GIVEN ROWS OF THIS SEAT. 9 by the template 'for every input the law returns true; each argument reads behind the call as it read before'; 0 by the template 'total and deterministic' (their statements: YteamnofooicbeaaDoorTotals.lean).
  GIVEN WITH THE SEED: the statements are not yours to turn. If you find one false, say at which input.
  Laid BY PROGRAM, IN A SANDBOX (cutbox-rows.mjs): the forced cells as the released guide's own fill.sh prints them over the translation 417122e5909bd033… (all of the seat's roots in one cut). By AI agents, Wed Nov 11 2026. No macro, syntax, notation, axiom, sorry.
-/
import Derived.Test.YteamnofooicbeaaDoorChecked
import GoSem.PinnedTables
import GoSem.Claim
import GoSem.ClaimJoined
import GoSem.ClaimMapViews
import Derived.JoinedTies
import Derived.KernelRfl
namespace Go.Proofs.YteamnofooicbeaaDoor
/- THE CELL 'sum', in the pinned program and in every row, IS THE sha256 OF THE DUMP (.gsa) THAT YteamnofooicbeaaDoorProg.lean LOADS. Nothing in Lean hashes anything: it is a label: what it is worth is what the hold of that sum in a sandbox is worth. -/
noncomputable def Tryd.pinned : Pinned := { name := "yteamnofooicbeaadoor", sum := "417122e5909bd0337773be37110be45d6209a5cd188a1c65c4a5893930047e89", checked := Tryd.checked }
namespace Rows
def none {H : Type} : Left H := { results := [], args := [] }

/- WHAT THE LISTED PACKAGE-LEVEL VARIABLES READ AS WHEN THE CALL BEGINS. Each datum BY PROGRAM (the guide's laid-datum.mjs) off the statement by which the dump's own 'gosem.cut.vars' lays the variable. In a bare row this is a premise. The card (YteamnofooicbeaaDoorCards.lean) ties it to the program's text. -/
def laid_unicode_utf8_acceptRanges {H : Type} : DataW H := .agg [.agg [.lit (.int .u8 128), .lit (.int .u8 191)], .agg [.lit (.int .u8 160), .lit (.int .u8 191)], .agg [.lit (.int .u8 128), .lit (.int .u8 159)], .agg [.lit (.int .u8 144), .lit (.int .u8 191)], .agg [.lit (.int .u8 128), .lit (.int .u8 143)], .agg [.lit (.int .u8 0), .lit (.int .u8 0)], .agg [.lit (.int .u8 0), .lit (.int .u8 0)], .agg [.lit (.int .u8 0), .lit (.int .u8 0)], .agg [.lit (.int .u8 0), .lit (.int .u8 0)], .agg [.lit (.int .u8 0), .lit (.int .u8 0)], .agg [.lit (.int .u8 0), .lit (.int .u8 0)], .agg [.lit (.int .u8 0), .lit (.int .u8 0)], .agg [.lit (.int .u8 0), .lit (.int .u8 0)], .agg [.lit (.int .u8 0), .lit (.int .u8 0)], .agg [.lit (.int .u8 0), .lit (.int .u8 0)], .agg [.lit (.int .u8 0), .lit (.int .u8 0)]]
/-- One of Go's own tables, pinned by name: the form's constant. -/
def laid_unicode_utf8_first : DataW Unit := Go.Pinned.utf8First
def laid_math_bits_deBruijn32tab {H : Type} : DataW H := .agg [.lit (.int .u8 0), .lit (.int .u8 1), .lit (.int .u8 28), .lit (.int .u8 2), .lit (.int .u8 29), .lit (.int .u8 14), .lit (.int .u8 24), .lit (.int .u8 3), .lit (.int .u8 30), .lit (.int .u8 22), .lit (.int .u8 20), .lit (.int .u8 15), .lit (.int .u8 25), .lit (.int .u8 17), .lit (.int .u8 4), .lit (.int .u8 8), .lit (.int .u8 31), .lit (.int .u8 27), .lit (.int .u8 13), .lit (.int .u8 23), .lit (.int .u8 21), .lit (.int .u8 19), .lit (.int .u8 16), .lit (.int .u8 7), .lit (.int .u8 26), .lit (.int .u8 12), .lit (.int .u8 18), .lit (.int .u8 6), .lit (.int .u8 11), .lit (.int .u8 5), .lit (.int .u8 10), .lit (.int .u8 9)]
def laid_math_bits_deBruijn64tab {H : Type} : DataW H := .agg [.lit (.int .u8 0), .lit (.int .u8 1), .lit (.int .u8 56), .lit (.int .u8 2), .lit (.int .u8 57), .lit (.int .u8 49), .lit (.int .u8 28), .lit (.int .u8 3), .lit (.int .u8 61), .lit (.int .u8 58), .lit (.int .u8 42), .lit (.int .u8 50), .lit (.int .u8 38), .lit (.int .u8 29), .lit (.int .u8 17), .lit (.int .u8 4), .lit (.int .u8 62), .lit (.int .u8 47), .lit (.int .u8 59), .lit (.int .u8 36), .lit (.int .u8 45), .lit (.int .u8 43), .lit (.int .u8 51), .lit (.int .u8 22), .lit (.int .u8 53), .lit (.int .u8 39), .lit (.int .u8 33), .lit (.int .u8 30), .lit (.int .u8 24), .lit (.int .u8 18), .lit (.int .u8 12), .lit (.int .u8 5), .lit (.int .u8 63), .lit (.int .u8 55), .lit (.int .u8 48), .lit (.int .u8 27), .lit (.int .u8 60), .lit (.int .u8 41), .lit (.int .u8 37), .lit (.int .u8 16), .lit (.int .u8 46), .lit (.int .u8 35), .lit (.int .u8 44), .lit (.int .u8 21), .lit (.int .u8 52), .lit (.int .u8 32), .lit (.int .u8 23), .lit (.int .u8 11), .lit (.int .u8 54), .lit (.int .u8 26), .lit (.int .u8 40), .lit (.int .u8 15), .lit (.int .u8 34), .lit (.int .u8 20), .lit (.int .u8 31), .lit (.int .u8 10), .lit (.int .u8 25), .lit (.int .u8 14), .lit (.int .u8 19), .lit (.int .u8 9), .lit (.int .u8 13), .lit (.int .u8 8), .lit (.int .u8 7), .lit (.int .u8 6)]
def laid_internal_strconv_uint64pow10 {H : Type} : DataW H := .agg [.lit (.int .u64 1), .lit (.int .u64 10), .lit (.int .u64 100), .lit (.int .u64 1000), .lit (.int .u64 10000), .lit (.int .u64 100000), .lit (.int .u64 1000000), .lit (.int .u64 10000000), .lit (.int .u64 100000000), .lit (.int .u64 1000000000), .lit (.int .u64 10000000000), .lit (.int .u64 100000000000), .lit (.int .u64 1000000000000), .lit (.int .u64 10000000000000), .lit (.int .u64 100000000000000), .lit (.int .u64 1000000000000000), .lit (.int .u64 10000000000000000), .lit (.int .u64 100000000000000000), .lit (.int .u64 1000000000000000000), .lit (.int .u64 10000000000000000000)]

/-- 'quaysidelaw09.RangesParses': WHATEVER THE INPUT: true; the input reads as it did. -/
def rangesParsesSpec : ChangeSpec := { name := "rangesParses", fn := fun _ => fun
  | [d1, d2] => { results := [.lit (.bool true)], args := [d1, d2] }
  | _ => none }
def rangesParsesRow : OpenClaim := { program := "yteamnofooicbeaadoor", sum := "417122e5909bd0337773be37110be45d6209a5cd188a1c65c4a5893930047e89", func := "quayside/quaysidelaw09.RangesParses", spec := "rangesParses", inPlace := ["internal/bytealg.IndexByteString", "internal/bytealg.IndexString"], named := ["unicode/utf8.first", "unicode/utf8.acceptRanges", "internal/bytealg.MaxLen"], apart := false, laid := [("unicode/utf8.acceptRanges", laid_unicode_utf8_acceptRanges), ("unicode/utf8.first", laid_unicode_utf8_first)] }
def RangesParsesSaid : Prop := rangesParsesRow.holds Tryd.pinned (OpenSpec.ofChange rangesParsesSpec)

/-- ITS FALSE NEIGHBOUR: 'it returns false'. Refute it at one input. -/
def rangesParsesWrong : ChangeSpec := { name := "rangesParses", fn := fun _ => fun
  | [d1, d2] => { results := [.lit (.bool false)], args := [d1, d2] }
  | _ => none }
def RangesParsesWrongFalsely : Prop := rangesParsesRow.holds Tryd.pinned (OpenSpec.ofChange rangesParsesWrong)

/-- 'quaysidelaw09.RangesSpells': WHATEVER THE INPUT: true; the input reads as it did. -/
def rangesSpellsSpec : ChangeSpec := { name := "rangesSpells", fn := fun _ => fun
  | [d1, d2, d3] => { results := [.lit (.bool true)], args := [d1, d2, d3] }
  | _ => none }
def rangesSpellsRow : OpenClaim := { program := "yteamnofooicbeaadoor", sum := "417122e5909bd0337773be37110be45d6209a5cd188a1c65c4a5893930047e89", func := "quayside/quaysidelaw09.RangesSpells", spec := "rangesSpells", inPlace := ["internal/bytealg.IndexByteString", "internal/bytealg.IndexString"], recurses := true, named := ["unicode/utf8.first", "unicode/utf8.acceptRanges", "internal/bytealg.MaxLen"], apart := false, laid := [("unicode/utf8.acceptRanges", laid_unicode_utf8_acceptRanges), ("unicode/utf8.first", laid_unicode_utf8_first)] }
def RangesSpellsSaid : Prop := rangesSpellsRow.holds Tryd.pinned (OpenSpec.ofChange rangesSpellsSpec)

/-- ITS FALSE NEIGHBOUR: 'it returns false'. Refute it at one input. -/
def rangesSpellsWrong : ChangeSpec := { name := "rangesSpells", fn := fun _ => fun
  | [d1, d2, d3] => { results := [.lit (.bool false)], args := [d1, d2, d3] }
  | _ => none }
def RangesSpellsWrongFalsely : Prop := rangesSpellsRow.holds Tryd.pinned (OpenSpec.ofChange rangesSpellsWrong)

/-- 'quaysidelaw09.RangesContent': WHATEVER THE INPUT: true; the input reads as it did. -/
def rangesContentSpec : ChangeSpec := { name := "rangesContent", fn := fun _ => fun
  | [d1, d2, d3] => { results := [.lit (.bool true)], args := [d1, d2, d3] }
  | _ => none }
def rangesContentRow : OpenClaim := { program := "yteamnofooicbeaadoor", sum := "417122e5909bd0337773be37110be45d6209a5cd188a1c65c4a5893930047e89", func := "quayside/quaysidelaw09.RangesContent", spec := "rangesContent", inPlace := ["internal/bytealg.IndexByteString", "internal/bytealg.IndexString"], recurses := true, named := ["unicode/utf8.first", "unicode/utf8.acceptRanges", "internal/bytealg.MaxLen", "internal/strconv.uint64pow10", "math/bits.deBruijn32tab", "math/bits.deBruijn64tab"], apart := false, laid := [("math/bits.deBruijn32tab", laid_math_bits_deBruijn32tab), ("math/bits.deBruijn64tab", laid_math_bits_deBruijn64tab), ("internal/strconv.uint64pow10", laid_internal_strconv_uint64pow10), ("unicode/utf8.acceptRanges", laid_unicode_utf8_acceptRanges), ("unicode/utf8.first", laid_unicode_utf8_first)] }
def RangesContentSaid : Prop := rangesContentRow.holds Tryd.pinned (OpenSpec.ofChange rangesContentSpec)

/-- ITS FALSE NEIGHBOUR: 'it returns false'. Refute it at one input. -/
def rangesContentWrong : ChangeSpec := { name := "rangesContent", fn := fun _ => fun
  | [d1, d2, d3] => { results := [.lit (.bool false)], args := [d1, d2, d3] }
  | _ => none }
def RangesContentWrongFalsely : Prop := rangesContentRow.holds Tryd.pinned (OpenSpec.ofChange rangesContentWrong)

/-- 'quaysidelaw09.RangesFormats': WHATEVER THE INPUT: true; the input reads as it did. -/
def rangesFormatsSpec : ChangeSpec := { name := "rangesFormats", fn := fun _ => fun
  | [d1, d2] => { results := [.lit (.bool true)], args := [d1, d2] }
  | _ => none }
def rangesFormatsRow : OpenClaim := { program := "yteamnofooicbeaadoor", sum := "417122e5909bd0337773be37110be45d6209a5cd188a1c65c4a5893930047e89", func := "quayside/quaysidelaw09.RangesFormats", spec := "rangesFormats", inPlace := ["internal/bytealg.IndexByteString", "internal/bytealg.IndexString", "internal/abi.NoEscape", "internal/bytealg.MakeNoZero"], recurses := true, named := ["unicode/utf8.first", "unicode/utf8.acceptRanges", "internal/bytealg.MaxLen", "internal/strconv.uint64pow10", "math/bits.deBruijn32tab", "math/bits.deBruijn64tab"], apart := false, laid := [("math/bits.deBruijn32tab", laid_math_bits_deBruijn32tab), ("math/bits.deBruijn64tab", laid_math_bits_deBruijn64tab), ("internal/strconv.uint64pow10", laid_internal_strconv_uint64pow10), ("unicode/utf8.acceptRanges", laid_unicode_utf8_acceptRanges), ("unicode/utf8.first", laid_unicode_utf8_first)] }
def RangesFormatsSaid : Prop := rangesFormatsRow.holds Tryd.pinned (OpenSpec.ofChange rangesFormatsSpec)

/-- ITS FALSE NEIGHBOUR: 'it returns false'. Refute it at one input. -/
def rangesFormatsWrong : ChangeSpec := { name := "rangesFormats", fn := fun _ => fun
  | [d1, d2] => { results := [.lit (.bool false)], args := [d1, d2] }
  | _ => none }
def RangesFormatsWrongFalsely : Prop := rangesFormatsRow.holds Tryd.pinned (OpenSpec.ofChange rangesFormatsWrong)

/-- 'quaysidelaw09.RangesReads': WHATEVER THE INPUT: true; the input reads as it did. -/
def rangesReadsSpec : ChangeSpec := { name := "rangesReads", fn := fun _ => fun
  | [d1, d2] => { results := [.lit (.bool true)], args := [d1, d2] }
  | _ => none }
def rangesReadsRow : OpenClaim := { program := "yteamnofooicbeaadoor", sum := "417122e5909bd0337773be37110be45d6209a5cd188a1c65c4a5893930047e89", func := "quayside/quaysidelaw09.RangesReads", spec := "rangesReads", inPlace := ["internal/bytealg.IndexByteString", "internal/bytealg.IndexString"], recurses := true, named := ["unicode/utf8.first", "unicode/utf8.acceptRanges", "internal/bytealg.MaxLen", "internal/strconv.uint64pow10", "math/bits.deBruijn32tab", "math/bits.deBruijn64tab"], apart := false, laid := [("math/bits.deBruijn32tab", laid_math_bits_deBruijn32tab), ("math/bits.deBruijn64tab", laid_math_bits_deBruijn64tab), ("internal/strconv.uint64pow10", laid_internal_strconv_uint64pow10), ("unicode/utf8.acceptRanges", laid_unicode_utf8_acceptRanges), ("unicode/utf8.first", laid_unicode_utf8_first)] }
def RangesReadsSaid : Prop := rangesReadsRow.holds Tryd.pinned (OpenSpec.ofChange rangesReadsSpec)

/-- ITS FALSE NEIGHBOUR: 'it returns false'. Refute it at one input. -/
def rangesReadsWrong : ChangeSpec := { name := "rangesReads", fn := fun _ => fun
  | [d1, d2] => { results := [.lit (.bool false)], args := [d1, d2] }
  | _ => none }
def RangesReadsWrongFalsely : Prop := rangesReadsRow.holds Tryd.pinned (OpenSpec.ofChange rangesReadsWrong)

/-- 'quaysidelaw09.RangesMerges': WHATEVER THE INPUT: true; the input reads as it did. -/
def rangesMergesSpec : ChangeSpec := { name := "rangesMerges", fn := fun _ => fun
  | [d] => { results := [.lit (.bool true)], args := [d] }
  | _ => none }
def rangesMergesRow : OpenClaim := { program := "yteamnofooicbeaadoor", sum := "417122e5909bd0337773be37110be45d6209a5cd188a1c65c4a5893930047e89", func := "quayside/quaysidelaw09.RangesMerges", spec := "rangesMerges", inPlace := ["internal/bytealg.IndexByteString", "internal/bytealg.IndexString"], unfollowed := true, recurses := true, named := ["unicode/utf8.first", "unicode/utf8.acceptRanges", "internal/bytealg.MaxLen"], apart := false, laid := [("unicode/utf8.acceptRanges", laid_unicode_utf8_acceptRanges), ("unicode/utf8.first", laid_unicode_utf8_first)] }
def RangesMergesSaid : Prop := rangesMergesRow.holds Tryd.pinned (OpenSpec.ofChange rangesMergesSpec)

/-- ITS FALSE NEIGHBOUR: 'it returns false'. Refute it at one input. -/
def rangesMergesWrong : ChangeSpec := { name := "rangesMerges", fn := fun _ => fun
  | [d] => { results := [.lit (.bool false)], args := [d] }
  | _ => none }
def RangesMergesWrongFalsely : Prop := rangesMergesRow.holds Tryd.pinned (OpenSpec.ofChange rangesMergesWrong)

/-- 'quaysidelaw09.RangesCovers': WHATEVER THE INPUT: true; the input reads as it did. -/
def rangesCoversSpec : ChangeSpec := { name := "rangesCovers", fn := fun _ => fun
  | [d1, d2] => { results := [.lit (.bool true)], args := [d1, d2] }
  | _ => none }
def rangesCoversRow : OpenClaim := { program := "yteamnofooicbeaadoor", sum := "417122e5909bd0337773be37110be45d6209a5cd188a1c65c4a5893930047e89", func := "quayside/quaysidelaw09.RangesCovers", spec := "rangesCovers", inPlace := ["internal/bytealg.IndexByteString", "internal/bytealg.IndexString"], unfollowed := true, recurses := true, named := ["unicode/utf8.first", "unicode/utf8.acceptRanges", "internal/bytealg.MaxLen"], apart := false, laid := [("unicode/utf8.acceptRanges", laid_unicode_utf8_acceptRanges), ("unicode/utf8.first", laid_unicode_utf8_first)] }
def RangesCoversSaid : Prop := rangesCoversRow.holds Tryd.pinned (OpenSpec.ofChange rangesCoversSpec)

/-- ITS FALSE NEIGHBOUR: 'it returns false'. Refute it at one input. -/
def rangesCoversWrong : ChangeSpec := { name := "rangesCovers", fn := fun _ => fun
  | [d1, d2] => { results := [.lit (.bool false)], args := [d1, d2] }
  | _ => none }
def RangesCoversWrongFalsely : Prop := rangesCoversRow.holds Tryd.pinned (OpenSpec.ofChange rangesCoversWrong)

/-- 'quaysidelaw09.RangesPieces': WHATEVER THE INPUT: true; the input reads as it did. -/
def rangesPiecesSpec : ChangeSpec := { name := "rangesPieces", fn := fun _ => fun
  | [d1, d2, d3] => { results := [.lit (.bool true)], args := [d1, d2, d3] }
  | _ => none }
def rangesPiecesRow : OpenClaim := { program := "yteamnofooicbeaadoor", sum := "417122e5909bd0337773be37110be45d6209a5cd188a1c65c4a5893930047e89", func := "quayside/quaysidelaw09.RangesPieces", spec := "rangesPieces", inPlace := ["internal/bytealg.IndexByteString", "internal/bytealg.IndexString"], unfollowed := true, recurses := true, named := ["unicode/utf8.first", "unicode/utf8.acceptRanges", "internal/bytealg.MaxLen"], apart := false, laid := [("unicode/utf8.acceptRanges", laid_unicode_utf8_acceptRanges), ("unicode/utf8.first", laid_unicode_utf8_first)] }
def RangesPiecesSaid : Prop := rangesPiecesRow.holds Tryd.pinned (OpenSpec.ofChange rangesPiecesSpec)

/-- ITS FALSE NEIGHBOUR: 'it returns false'. Refute it at one input. -/
def rangesPiecesWrong : ChangeSpec := { name := "rangesPieces", fn := fun _ => fun
  | [d1, d2, d3] => { results := [.lit (.bool false)], args := [d1, d2, d3] }
  | _ => none }
def RangesPiecesWrongFalsely : Prop := rangesPiecesRow.holds Tryd.pinned (OpenSpec.ofChange rangesPiecesWrong)

/-- 'quaysidelaw09.RangesMultipart': WHATEVER THE INPUT: true; the input reads as it did. -/
def rangesMultipartSpec : ChangeSpec := { name := "rangesMultipart", fn := fun _ => fun
  | [d] => { results := [.lit (.bool true)], args := [d] }
  | _ => none }
def rangesMultipartRow : OpenClaim := { program := "yteamnofooicbeaadoor", sum := "417122e5909bd0337773be37110be45d6209a5cd188a1c65c4a5893930047e89", func := "quayside/quaysidelaw09.RangesMultipart", spec := "rangesMultipart", inPlace := ["internal/bytealg.IndexByteString", "internal/bytealg.IndexString", "internal/bytealg.IndexByte", "internal/bytealg.Index"], recurses := true, named := ["unicode/utf8.first", "unicode/utf8.acceptRanges", "internal/bytealg.MaxLen", "internal/strconv.uint64pow10", "math/bits.deBruijn32tab", "math/bits.deBruijn64tab"], apart := false, laid := [("math/bits.deBruijn32tab", laid_math_bits_deBruijn32tab), ("math/bits.deBruijn64tab", laid_math_bits_deBruijn64tab), ("internal/strconv.uint64pow10", laid_internal_strconv_uint64pow10), ("unicode/utf8.acceptRanges", laid_unicode_utf8_acceptRanges), ("unicode/utf8.first", laid_unicode_utf8_first)] }
def RangesMultipartSaid : Prop := rangesMultipartRow.holds Tryd.pinned (OpenSpec.ofChange rangesMultipartSpec)

/-- ITS FALSE NEIGHBOUR: 'it returns false'. Refute it at one input. -/
def rangesMultipartWrong : ChangeSpec := { name := "rangesMultipart", fn := fun _ => fun
  | [d] => { results := [.lit (.bool false)], args := [d] }
  | _ => none }
def RangesMultipartWrongFalsely : Prop := rangesMultipartRow.holds Tryd.pinned (OpenSpec.ofChange rangesMultipartWrong)

/- THE SECOND FORM. 'bulk': how many values and letters a reading holds, each counted each time it is reached (what is shared counts as often as it is met; a slice's spare places count too). A statement '..UptoSaid' is the law's where the arguments, and the package variables that the reading takes, are together of bulk at most 1048576: NARROWER than '..Said'. Prove '..Said' where nothing that the law and all that it calls make is longer than what came in: it says more and counts as full. Else prove '..UptoSaid'. A law counts once. -/
mutual
def uptoBulk {H : Type} : DataW H → Nat
  | .lit (.string bytes) => bytes.length + 1
  | .lit _ => 1
  | .nil => 1
  | .ptr d => uptoBulk d + 1
  | .slice elems spare => uptoBulkAll elems + uptoBulkAll spare + 1
  | .agg parts => uptoBulkAll parts + 1
  | .iface _ d => uptoBulk d + 1
  | .map entries => uptoBulkEntries entries + 1
  | .held _ => 1
def uptoBulkAll {H : Type} : List (DataW H) → Nat
  | [] => 0
  | d :: r => uptoBulk d + uptoBulkAll r
def uptoBulkEntries {H : Type} : List (Lit × DataW H) → Nat
  | [] => 0
  | x :: r => uptoBulkEntry x + uptoBulkEntries r
def uptoBulkEntry {H : Type} : Lit × DataW H → Nat
  | (.string bytes, d) => bytes.length + uptoBulk d + 1
  | (_, d) => uptoBulk d + 1
 end
def uptoSmall : (H : Type) → List (DataW H) → Bool := fun _ ds => decide (uptoBulkAll ds ≤ 1048576)
def OpenSpec.upto (s : _root_.Go.ChangeSpec) : _root_.Go.OpenSpec := { _root_.Go.OpenSpec.ofChange s with cond := some uptoSmall }

/-- 'quaysidelaw09.RangesParses', WHERE WHAT IT READS IS OF BULK AT MOST 1048576: true; the input reads as it did. -/
def rangesParsesUptoRow : OpenClaim := { program := "yteamnofooicbeaadoor", sum := "417122e5909bd0337773be37110be45d6209a5cd188a1c65c4a5893930047e89", func := "quayside/quaysidelaw09.RangesParses", spec := "rangesParses", inPlace := ["internal/bytealg.IndexByteString", "internal/bytealg.IndexString"], named := ["unicode/utf8.first", "unicode/utf8.acceptRanges", "internal/bytealg.MaxLen"], apart := false, laid := [("unicode/utf8.acceptRanges", laid_unicode_utf8_acceptRanges), ("unicode/utf8.first", laid_unicode_utf8_first)], narrowed := true }
def RangesParsesUptoSaid : Prop := rangesParsesUptoRow.holds Tryd.pinned (OpenSpec.upto rangesParsesSpec)

/-- 'quaysidelaw09.RangesSpells', WHERE WHAT IT READS IS OF BULK AT MOST 1048576: true; the input reads as it did. -/
def rangesSpellsUptoRow : OpenClaim := { program := "yteamnofooicbeaadoor", sum := "417122e5909bd0337773be37110be45d6209a5cd188a1c65c4a5893930047e89", func := "quayside/quaysidelaw09.RangesSpells", spec := "rangesSpells", inPlace := ["internal/bytealg.IndexByteString", "internal/bytealg.IndexString"], recurses := true, named := ["unicode/utf8.first", "unicode/utf8.acceptRanges", "internal/bytealg.MaxLen"], apart := false, laid := [("unicode/utf8.acceptRanges", laid_unicode_utf8_acceptRanges), ("unicode/utf8.first", laid_unicode_utf8_first)], narrowed := true }
def RangesSpellsUptoSaid : Prop := rangesSpellsUptoRow.holds Tryd.pinned (OpenSpec.upto rangesSpellsSpec)

/-- 'quaysidelaw09.RangesContent', WHERE WHAT IT READS IS OF BULK AT MOST 1048576: true; the input reads as it did. -/
def rangesContentUptoRow : OpenClaim := { program := "yteamnofooicbeaadoor", sum := "417122e5909bd0337773be37110be45d6209a5cd188a1c65c4a5893930047e89", func := "quayside/quaysidelaw09.RangesContent", spec := "rangesContent", inPlace := ["internal/bytealg.IndexByteString", "internal/bytealg.IndexString"], recurses := true, named := ["unicode/utf8.first", "unicode/utf8.acceptRanges", "internal/bytealg.MaxLen", "internal/strconv.uint64pow10", "math/bits.deBruijn32tab", "math/bits.deBruijn64tab"], apart := false, laid := [("math/bits.deBruijn32tab", laid_math_bits_deBruijn32tab), ("math/bits.deBruijn64tab", laid_math_bits_deBruijn64tab), ("internal/strconv.uint64pow10", laid_internal_strconv_uint64pow10), ("unicode/utf8.acceptRanges", laid_unicode_utf8_acceptRanges), ("unicode/utf8.first", laid_unicode_utf8_first)], narrowed := true }
def RangesContentUptoSaid : Prop := rangesContentUptoRow.holds Tryd.pinned (OpenSpec.upto rangesContentSpec)

/-- 'quaysidelaw09.RangesFormats', WHERE WHAT IT READS IS OF BULK AT MOST 1048576: true; the input reads as it did. -/
def rangesFormatsUptoRow : OpenClaim := { program := "yteamnofooicbeaadoor", sum := "417122e5909bd0337773be37110be45d6209a5cd188a1c65c4a5893930047e89", func := "quayside/quaysidelaw09.RangesFormats", spec := "rangesFormats", inPlace := ["internal/bytealg.IndexByteString", "internal/bytealg.IndexString", "internal/abi.NoEscape", "internal/bytealg.MakeNoZero"], recurses := true, named := ["unicode/utf8.first", "unicode/utf8.acceptRanges", "internal/bytealg.MaxLen", "internal/strconv.uint64pow10", "math/bits.deBruijn32tab", "math/bits.deBruijn64tab"], apart := false, laid := [("math/bits.deBruijn32tab", laid_math_bits_deBruijn32tab), ("math/bits.deBruijn64tab", laid_math_bits_deBruijn64tab), ("internal/strconv.uint64pow10", laid_internal_strconv_uint64pow10), ("unicode/utf8.acceptRanges", laid_unicode_utf8_acceptRanges), ("unicode/utf8.first", laid_unicode_utf8_first)], narrowed := true }
def RangesFormatsUptoSaid : Prop := rangesFormatsUptoRow.holds Tryd.pinned (OpenSpec.upto rangesFormatsSpec)

/-- 'quaysidelaw09.RangesReads', WHERE WHAT IT READS IS OF BULK AT MOST 1048576: true; the input reads as it did. -/
def rangesReadsUptoRow : OpenClaim := { program := "yteamnofooicbeaadoor", sum := "417122e5909bd0337773be37110be45d6209a5cd188a1c65c4a5893930047e89", func := "quayside/quaysidelaw09.RangesReads", spec := "rangesReads", inPlace := ["internal/bytealg.IndexByteString", "internal/bytealg.IndexString"], recurses := true, named := ["unicode/utf8.first", "unicode/utf8.acceptRanges", "internal/bytealg.MaxLen", "internal/strconv.uint64pow10", "math/bits.deBruijn32tab", "math/bits.deBruijn64tab"], apart := false, laid := [("math/bits.deBruijn32tab", laid_math_bits_deBruijn32tab), ("math/bits.deBruijn64tab", laid_math_bits_deBruijn64tab), ("internal/strconv.uint64pow10", laid_internal_strconv_uint64pow10), ("unicode/utf8.acceptRanges", laid_unicode_utf8_acceptRanges), ("unicode/utf8.first", laid_unicode_utf8_first)], narrowed := true }
def RangesReadsUptoSaid : Prop := rangesReadsUptoRow.holds Tryd.pinned (OpenSpec.upto rangesReadsSpec)

/-- 'quaysidelaw09.RangesMerges', WHERE WHAT IT READS IS OF BULK AT MOST 1048576: true; the input reads as it did. -/
def rangesMergesUptoRow : OpenClaim := { program := "yteamnofooicbeaadoor", sum := "417122e5909bd0337773be37110be45d6209a5cd188a1c65c4a5893930047e89", func := "quayside/quaysidelaw09.RangesMerges", spec := "rangesMerges", inPlace := ["internal/bytealg.IndexByteString", "internal/bytealg.IndexString"], unfollowed := true, recurses := true, named := ["unicode/utf8.first", "unicode/utf8.acceptRanges", "internal/bytealg.MaxLen"], apart := false, laid := [("unicode/utf8.acceptRanges", laid_unicode_utf8_acceptRanges), ("unicode/utf8.first", laid_unicode_utf8_first)], narrowed := true }
def RangesMergesUptoSaid : Prop := rangesMergesUptoRow.holds Tryd.pinned (OpenSpec.upto rangesMergesSpec)

/-- 'quaysidelaw09.RangesCovers', WHERE WHAT IT READS IS OF BULK AT MOST 1048576: true; the input reads as it did. -/
def rangesCoversUptoRow : OpenClaim := { program := "yteamnofooicbeaadoor", sum := "417122e5909bd0337773be37110be45d6209a5cd188a1c65c4a5893930047e89", func := "quayside/quaysidelaw09.RangesCovers", spec := "rangesCovers", inPlace := ["internal/bytealg.IndexByteString", "internal/bytealg.IndexString"], unfollowed := true, recurses := true, named := ["unicode/utf8.first", "unicode/utf8.acceptRanges", "internal/bytealg.MaxLen"], apart := false, laid := [("unicode/utf8.acceptRanges", laid_unicode_utf8_acceptRanges), ("unicode/utf8.first", laid_unicode_utf8_first)], narrowed := true }
def RangesCoversUptoSaid : Prop := rangesCoversUptoRow.holds Tryd.pinned (OpenSpec.upto rangesCoversSpec)

/-- 'quaysidelaw09.RangesPieces', WHERE WHAT IT READS IS OF BULK AT MOST 1048576: true; the input reads as it did. -/
def rangesPiecesUptoRow : OpenClaim := { program := "yteamnofooicbeaadoor", sum := "417122e5909bd0337773be37110be45d6209a5cd188a1c65c4a5893930047e89", func := "quayside/quaysidelaw09.RangesPieces", spec := "rangesPieces", inPlace := ["internal/bytealg.IndexByteString", "internal/bytealg.IndexString"], unfollowed := true, recurses := true, named := ["unicode/utf8.first", "unicode/utf8.acceptRanges", "internal/bytealg.MaxLen"], apart := false, laid := [("unicode/utf8.acceptRanges", laid_unicode_utf8_acceptRanges), ("unicode/utf8.first", laid_unicode_utf8_first)], narrowed := true }
def RangesPiecesUptoSaid : Prop := rangesPiecesUptoRow.holds Tryd.pinned (OpenSpec.upto rangesPiecesSpec)

/-- 'quaysidelaw09.RangesMultipart', WHERE WHAT IT READS IS OF BULK AT MOST 1048576: true; the input reads as it did. -/
def rangesMultipartUptoRow : OpenClaim := { program := "yteamnofooicbeaadoor", sum := "417122e5909bd0337773be37110be45d6209a5cd188a1c65c4a5893930047e89", func := "quayside/quaysidelaw09.RangesMultipart", spec := "rangesMultipart", inPlace := ["internal/bytealg.IndexByteString", "internal/bytealg.IndexString", "internal/bytealg.IndexByte", "internal/bytealg.Index"], recurses := true, named := ["unicode/utf8.first", "unicode/utf8.acceptRanges", "internal/bytealg.MaxLen", "internal/strconv.uint64pow10", "math/bits.deBruijn32tab", "math/bits.deBruijn64tab"], apart := false, laid := [("math/bits.deBruijn32tab", laid_math_bits_deBruijn32tab), ("math/bits.deBruijn64tab", laid_math_bits_deBruijn64tab), ("internal/strconv.uint64pow10", laid_internal_strconv_uint64pow10), ("unicode/utf8.acceptRanges", laid_unicode_utf8_acceptRanges), ("unicode/utf8.first", laid_unicode_utf8_first)], narrowed := true }
def RangesMultipartUptoSaid : Prop := rangesMultipartUptoRow.holds Tryd.pinned (OpenSpec.upto rangesMultipartSpec)

end Rows
end Go.Proofs.YteamnofooicbeaaDoor
