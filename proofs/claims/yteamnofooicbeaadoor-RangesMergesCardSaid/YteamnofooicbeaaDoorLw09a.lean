/- The witness's world: the listed tables lie as the program's text lays them. -/
import Derived.Test.YteamnofooicbeaaDoorFacts
import Derived.Test.YteamnofooicbeaaDoorRows
namespace Go.Proofs.YteamnofooicbeaaDoor
def layRow (cs : Array Value) : Obj → Obj
  | .cells _ t frozen => .cells cs t frozen
  | o => o
def litsOf : DataW Unit → List Value
  | .agg l => l.map fun x => match x with | .lit (.int k n) => .int k n | _ => undef
  | _ => []
def arr_laid_unicode_utf8_acceptRanges : Array Value := #[.int .u8 128, .int .u8 191, .int .u8 160, .int .u8 191, .int .u8 128, .int .u8 159, .int .u8 144, .int .u8 191, .int .u8 128, .int .u8 143, .int .u8 0, .int .u8 0, .int .u8 0, .int .u8 0, .int .u8 0, .int .u8 0, .int .u8 0, .int .u8 0, .int .u8 0, .int .u8 0, .int .u8 0, .int .u8 0, .int .u8 0, .int .u8 0, .int .u8 0, .int .u8 0, .int .u8 0, .int .u8 0, .int .u8 0, .int .u8 0, .int .u8 0, .int .u8 0]
def arr_laid_unicode_utf8_first : Array Value := (litsOf Go.Pinned.utf8First).toArray
noncomputable def laidWorld (os : Os) : World :=
  { World.holding Tryd.prog os ⟨#[], #[], []⟩ with heap := (((World.holding Tryd.prog os ⟨#[], #[], []⟩).heap.modify 3 (layRow arr_laid_unicode_utf8_acceptRanges)).modify 2 (layRow arr_laid_unicode_utf8_first)) }
end Go.Proofs.YteamnofooicbeaaDoor
