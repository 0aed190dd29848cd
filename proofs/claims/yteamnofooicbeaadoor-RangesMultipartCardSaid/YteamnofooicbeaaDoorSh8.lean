/-
  DERIVED: THE SHELF's CONTRACTS AT THIS DUMP, IN PLAIN WORDS (tools/lay-plain.mjs out of 'TrydBc.lean', which tools/lay-shelf.mjs wrote): THE SAME DECLARATIONS UNDER THE SAME NAMES: 'import', 'namespace', 'open', 'def', 'theorem' AND NOTHING ELSE: no command of the shelf's: FOR A HAND-IN. Each laying: the table of numbers ('.._ren') and one theorem, a field a fact of the dump's own or the kernel's comparison; each contract: ONE APPLICATION.
-/
import Derived.Shelf.Bytes.SlIndexWhole
import Derived.Test.YteamnofooicbeaaDoorProg
namespace Go.Proofs
open Go.Shelf
def Tryd.lays186_ren : Go.Shelf.Ren := ⟨fun | 186 => 70 | 185 => 87 | 187 => 113 | 115 => 114 | 253 => 115 | 224 => 116 | 254 => 117 | 255 => 137 | 291 => 138 | n => n, fun | 37 => 60 | 4 => 4 | 3 => 3 | 0 => 0 | 5 => 5 | 46 => 139 | 9 => 9 | 146 => 182 | 51 => 160 | n => n, fun | 1 => 0 | n => n⟩
theorem Tryd.lays186 : Go.Proofs.Lays.n186 Tryd.prog Tryd.lays186_ren := {
  mixed := by kernel_rfl
  f115 := Tryd.func114.trans (congrArg some (by kernel_rfl))
  f185 := Tryd.func87.trans (congrArg some (by kernel_rfl))
  f186 := Tryd.func70.trans (congrArg some (by kernel_rfl))
  f187 := Tryd.func113.trans (congrArg some (by kernel_rfl))
  f224 := Tryd.func116.trans (congrArg some (by kernel_rfl))
  f253 := Tryd.func115.trans (congrArg some (by kernel_rfl))
  f254 := Tryd.func117.trans (congrArg some (by kernel_rfl))
  f255 := Tryd.func137.trans (congrArg some (by kernel_rfl))
  f291 := Tryd.func138.trans (congrArg some (by kernel_rfl))
  t0 := Tryd.underlying0
  a0 := Tryd.isAgg0
  z0 := Tryd.sizeOf0
  v0 := Tryd.zeroValue0
  t3 := Tryd.underlying3
  a3 := Tryd.isAgg3
  z3 := Tryd.sizeOf3
  v3 := Tryd.zeroValue3
  t4 := Tryd.underlying4
  a4 := Tryd.isAgg4
  z4 := Tryd.sizeOf4
  v4 := Tryd.zeroValue4
  t5 := Tryd.underlying5
  a5 := Tryd.isAgg5
  z5 := Tryd.sizeOf5
  v5 := Tryd.zeroValue5
  t9 := Tryd.underlying9
  a9 := Tryd.isAgg9
  z9 := Tryd.sizeOf9
  v9 := Tryd.zeroValue9
  t37 := Tryd.underlying60
  a37 := Tryd.isAgg60
  z37 := Tryd.sizeOf60
  v37 := Tryd.zeroValue60
  t46 := Tryd.underlying139
  a46 := Tryd.isAgg139
  z46 := Tryd.sizeOf139
  v46 := Tryd.zeroValue139
  t51 := Tryd.underlying160
  a51 := Tryd.isAgg160
  z51 := Tryd.sizeOf160
  v51 := Tryd.zeroValue160
  t146 := Tryd.underlying182
  a146 := Tryd.isAgg182
  z146 := Tryd.sizeOf182
  v146 := Tryd.zeroValue182
  g1 := by kernel_rfl }
end Go.Proofs
