/-
  DERIVED: THE SHELF's CONTRACTS AT THIS DUMP, IN PLAIN WORDS (tools/lay-plain.mjs out of 'YtehdemcfeoiecaaDoorShelf.lean', which tools/lay-shelf.mjs wrote): THE SAME DECLARATIONS UNDER THE SAME NAMES: 'import', 'namespace', 'open', 'def', 'theorem' AND NOTHING ELSE: no command of the shelf's: FOR A HAND-IN. Each laying: the table of numbers ('.._ren') and one theorem, a field a fact of the dump's own or the kernel's comparison; each contract: ONE APPLICATION.
-/
import Derived.Shelf.Strings.Search3
import Derived.Ground.NamesProg
import Derived.Shelf.SlGeneric
import Derived.Test.YtehdemcfeoiecaaDoorProg
namespace Go.Proofs
open Go.Shelf
def Tryd.idx94_ren : Go.Shelf.Ren := ⟨fun | 143 => 94 | 219 => 125 | 217 => 142 | 225 => 143 | 224 => 144 | 267 => 145 | 266 => 166 | 314 => 167 | n => n, fun | 9 => 9 | 3 => 3 | 4 => 4 | 5 => 5 | 46 => 85 | 146 => 175 | 51 => 113 | n => n, fun | 1 => 2 | n => n⟩
theorem Tryd.idx94 : Go.Proofs.Lays.n143 Tryd.prog Tryd.idx94_ren := {
  mixed := by kernel_rfl
  f143 := Tryd.func94.trans (congrArg some (by kernel_rfl))
  f217 := Tryd.func142.trans (congrArg some (by kernel_rfl))
  f219 := Tryd.func125.trans (congrArg some (by kernel_rfl))
  f224 := Tryd.func144.trans (congrArg some (by kernel_rfl))
  f225 := Tryd.func143.trans (congrArg some (by kernel_rfl))
  f266 := Tryd.func166.trans (congrArg some (by kernel_rfl))
  f267 := Tryd.func145.trans (congrArg some (by kernel_rfl))
  f314 := Tryd.func167.trans (congrArg some (by kernel_rfl))
  t3 := Tryd.underlying3
  a3 := Tryd.isAgg3
  z3 := Tryd.sizeOf3
  v3 := Tryd.zeroValue3
  t4 := Tryd.underlying4
  a4 := Tryd.isAgg4
  z4 := Tryd.sizeOf4
  v4 := Tryd.zeroValue4
  t5 := Tryd.underlying5
  a5 := Tryd.isAgg5
  z5 := Tryd.sizeOf5
  v5 := Tryd.zeroValue5
  t9 := Tryd.underlying9
  a9 := Tryd.isAgg9
  z9 := Tryd.sizeOf9
  v9 := Tryd.zeroValue9
  t46 := Tryd.underlying85
  a46 := Tryd.isAgg85
  z46 := Tryd.sizeOf85
  v46 := Tryd.zeroValue85
  t51 := Tryd.underlying113
  a51 := Tryd.isAgg113
  z51 := Tryd.sizeOf113
  v51 := Tryd.zeroValue113
  t146 := Tryd.underlying175
  a146 := Tryd.isAgg175
  z146 := Tryd.sizeOf175
  v146 := Tryd.zeroValue175
  g1 := by kernel_rfl }
end Go.Proofs
