/-
  DERIVED: THE SHELF's CONTRACTS AT THIS DUMP, IN PLAIN WORDS (tools/lay-plain.mjs out of 'YtjokheeegcilhaaDoorShelf.lean', which tools/lay-shelf.mjs wrote): THE SAME DECLARATIONS UNDER THE SAME NAMES: 'import', 'namespace', 'open', 'def', 'theorem' AND NOTHING ELSE: no command of the shelf's: FOR A HAND-IN. Each laying: the table of numbers ('.._ren') and one theorem, a field a fact of the dump's own or the kernel's comparison; each contract: ONE APPLICATION.
-/
import Derived.Shelf.SlSortCmp.Whole1
import Derived.Ground.SlsfProg
import Derived.Shelf.SlGeneric
import Derived.Test.YtjokheeegcilhaaDoorProg
namespace Go.Proofs
open Go.Shelf
def Tryd.sortF_ren : Go.Shelf.Ren := ⟨fun | 6 => 96 | 15 => 111 | 14 => 110 | 28 => 127 | 29 => 128 | 20 => 119 | 21 => 120 | 22 => 121 | 23 => 122 | 24 => 123 | 25 => 124 | 26 => 125 | 27 => 126 | 46 => 139 | 47 => 140 | 48 => 141 | 49 => 142 | 50 => 143 | 57 => 147 | n => n, fun | 22 => 23 | 24 => 3 | 25 => 101 | 3 => 3 | 39 => 116 | 0 => 0 | 53 => 118 | 55 => 132 | 4 => 4 | 46 => 125 | 45 => 124 | 50 => 112 | 5 => 5 | 9 => 9 | 66 => 142 | 70 => 146 | 76 => 150 | 77 => 151 | n => n, fun | n => n⟩
theorem Tryd.sortF : Go.Proofs.SlLaysF.n6 Tryd.prog Tryd.sortF_ren := {
  mixed := by kernel_rfl
  f6 := ⟨Tryd.f96.name, by decide, Tryd.func96.trans (congrArg some (by kernel_rfl))⟩
  f14 := ⟨Tryd.f110.name, by decide, Tryd.func110.trans (congrArg some (by kernel_rfl))⟩
  f15 := Tryd.func111.trans (congrArg some (by kernel_rfl))
  f20 := ⟨Tryd.f119.name, by decide, Tryd.func119.trans (congrArg some (by kernel_rfl))⟩
  f21 := ⟨Tryd.f120.name, by decide, Tryd.func120.trans (congrArg some (by kernel_rfl))⟩
  f22 := ⟨Tryd.f121.name, by decide, Tryd.func121.trans (congrArg some (by kernel_rfl))⟩
  f23 := ⟨Tryd.f122.name, by decide, Tryd.func122.trans (congrArg some (by kernel_rfl))⟩
  f24 := ⟨Tryd.f123.name, by decide, Tryd.func123.trans (congrArg some (by kernel_rfl))⟩
  f25 := ⟨Tryd.f124.name, by decide, Tryd.func124.trans (congrArg some (by kernel_rfl))⟩
  f26 := ⟨Tryd.f125.name, by decide, Tryd.func125.trans (congrArg some (by kernel_rfl))⟩
  f27 := ⟨Tryd.f126.name, by decide, Tryd.func126.trans (congrArg some (by kernel_rfl))⟩
  f28 := Tryd.func127.trans (congrArg some (by kernel_rfl))
  f29 := Tryd.func128.trans (congrArg some (by kernel_rfl))
  f46 := ⟨Tryd.f139.name, by decide, Tryd.func139.trans (congrArg some (by kernel_rfl))⟩
  f47 := Tryd.func140.trans (congrArg some (by kernel_rfl))
  f48 := Tryd.func141.trans (congrArg some (by kernel_rfl))
  f49 := ⟨Tryd.f142.name, by decide, Tryd.func142.trans (congrArg some (by kernel_rfl))⟩
  f50 := ⟨Tryd.f143.name, by decide, Tryd.func143.trans (congrArg some (by kernel_rfl))⟩
  f57 := ⟨Tryd.f147.name, by decide, Tryd.func147.trans (congrArg some (by kernel_rfl))⟩
  t0 := Tryd.underlying0
  a0 := Tryd.isAgg0
  z0 := Tryd.sizeOf0
  v0 := Tryd.zeroValue0
  t3 := Tryd.underlying3
  a3 := Tryd.isAgg3
  z3 := Tryd.sizeOf3
  v3 := Tryd.zeroValue3
  t4 := Tryd.underlying4
  a4 := Tryd.isAgg4
  z4 := Tryd.sizeOf4
  v4 := Tryd.zeroValue4
  t5 := Tryd.underlying5
  a5 := Tryd.isAgg5
  z5 := Tryd.sizeOf5
  v5 := Tryd.zeroValue5
  t9 := Tryd.underlying9
  a9 := Tryd.isAgg9
  z9 := Tryd.sizeOf9
  v9 := Tryd.zeroValue9
  t22 := Tryd.underlying23
  a22 := Tryd.isAgg23
  z22 := Tryd.sizeOf23
  v22 := Tryd.zeroValue23
  a24 := Tryd.isAgg3
  z24 := Tryd.sizeOf3
  t25 := Tryd.underlying101
  a25 := Tryd.isAgg101
  z25 := Tryd.sizeOf101
  v25 := Tryd.zeroValue101
  t39 := Tryd.underlying116
  a39 := Tryd.isAgg116
  z39 := Tryd.sizeOf116
  v39 := Tryd.zeroValue116
  t45 := Tryd.underlying124
  a45 := Tryd.isAgg124
  z45 := Tryd.sizeOf124
  v45 := Tryd.zeroValue124
  t46 := Tryd.underlying125
  a46 := Tryd.isAgg125
  z46 := Tryd.sizeOf125
  v46 := Tryd.zeroValue125
  t50 := Tryd.underlying112
  a50 := Tryd.isAgg112
  z50 := Tryd.sizeOf112
  v50 := Tryd.zeroValue112
  t53 := Tryd.underlying118
  a53 := Tryd.isAgg118
  z53 := Tryd.sizeOf118
  v53 := Tryd.zeroValue118
  t55 := Tryd.underlying132
  a55 := Tryd.isAgg132
  z55 := Tryd.sizeOf132
  v55 := Tryd.zeroValue132
  t66 := Tryd.underlying142
  a66 := Tryd.isAgg142
  z66 := Tryd.sizeOf142
  v66 := Tryd.zeroValue142
  t70 := Tryd.underlying146
  a70 := Tryd.isAgg146
  z70 := Tryd.sizeOf146
  v70 := Tryd.zeroValue146
  t76 := Tryd.underlying150
  a76 := Tryd.isAgg150
  z76 := Tryd.sizeOf150
  v76 := Tryd.zeroValue150
  t77 := Tryd.underlying151
  a77 := Tryd.isAgg151
  z77 := Tryd.sizeOf151
  v77 := Tryd.zeroValue151 }
end Go.Proofs
