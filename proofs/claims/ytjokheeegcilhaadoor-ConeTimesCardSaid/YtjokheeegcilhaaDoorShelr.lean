/-
  DERIVED: THE SHELF's CONTRACTS AT THIS DUMP, IN PLAIN WORDS (tools/lay-plain.mjs out of 'YtjokheeegcilhaaDoorShelf.lean', which tools/lay-shelf.mjs wrote): THE SAME DECLARATIONS UNDER THE SAME NAMES: 'import', 'namespace', 'open', 'def', 'theorem' AND NOTHING ELSE: no command of the shelf's: FOR A HAND-IN. Each laying: the table of numbers ('.._ren') and one theorem, a field a fact of the dump's own or the kernel's comparison; each contract: ONE APPLICATION.
-/
import Derived.Shelf.SortM.Plain
import Derived.Shelf.SortM.SortNone
import Derived.Ground.SlgmProg
import Derived.Shelf.Slices.SearchI
import Derived.Ground.Names2Prog
import Derived.Shelf.SlGeneric
import Derived.Test.YtjokheeegcilhaaDoorProg
namespace Go.Proofs
open Go.Shelf
def Tryd.sort5_ren : Go.Shelf.Ren := ⟨fun | 5 => 108 | 8 => 111 | 7 => 116 | 19 => 127 | 20 => 128 | 10 => 131 | 11 => 132 | 12 => 133 | 13 => 134 | 14 => 135 | 15 => 136 | 16 => 117 | 17 => 137 | 18 => 138 | 30 => 144 | 31 => 140 | 32 => 141 | 33 => 145 | 34 => 146 | 35 => 112 | 40 => 148 | n => n, fun | 23 => 23 | 25 => 3 | 3 => 3 | 32 => 116 | 22 => 23 | 0 => 0 | 44 => 118 | 46 => 132 | 4 => 4 | 36 => 125 | 35 => 124 | 41 => 112 | 5 => 5 | 9 => 9 | 53 => 142 | 57 => 146 | 63 => 150 | 64 => 151 | n => n, fun | n => n⟩
theorem Tryd.sort5 : Go.Proofs.SlLaysM.n5 Tryd.prog Tryd.sort5_ren := {
  mixed := by kernel_rfl
  f5 := ⟨Tryd.f108.name, by decide, Tryd.func108.trans (congrArg some (by kernel_rfl))⟩
  f7 := ⟨Tryd.f116.name, by decide, Tryd.func116.trans (congrArg some (by kernel_rfl))⟩
  f8 := Tryd.func111.trans (congrArg some (by kernel_rfl))
  f10 := ⟨Tryd.f131.name, by decide, Tryd.func131.trans (congrArg some (by kernel_rfl))⟩
  f11 := ⟨Tryd.f132.name, by decide, Tryd.func132.trans (congrArg some (by kernel_rfl))⟩
  f12 := ⟨Tryd.f133.name, by decide, Tryd.func133.trans (congrArg some (by kernel_rfl))⟩
  f13 := ⟨Tryd.f134.name, by decide, Tryd.func134.trans (congrArg some (by kernel_rfl))⟩
  f14 := ⟨Tryd.f135.name, by decide, Tryd.func135.trans (congrArg some (by kernel_rfl))⟩
  f15 := ⟨Tryd.f136.name, by decide, Tryd.func136.trans (congrArg some (by kernel_rfl))⟩
  f16 := ⟨Tryd.f117.name, by decide, Tryd.func117.trans (congrArg some (by kernel_rfl))⟩
  f17 := ⟨Tryd.f137.name, by decide, Tryd.func137.trans (congrArg some (by kernel_rfl))⟩
  f18 := ⟨Tryd.f138.name, by decide, Tryd.func138.trans (congrArg some (by kernel_rfl))⟩
  f19 := Tryd.func127.trans (congrArg some (by kernel_rfl))
  f20 := Tryd.func128.trans (congrArg some (by kernel_rfl))
  f30 := ⟨Tryd.f144.name, by decide, Tryd.func144.trans (congrArg some (by kernel_rfl))⟩
  f31 := Tryd.func140.trans (congrArg some (by kernel_rfl))
  f32 := Tryd.func141.trans (congrArg some (by kernel_rfl))
  f33 := ⟨Tryd.f145.name, by decide, Tryd.func145.trans (congrArg some (by kernel_rfl))⟩
  f34 := ⟨Tryd.f146.name, by decide, Tryd.func146.trans (congrArg some (by kernel_rfl))⟩
  f35 := ⟨Tryd.f112.name, by decide, Tryd.func112.trans (congrArg some (by kernel_rfl))⟩
  f40 := ⟨Tryd.f148.name, by decide, Tryd.func148.trans (congrArg some (by kernel_rfl))⟩
  t0 := Tryd.underlying0
  a0 := Tryd.isAgg0
  z0 := Tryd.sizeOf0
  v0 := Tryd.zeroValue0
  t3 := Tryd.underlying3
  a3 := Tryd.isAgg3
  z3 := Tryd.sizeOf3
  v3 := Tryd.zeroValue3
  t4 := Tryd.underlying4
  a4 := Tryd.isAgg4
  z4 := Tryd.sizeOf4
  v4 := Tryd.zeroValue4
  t5 := Tryd.underlying5
  a5 := Tryd.isAgg5
  z5 := Tryd.sizeOf5
  v5 := Tryd.zeroValue5
  t9 := Tryd.underlying9
  a9 := Tryd.isAgg9
  z9 := Tryd.sizeOf9
  v9 := Tryd.zeroValue9
  t22 := Tryd.underlying23
  a22 := Tryd.isAgg23
  z22 := Tryd.sizeOf23
  v22 := Tryd.zeroValue23
  t23 := Tryd.underlying23
  a23 := Tryd.isAgg23
  z23 := Tryd.sizeOf23
  v23 := Tryd.zeroValue23
  t25 := Tryd.underlying3
  a25 := Tryd.isAgg3
  z25 := Tryd.sizeOf3
  v25 := Tryd.zeroValue3
  t32 := Tryd.underlying116
  a32 := Tryd.isAgg116
  z32 := Tryd.sizeOf116
  v32 := Tryd.zeroValue116
  t35 := Tryd.underlying124
  a35 := Tryd.isAgg124
  z35 := Tryd.sizeOf124
  v35 := Tryd.zeroValue124
  t36 := Tryd.underlying125
  a36 := Tryd.isAgg125
  z36 := Tryd.sizeOf125
  v36 := Tryd.zeroValue125
  t41 := Tryd.underlying112
  a41 := Tryd.isAgg112
  z41 := Tryd.sizeOf112
  v41 := Tryd.zeroValue112
  t44 := Tryd.underlying118
  a44 := Tryd.isAgg118
  z44 := Tryd.sizeOf118
  v44 := Tryd.zeroValue118
  t46 := Tryd.underlying132
  a46 := Tryd.isAgg132
  z46 := Tryd.sizeOf132
  v46 := Tryd.zeroValue132
  t53 := Tryd.underlying142
  a53 := Tryd.isAgg142
  z53 := Tryd.sizeOf142
  v53 := Tryd.zeroValue142
  t57 := Tryd.underlying146
  a57 := Tryd.isAgg146
  z57 := Tryd.sizeOf146
  v57 := Tryd.zeroValue146
  t63 := Tryd.underlying150
  a63 := Tryd.isAgg150
  z63 := Tryd.sizeOf150
  v63 := Tryd.zeroValue150
  t64 := Tryd.underlying151
  a64 := Tryd.isAgg151
  z64 := Tryd.sizeOf151
  v64 := Tryd.zeroValue151 }
def Tryd.lays25_ren : Go.Shelf.Ren := ⟨fun | 25 => 109 | 31 => 117 | 32 => 118 | 37 => 112 | n => n, fun | 22 => 23 | 3 => 3 | 4 => 4 | 40 => 116 | 0 => 0 | n => n, fun | n => n⟩
theorem Tryd.lays25 : Go.Proofs.Lays2.n25 Tryd.prog Tryd.lays25_ren := {
  mixed := by kernel_rfl
  f25 := Tryd.func109.trans (congrArg some (by kernel_rfl))
  f31 := Tryd.func117.trans (congrArg some (by kernel_rfl))
  f32 := Tryd.func118.trans (congrArg some (by kernel_rfl))
  f37 := Tryd.func112.trans (congrArg some (by kernel_rfl))
  t0 := Tryd.underlying0
  a0 := Tryd.isAgg0
  z0 := Tryd.sizeOf0
  v0 := Tryd.zeroValue0
  t3 := Tryd.underlying3
  a3 := Tryd.isAgg3
  z3 := Tryd.sizeOf3
  v3 := Tryd.zeroValue3
  t4 := Tryd.underlying4
  a4 := Tryd.isAgg4
  z4 := Tryd.sizeOf4
  v4 := Tryd.zeroValue4
  t22 := Tryd.underlying23
  a22 := Tryd.isAgg23
  z22 := Tryd.sizeOf23
  v22 := Tryd.zeroValue23
  t40 := Tryd.underlying116
  a40 := Tryd.isAgg116
  z40 := Tryd.sizeOf116
  v40 := Tryd.zeroValue116 }
end Go.Proofs
