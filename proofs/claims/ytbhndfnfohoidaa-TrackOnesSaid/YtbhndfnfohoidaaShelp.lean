/-
  DERIVED: THE SHELF's CONTRACTS AT THIS DUMP, IN PLAIN WORDS (tools/lay-plain.mjs out of 'YtbhndfnfohoidaaShelf.lean', which tools/lay-shelf.mjs wrote): THE SAME DECLARATIONS UNDER THE SAME NAMES: 'import', 'namespace', 'open', 'def', 'theorem' AND NOTHING ELSE: no command of the shelf's: FOR A HAND-IN. Each laying: the table of numbers ('.._ren') and one theorem, a field a fact of the dump's own or the kernel's comparison; each contract: ONE APPLICATION.
-/
import Derived.Shelf.SlSortCmp.WholeK
import Derived.Ground.SlsfProg
import Derived.Test.YtbhndfnfohoidaaProg
namespace Go.Proofs
open Go.Shelf
def Try.sortR_ren : Go.Shelf.Ren := ⟨fun | 6 => 84 | 15 => 100 | 14 => 99 | 28 => 113 | 29 => 114 | 20 => 105 | 21 => 106 | 22 => 107 | 23 => 108 | 24 => 109 | 25 => 110 | 26 => 111 | 27 => 112 | 46 => 115 | 47 => 116 | 48 => 117 | 49 => 118 | 50 => 119 | 57 => 120 | n => n, fun | 22 => 38 | 24 => 27 | 25 => 99 | 3 => 3 | 39 => 116 | 0 => 0 | 53 => 127 | 55 => 129 | 4 => 4 | 46 => 121 | 45 => 120 | 50 => 100 | 5 => 5 | 9 => 9 | 66 => 130 | 70 => 134 | 76 => 136 | 77 => 79 | n => n, fun | n => n⟩
theorem Try.sortR : Go.Proofs.SlLaysF0.n6 Try.prog Try.sortR_ren := {
  mixed := by kernel_rfl
  f6 := ⟨Try.f84.name, by decide, Try.func84.trans (congrArg some (by kernel_rfl))⟩
  f14 := ⟨Try.f99.name, by decide, Try.func99.trans (congrArg some (by kernel_rfl))⟩
  f15 := Try.func100.trans (congrArg some (by kernel_rfl))
  f20 := ⟨Try.f105.name, by decide, Try.func105.trans (congrArg some (by kernel_rfl))⟩
  f21 := ⟨Try.f106.name, by decide, Try.func106.trans (congrArg some (by kernel_rfl))⟩
  f22 := ⟨Try.f107.name, by decide, Try.func107.trans (congrArg some (by kernel_rfl))⟩
  f23 := ⟨Try.f108.name, by decide, Try.func108.trans (congrArg some (by kernel_rfl))⟩
  f24 := ⟨Try.f109.name, by decide, Try.func109.trans (congrArg some (by kernel_rfl))⟩
  f25 := ⟨Try.f110.name, by decide, Try.func110.trans (congrArg some (by kernel_rfl))⟩
  f26 := ⟨Try.f111.name, by decide, Try.func111.trans (congrArg some (by kernel_rfl))⟩
  f27 := ⟨Try.f112.name, by decide, Try.func112.trans (congrArg some (by kernel_rfl))⟩
  f28 := Try.func113.trans (congrArg some (by kernel_rfl))
  f29 := Try.func114.trans (congrArg some (by kernel_rfl))
  f46 := ⟨Try.f115.name, by decide, Try.func115.trans (congrArg some (by kernel_rfl))⟩
  f47 := Try.func116.trans (congrArg some (by kernel_rfl))
  f48 := Try.func117.trans (congrArg some (by kernel_rfl))
  f49 := ⟨Try.f118.name, by decide, Try.func118.trans (congrArg some (by kernel_rfl))⟩
  f50 := ⟨Try.f119.name, by decide, Try.func119.trans (congrArg some (by kernel_rfl))⟩
  f57 := ⟨Try.f120.name, by decide, Try.func120.trans (congrArg some (by kernel_rfl))⟩
  t0 := Try.underlying0
  a0 := Try.isAgg0
  z0 := Try.sizeOf0
  v0 := Try.zeroValue0
  t3 := Try.underlying3
  a3 := Try.isAgg3
  z3 := Try.sizeOf3
  v3 := Try.zeroValue3
  t4 := Try.underlying4
  a4 := Try.isAgg4
  z4 := Try.sizeOf4
  v4 := Try.zeroValue4
  t5 := Try.underlying5
  a5 := Try.isAgg5
  z5 := Try.sizeOf5
  v5 := Try.zeroValue5
  t9 := Try.underlying9
  a9 := Try.isAgg9
  z9 := Try.sizeOf9
  v9 := Try.zeroValue9
  t22 := Try.underlying38
  a22 := Try.isAgg38
  z22 := Try.sizeOf38
  v22 := Try.zeroValue38
  t25 := Try.underlying99
  a25 := Try.isAgg99
  z25 := Try.sizeOf99
  v25 := Try.zeroValue99
  t39 := Try.underlying116
  a39 := Try.isAgg116
  z39 := Try.sizeOf116
  v39 := Try.zeroValue116
  t45 := Try.underlying120
  a45 := Try.isAgg120
  z45 := Try.sizeOf120
  v45 := Try.zeroValue120
  t46 := Try.underlying121
  a46 := Try.isAgg121
  z46 := Try.sizeOf121
  v46 := Try.zeroValue121
  t50 := Try.underlying100
  a50 := Try.isAgg100
  z50 := Try.sizeOf100
  v50 := Try.zeroValue100
  t53 := Try.underlying127
  a53 := Try.isAgg127
  z53 := Try.sizeOf127
  v53 := Try.zeroValue127
  t55 := Try.underlying129
  a55 := Try.isAgg129
  z55 := Try.sizeOf129
  v55 := Try.zeroValue129
  t66 := Try.underlying130
  a66 := Try.isAgg130
  z66 := Try.sizeOf130
  v66 := Try.zeroValue130
  t70 := Try.underlying134
  a70 := Try.isAgg134
  z70 := Try.sizeOf134
  v70 := Try.zeroValue134
  t76 := Try.underlying136
  a76 := Try.isAgg136
  z76 := Try.sizeOf136
  v76 := Try.zeroValue136
  t77 := Try.underlying79
  a77 := Try.isAgg79
  z77 := Try.sizeOf79
  v77 := Try.zeroValue79 }
end Go.Proofs
