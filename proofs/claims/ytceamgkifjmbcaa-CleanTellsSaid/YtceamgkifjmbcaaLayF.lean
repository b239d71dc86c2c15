/-
  DERIVED: THE SHELF's CONTRACTS AT THIS DUMP, IN PLAIN WORDS (tools/lay-plain.mjs out of 'YtceamgkifjmbcaaLay0.lean', which tools/lay-shelf.mjs wrote): THE SAME DECLARATIONS UNDER THE SAME NAMES: 'import', 'namespace', 'open', 'def', 'theorem' AND NOTHING ELSE: no command of the shelf's: FOR A HAND-IN. Each laying: the table of numbers ('.._ren') and one theorem, a field a fact of the dump's own or the kernel's comparison; each contract: ONE APPLICATION.
-/
import Derived.Shelf.SlGeneric
import Derived.Shelf.SlSortCmp.WholeK
import Derived.Ground.SlsfProg
import Derived.Test.YtceamgkifjmbcaaProg
namespace Go.Proofs
open Go.Shelf
def Try.sortf59_ren : Go.Shelf.Ren := ⟨fun | 6 => 59 | 15 => 73 | 14 => 75 | 28 => 86 | 29 => 87 | 20 => 88 | 21 => 89 | 22 => 90 | 23 => 91 | 24 => 92 | 25 => 93 | 26 => 94 | 27 => 95 | 46 => 102 | 47 => 97 | 48 => 98 | 49 => 103 | 50 => 104 | 57 => 106 | n => n, fun | 22 => 73 | 24 => 70 | 25 => 80 | 3 => 3 | 39 => 110 | 0 => 0 | 53 => 124 | 55 => 126 | 4 => 4 | 46 => 116 | 45 => 115 | 50 => 121 | 5 => 5 | 9 => 9 | 66 => 132 | 70 => 136 | 76 => 140 | 77 => 88 | n => n, fun | n => n⟩
theorem Try.sortf59 : Go.Proofs.SlLaysF0.n6 Try.prog Try.sortf59_ren := {
  mixed := by kernel_rfl
  f6 := ⟨Try.f59.name, by decide, Try.func59.trans (congrArg some (by kernel_rfl))⟩
  f14 := ⟨Try.f75.name, by decide, Try.func75.trans (congrArg some (by kernel_rfl))⟩
  f15 := Try.func73.trans (congrArg some (by kernel_rfl))
  f20 := ⟨Try.f88.name, by decide, Try.func88.trans (congrArg some (by kernel_rfl))⟩
  f21 := ⟨Try.f89.name, by decide, Try.func89.trans (congrArg some (by kernel_rfl))⟩
  f22 := ⟨Try.f90.name, by decide, Try.func90.trans (congrArg some (by kernel_rfl))⟩
  f23 := ⟨Try.f91.name, by decide, Try.func91.trans (congrArg some (by kernel_rfl))⟩
  f24 := ⟨Try.f92.name, by decide, Try.func92.trans (congrArg some (by kernel_rfl))⟩
  f25 := ⟨Try.f93.name, by decide, Try.func93.trans (congrArg some (by kernel_rfl))⟩
  f26 := ⟨Try.f94.name, by decide, Try.func94.trans (congrArg some (by kernel_rfl))⟩
  f27 := ⟨Try.f95.name, by decide, Try.func95.trans (congrArg some (by kernel_rfl))⟩
  f28 := Try.func86.trans (congrArg some (by kernel_rfl))
  f29 := Try.func87.trans (congrArg some (by kernel_rfl))
  f46 := ⟨Try.f102.name, by decide, Try.func102.trans (congrArg some (by kernel_rfl))⟩
  f47 := Try.func97.trans (congrArg some (by kernel_rfl))
  f48 := Try.func98.trans (congrArg some (by kernel_rfl))
  f49 := ⟨Try.f103.name, by decide, Try.func103.trans (congrArg some (by kernel_rfl))⟩
  f50 := ⟨Try.f104.name, by decide, Try.func104.trans (congrArg some (by kernel_rfl))⟩
  f57 := ⟨Try.f106.name, by decide, Try.func106.trans (congrArg some (by kernel_rfl))⟩
  t0 := Try.underlying0
  a0 := Try.isAgg0
  z0 := Try.sizeOf0
  v0 := Try.zeroValue0
  t3 := Try.underlying3
  a3 := Try.isAgg3
  z3 := Try.sizeOf3
  v3 := Try.zeroValue3
  t4 := Try.underlying4
  a4 := Try.isAgg4
  z4 := Try.sizeOf4
  v4 := Try.zeroValue4
  t5 := Try.underlying5
  a5 := Try.isAgg5
  z5 := Try.sizeOf5
  v5 := Try.zeroValue5
  t9 := Try.underlying9
  a9 := Try.isAgg9
  z9 := Try.sizeOf9
  v9 := Try.zeroValue9
  t22 := Try.underlying73
  a22 := Try.isAgg73
  z22 := Try.sizeOf73
  v22 := Try.zeroValue73
  t25 := Try.underlying80
  a25 := Try.isAgg80
  z25 := Try.sizeOf80
  v25 := Try.zeroValue80
  t39 := Try.underlying110
  a39 := Try.isAgg110
  z39 := Try.sizeOf110
  v39 := Try.zeroValue110
  t45 := Try.underlying115
  a45 := Try.isAgg115
  z45 := Try.sizeOf115
  v45 := Try.zeroValue115
  t46 := Try.underlying116
  a46 := Try.isAgg116
  z46 := Try.sizeOf116
  v46 := Try.zeroValue116
  t50 := Try.underlying121
  a50 := Try.isAgg121
  z50 := Try.sizeOf121
  v50 := Try.zeroValue121
  t53 := Try.underlying124
  a53 := Try.isAgg124
  z53 := Try.sizeOf124
  v53 := Try.zeroValue124
  t55 := Try.underlying126
  a55 := Try.isAgg126
  z55 := Try.sizeOf126
  v55 := Try.zeroValue126
  t66 := Try.underlying132
  a66 := Try.isAgg132
  z66 := Try.sizeOf132
  v66 := Try.zeroValue132
  t70 := Try.underlying136
  a70 := Try.isAgg136
  z70 := Try.sizeOf136
  v70 := Try.zeroValue136
  t76 := Try.underlying140
  a76 := Try.isAgg140
  z76 := Try.sizeOf140
  v76 := Try.zeroValue140
  t77 := Try.underlying88
  a77 := Try.isAgg88
  z77 := Try.sizeOf88
  v77 := Try.zeroValue88 }
end Go.Proofs
