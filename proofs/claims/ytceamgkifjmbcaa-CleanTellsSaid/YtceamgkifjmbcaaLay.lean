/-
  DERIVED: THE SHELF's CONTRACTS AT THIS DUMP, IN PLAIN WORDS (tools/lay-plain.mjs out of 'YtceamgkifjmbcaaLay0.lean', which tools/lay-shelf.mjs wrote): THE SAME DECLARATIONS UNDER THE SAME NAMES: 'import', 'namespace', 'open', 'def', 'theorem' AND NOTHING ELSE: no command of the shelf's: FOR A HAND-IN. Each laying: the table of numbers ('.._ren') and one theorem, a field a fact of the dump's own or the kernel's comparison; each contract: ONE APPLICATION.
-/
import Derived.Shelf.SlGeneric
import Derived.Shelf.SlIter.Nil
import Derived.Shelf.SortM.Plain
import Derived.Shelf.SortM.SortNone
import Derived.Ground.GgzProg
import Derived.Ground.SlgmProg
import Derived.Test.YtceamgkifjmbcaaProg
namespace Go.Proofs
open Go.Shelf
def Try.keys35_ren : Go.Shelf.Ren := ⟨fun | 7 => 35 | 10 => 57 | n => n, fun | 23 => 68 | 26 => 9 | 3 => 70 | 28 => 66 | 0 => 0 | 27 => 65 | 33 => 96 | 4 => 4 | n => n, fun | n => n⟩
theorem Try.keys35 : Go.Proofs.SlLaysZ.n7 Try.prog Try.keys35_ren := {
  mixed := by kernel_rfl
  f7 := ⟨Try.f35.name, by decide, Try.func35.trans (congrArg some (by kernel_rfl))⟩
  f10 := ⟨Try.f57.name, by decide, Try.func57.trans (congrArg some (by kernel_rfl))⟩
  t0 := Try.underlying0
  a0 := Try.isAgg0
  z0 := Try.sizeOf0
  v0 := Try.zeroValue0
  t4 := Try.underlying4
  a4 := Try.isAgg4
  z4 := Try.sizeOf4
  v4 := Try.zeroValue4
  t23 := Try.underlying68
  a23 := Try.isAgg68
  z23 := Try.sizeOf68
  v23 := Try.zeroValue68
  t26 := Try.underlying9
  a26 := Try.isAgg9
  z26 := Try.sizeOf9
  v26 := Try.zeroValue9
  t27 := Try.underlying65
  a27 := Try.isAgg65
  z27 := Try.sizeOf65
  v27 := Try.zeroValue65
  t28 := Try.underlying66
  a28 := Try.isAgg66
  z28 := Try.sizeOf66
  v28 := Try.zeroValue66
  t33 := Try.underlying96
  a33 := Try.isAgg96
  z33 := Try.sizeOf96
  v33 := Try.zeroValue96 }
def Try.sorted34_ren : Go.Shelf.Ren := ⟨fun | 6 => 34 | 8 => 55 | 9 => 56 | 11 => 71 | 13 => 73 | 12 => 72 | 23 => 86 | 24 => 87 | 14 => 77 | 15 => 78 | 16 => 79 | 17 => 80 | 18 => 81 | 19 => 82 | 20 => 83 | 21 => 84 | 22 => 85 | 25 => 96 | 26 => 97 | 27 => 98 | 28 => 99 | 29 => 100 | 30 => 101 | 31 => 105 | n => n, fun | 26 => 9 | 28 => 66 | 24 => 63 | 0 => 0 | 3 => 3 | 37 => 110 | 48 => 124 | 50 => 126 | 4 => 4 | 40 => 116 | 39 => 115 | 45 => 121 | 5 => 5 | 9 => 9 | 51 => 132 | 55 => 136 | 57 => 140 | 58 => 88 | 33 => 96 | n => n, fun | n => n⟩
theorem Try.sorted34 : Go.Proofs.SlLaysZ.n6 Try.prog Try.sorted34_ren := {
  mixed := by kernel_rfl
  f6 := ⟨Try.f34.name, by decide, Try.func34.trans (congrArg some (by kernel_rfl))⟩
  f8 := ⟨Try.f55.name, by decide, Try.func55.trans (congrArg some (by kernel_rfl))⟩
  f11 := ⟨Try.f71.name, by decide, Try.func71.trans (congrArg some (by kernel_rfl))⟩
  t0 := Try.underlying0
  a0 := Try.isAgg0
  z0 := Try.sizeOf0
  v0 := Try.zeroValue0
  t24 := Try.underlying63
  a24 := Try.isAgg63
  z24 := Try.sizeOf63
  v24 := Try.zeroValue63
  t26 := Try.underlying9
  a26 := Try.isAgg9
  z26 := Try.sizeOf9
  v26 := Try.zeroValue9
  t28 := Try.underlying66
  a28 := Try.isAgg66
  z28 := Try.sizeOf66
  v28 := Try.zeroValue66
  i26 := by kernel_rfl }
def Try.sort56_ren : Go.Shelf.Ren := ⟨fun | 6 => 56 | 8 => 73 | 9 => 72 | 19 => 86 | 20 => 87 | 21 => 77 | 22 => 78 | 23 => 79 | 24 => 80 | 25 => 81 | 26 => 82 | 27 => 83 | 28 => 84 | 29 => 85 | 36 => 96 | 31 => 97 | 32 => 98 | 37 => 99 | 38 => 100 | 39 => 101 | 41 => 105 | n => n, fun | 27 => 63 | 29 => 9 | 3 => 3 | 32 => 110 | 26 => 63 | 0 => 0 | 44 => 124 | 46 => 126 | 4 => 4 | 36 => 116 | 35 => 115 | 41 => 121 | 5 => 5 | 9 => 9 | 53 => 132 | 57 => 136 | 63 => 140 | 64 => 88 | n => n, fun | n => n⟩
theorem Try.sort56 : Go.Proofs.SlLaysM.n6 Try.prog Try.sort56_ren := {
  mixed := by kernel_rfl
  f6 := ⟨Try.f56.name, by decide, Try.func56.trans (congrArg some (by kernel_rfl))⟩
  f8 := Try.func73.trans (congrArg some (by kernel_rfl))
  f9 := ⟨Try.f72.name, by decide, Try.func72.trans (congrArg some (by kernel_rfl))⟩
  f19 := Try.func86.trans (congrArg some (by kernel_rfl))
  f20 := Try.func87.trans (congrArg some (by kernel_rfl))
  f21 := ⟨Try.f77.name, by decide, Try.func77.trans (congrArg some (by kernel_rfl))⟩
  f22 := ⟨Try.f78.name, by decide, Try.func78.trans (congrArg some (by kernel_rfl))⟩
  f23 := ⟨Try.f79.name, by decide, Try.func79.trans (congrArg some (by kernel_rfl))⟩
  f24 := ⟨Try.f80.name, by decide, Try.func80.trans (congrArg some (by kernel_rfl))⟩
  f25 := ⟨Try.f81.name, by decide, Try.func81.trans (congrArg some (by kernel_rfl))⟩
  f26 := ⟨Try.f82.name, by decide, Try.func82.trans (congrArg some (by kernel_rfl))⟩
  f27 := ⟨Try.f83.name, by decide, Try.func83.trans (congrArg some (by kernel_rfl))⟩
  f28 := ⟨Try.f84.name, by decide, Try.func84.trans (congrArg some (by kernel_rfl))⟩
  f29 := ⟨Try.f85.name, by decide, Try.func85.trans (congrArg some (by kernel_rfl))⟩
  f31 := Try.func97.trans (congrArg some (by kernel_rfl))
  f32 := Try.func98.trans (congrArg some (by kernel_rfl))
  f36 := ⟨Try.f96.name, by decide, Try.func96.trans (congrArg some (by kernel_rfl))⟩
  f37 := ⟨Try.f99.name, by decide, Try.func99.trans (congrArg some (by kernel_rfl))⟩
  f38 := ⟨Try.f100.name, by decide, Try.func100.trans (congrArg some (by kernel_rfl))⟩
  f39 := ⟨Try.f101.name, by decide, Try.func101.trans (congrArg some (by kernel_rfl))⟩
  f41 := ⟨Try.f105.name, by decide, Try.func105.trans (congrArg some (by kernel_rfl))⟩
  t0 := Try.underlying0
  a0 := Try.isAgg0
  z0 := Try.sizeOf0
  v0 := Try.zeroValue0
  t3 := Try.underlying3
  a3 := Try.isAgg3
  z3 := Try.sizeOf3
  v3 := Try.zeroValue3
  t4 := Try.underlying4
  a4 := Try.isAgg4
  z4 := Try.sizeOf4
  v4 := Try.zeroValue4
  t5 := Try.underlying5
  a5 := Try.isAgg5
  z5 := Try.sizeOf5
  v5 := Try.zeroValue5
  t9 := Try.underlying9
  a9 := Try.isAgg9
  z9 := Try.sizeOf9
  v9 := Try.zeroValue9
  t26 := Try.underlying63
  a26 := Try.isAgg63
  z26 := Try.sizeOf63
  v26 := Try.zeroValue63
  t27 := Try.underlying63
  a27 := Try.isAgg63
  z27 := Try.sizeOf63
  v27 := Try.zeroValue63
  t29 := Try.underlying9
  a29 := Try.isAgg9
  z29 := Try.sizeOf9
  v29 := Try.zeroValue9
  t32 := Try.underlying110
  a32 := Try.isAgg110
  z32 := Try.sizeOf110
  v32 := Try.zeroValue110
  t35 := Try.underlying115
  a35 := Try.isAgg115
  z35 := Try.sizeOf115
  v35 := Try.zeroValue115
  t36 := Try.underlying116
  a36 := Try.isAgg116
  z36 := Try.sizeOf116
  v36 := Try.zeroValue116
  t41 := Try.underlying121
  a41 := Try.isAgg121
  z41 := Try.sizeOf121
  v41 := Try.zeroValue121
  t44 := Try.underlying124
  a44 := Try.isAgg124
  z44 := Try.sizeOf124
  v44 := Try.zeroValue124
  t46 := Try.underlying126
  a46 := Try.isAgg126
  z46 := Try.sizeOf126
  v46 := Try.zeroValue126
  t53 := Try.underlying132
  a53 := Try.isAgg132
  z53 := Try.sizeOf132
  v53 := Try.zeroValue132
  t57 := Try.underlying136
  a57 := Try.isAgg136
  z57 := Try.sizeOf136
  v57 := Try.zeroValue136
  t63 := Try.underlying140
  a63 := Try.isAgg140
  z63 := Try.sizeOf140
  v63 := Try.zeroValue140
  t64 := Try.underlying88
  a64 := Try.isAgg88
  z64 := Try.sizeOf88
  v64 := Try.zeroValue88 }
end Go.Proofs
