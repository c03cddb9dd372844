/-
  DERIVED: THE SHELF's CONTRACTS AT THIS DUMP, IN PLAIN WORDS (tools/lay-plain.mjs out of 'YtgddapgdeaeggaaShelfsortS.lean', which tools/lay-shelf.mjs wrote): THE SAME DECLARATIONS UNDER THE SAME NAMES: 'import', 'namespace', 'open', 'def', 'theorem' AND NOTHING ELSE: no command of the shelf's: FOR A HAND-IN. Each laying: the table of numbers ('.._ren') and one theorem, a field a fact of the dump's own or the kernel's comparison; each contract: ONE APPLICATION.
-/
import Derived.Shelf.SlSortCmp.WholeK
import Derived.Ground.SlsfProg
import Derived.Test.YtgddapgdeaeggaaProg
namespace Go.Proofs
open Go.Shelf
def Try.sortS_ren : Go.Shelf.Ren := ⟨fun | 6 => 60 | 15 => 78 | 14 => 77 | 28 => 91 | 29 => 92 | 20 => 83 | 21 => 84 | 22 => 85 | 23 => 86 | 24 => 87 | 25 => 88 | 26 => 89 | 27 => 90 | 46 => 93 | 47 => 94 | 48 => 95 | 49 => 96 | 50 => 97 | 57 => 98 | n => n, fun | 22 => 26 | 24 => 37 | 25 => 73 | 3 => 3 | 39 => 115 | 0 => 0 | 53 => 129 | 55 => 32 | 4 => 4 | 46 => 122 | 45 => 121 | 50 => 126 | 5 => 5 | 9 => 9 | 66 => 131 | 70 => 111 | 76 => 135 | 77 => 136 | n => n, fun | n => n⟩
theorem Try.sortS : Go.Proofs.SlLaysF0.n6 Try.prog Try.sortS_ren := {
  mixed := by kernel_rfl
  f6 := ⟨Try.f60.name, by decide, Try.func60.trans (congrArg some (by kernel_rfl))⟩
  f14 := ⟨Try.f77.name, by decide, Try.func77.trans (congrArg some (by kernel_rfl))⟩
  f15 := Try.func78.trans (congrArg some (by kernel_rfl))
  f20 := ⟨Try.f83.name, by decide, Try.func83.trans (congrArg some (by kernel_rfl))⟩
  f21 := ⟨Try.f84.name, by decide, Try.func84.trans (congrArg some (by kernel_rfl))⟩
  f22 := ⟨Try.f85.name, by decide, Try.func85.trans (congrArg some (by kernel_rfl))⟩
  f23 := ⟨Try.f86.name, by decide, Try.func86.trans (congrArg some (by kernel_rfl))⟩
  f24 := ⟨Try.f87.name, by decide, Try.func87.trans (congrArg some (by kernel_rfl))⟩
  f25 := ⟨Try.f88.name, by decide, Try.func88.trans (congrArg some (by kernel_rfl))⟩
  f26 := ⟨Try.f89.name, by decide, Try.func89.trans (congrArg some (by kernel_rfl))⟩
  f27 := ⟨Try.f90.name, by decide, Try.func90.trans (congrArg some (by kernel_rfl))⟩
  f28 := Try.func91.trans (congrArg some (by kernel_rfl))
  f29 := Try.func92.trans (congrArg some (by kernel_rfl))
  f46 := ⟨Try.f93.name, by decide, Try.func93.trans (congrArg some (by kernel_rfl))⟩
  f47 := Try.func94.trans (congrArg some (by kernel_rfl))
  f48 := Try.func95.trans (congrArg some (by kernel_rfl))
  f49 := ⟨Try.f96.name, by decide, Try.func96.trans (congrArg some (by kernel_rfl))⟩
  f50 := ⟨Try.f97.name, by decide, Try.func97.trans (congrArg some (by kernel_rfl))⟩
  f57 := ⟨Try.f98.name, by decide, Try.func98.trans (congrArg some (by kernel_rfl))⟩
  t0 := Try.underlying0
  a0 := Try.isAgg0
  z0 := Try.sizeOf0
  v0 := Try.zeroValue0
  t3 := Try.underlying3
  a3 := Try.isAgg3
  z3 := Try.sizeOf3
  v3 := Try.zeroValue3
  t4 := Try.underlying4
  a4 := Try.isAgg4
  z4 := Try.sizeOf4
  v4 := Try.zeroValue4
  t5 := Try.underlying5
  a5 := Try.isAgg5
  z5 := Try.sizeOf5
  v5 := Try.zeroValue5
  t9 := Try.underlying9
  a9 := Try.isAgg9
  z9 := Try.sizeOf9
  v9 := Try.zeroValue9
  t22 := Try.underlying26
  a22 := Try.isAgg26
  z22 := Try.sizeOf26
  v22 := Try.zeroValue26
  t25 := Try.underlying73
  a25 := Try.isAgg73
  z25 := Try.sizeOf73
  v25 := Try.zeroValue73
  t39 := Try.underlying115
  a39 := Try.isAgg115
  z39 := Try.sizeOf115
  v39 := Try.zeroValue115
  t45 := Try.underlying121
  a45 := Try.isAgg121
  z45 := Try.sizeOf121
  v45 := Try.zeroValue121
  t46 := Try.underlying122
  a46 := Try.isAgg122
  z46 := Try.sizeOf122
  v46 := Try.zeroValue122
  t50 := Try.underlying126
  a50 := Try.isAgg126
  z50 := Try.sizeOf126
  v50 := Try.zeroValue126
  t53 := Try.underlying129
  a53 := Try.isAgg129
  z53 := Try.sizeOf129
  v53 := Try.zeroValue129
  t55 := Try.underlying32
  a55 := Try.isAgg32
  z55 := Try.sizeOf32
  v55 := Try.zeroValue32
  t66 := Try.underlying131
  a66 := Try.isAgg131
  z66 := Try.sizeOf131
  v66 := Try.zeroValue131
  t70 := Try.underlying111
  a70 := Try.isAgg111
  z70 := Try.sizeOf111
  v70 := Try.zeroValue111
  t76 := Try.underlying135
  a76 := Try.isAgg135
  z76 := Try.sizeOf135
  v76 := Try.zeroValue135
  t77 := Try.underlying136
  a77 := Try.isAgg136
  z77 := Try.sizeOf136
  v77 := Try.zeroValue136 }
end Go.Proofs
