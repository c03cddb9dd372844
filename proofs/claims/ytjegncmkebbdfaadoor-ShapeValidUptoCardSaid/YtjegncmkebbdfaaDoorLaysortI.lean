/-
  DERIVED: THE SHELF's CONTRACTS AT THIS DUMP, IN PLAIN WORDS (tools/lay-plain.mjs out of 'YtjegncmkebbdfaaDoorShelfsortI.lean', which tools/lay-shelf.mjs wrote): THE SAME DECLARATIONS UNDER THE SAME NAMES: 'import', 'namespace', 'open', 'def', 'theorem' AND NOTHING ELSE: no command of the shelf's: FOR A HAND-IN. Each laying: the table of numbers ('.._ren') and one theorem, a field a fact of the dump's own or the kernel's comparison; each contract: ONE APPLICATION.
-/
import Derived.Shelf.SlSortCmp.WholeK
import Derived.Ground.SlsfProg
import Derived.Test.YtjegncmkebbdfaaDoorProg
namespace Go.Proofs
open Go.Shelf
def Tryd.sortI_ren : Go.Shelf.Ren := ⟨fun | 6 => 30 | 15 => 54 | 14 => 53 | 28 => 77 | 29 => 78 | 20 => 69 | 21 => 70 | 22 => 71 | 23 => 72 | 24 => 73 | 25 => 74 | 26 => 75 | 27 => 76 | 46 => 96 | 47 => 97 | 48 => 98 | 49 => 99 | 50 => 100 | 57 => 110 | n => n, fun | 22 => 25 | 24 => 31 | 25 => 55 | 3 => 3 | 39 => 80 | 0 => 0 | 53 => 113 | 55 => 102 | 4 => 4 | 46 => 106 | 45 => 105 | 50 => 110 | 5 => 5 | 9 => 9 | 66 => 127 | 70 => 131 | 76 => 142 | 77 => 143 | n => n, fun | n => n⟩
theorem Tryd.sortI : Go.Proofs.SlLaysF0.n6 Tryd.prog Tryd.sortI_ren := {
  mixed := by kernel_rfl
  f6 := ⟨Tryd.f30.name, by decide, Tryd.func30.trans (congrArg some (by kernel_rfl))⟩
  f14 := ⟨Tryd.f53.name, by decide, Tryd.func53.trans (congrArg some (by kernel_rfl))⟩
  f15 := Tryd.func54.trans (congrArg some (by kernel_rfl))
  f20 := ⟨Tryd.f69.name, by decide, Tryd.func69.trans (congrArg some (by kernel_rfl))⟩
  f21 := ⟨Tryd.f70.name, by decide, Tryd.func70.trans (congrArg some (by kernel_rfl))⟩
  f22 := ⟨Tryd.f71.name, by decide, Tryd.func71.trans (congrArg some (by kernel_rfl))⟩
  f23 := ⟨Tryd.f72.name, by decide, Tryd.func72.trans (congrArg some (by kernel_rfl))⟩
  f24 := ⟨Tryd.f73.name, by decide, Tryd.func73.trans (congrArg some (by kernel_rfl))⟩
  f25 := ⟨Tryd.f74.name, by decide, Tryd.func74.trans (congrArg some (by kernel_rfl))⟩
  f26 := ⟨Tryd.f75.name, by decide, Tryd.func75.trans (congrArg some (by kernel_rfl))⟩
  f27 := ⟨Tryd.f76.name, by decide, Tryd.func76.trans (congrArg some (by kernel_rfl))⟩
  f28 := Tryd.func77.trans (congrArg some (by kernel_rfl))
  f29 := Tryd.func78.trans (congrArg some (by kernel_rfl))
  f46 := ⟨Tryd.f96.name, by decide, Tryd.func96.trans (congrArg some (by kernel_rfl))⟩
  f47 := Tryd.func97.trans (congrArg some (by kernel_rfl))
  f48 := Tryd.func98.trans (congrArg some (by kernel_rfl))
  f49 := ⟨Tryd.f99.name, by decide, Tryd.func99.trans (congrArg some (by kernel_rfl))⟩
  f50 := ⟨Tryd.f100.name, by decide, Tryd.func100.trans (congrArg some (by kernel_rfl))⟩
  f57 := ⟨Tryd.f110.name, by decide, Tryd.func110.trans (congrArg some (by kernel_rfl))⟩
  t0 := Tryd.underlying0
  a0 := Tryd.isAgg0
  z0 := Tryd.sizeOf0
  v0 := Tryd.zeroValue0
  t3 := Tryd.underlying3
  a3 := Tryd.isAgg3
  z3 := Tryd.sizeOf3
  v3 := Tryd.zeroValue3
  t4 := Tryd.underlying4
  a4 := Tryd.isAgg4
  z4 := Tryd.sizeOf4
  v4 := Tryd.zeroValue4
  t5 := Tryd.underlying5
  a5 := Tryd.isAgg5
  z5 := Tryd.sizeOf5
  v5 := Tryd.zeroValue5
  t9 := Tryd.underlying9
  a9 := Tryd.isAgg9
  z9 := Tryd.sizeOf9
  v9 := Tryd.zeroValue9
  t22 := Tryd.underlying25
  a22 := Tryd.isAgg25
  z22 := Tryd.sizeOf25
  v22 := Tryd.zeroValue25
  t25 := Tryd.underlying55
  a25 := Tryd.isAgg55
  z25 := Tryd.sizeOf55
  v25 := Tryd.zeroValue55
  t39 := Tryd.underlying80
  a39 := Tryd.isAgg80
  z39 := Tryd.sizeOf80
  v39 := Tryd.zeroValue80
  t45 := Tryd.underlying105
  a45 := Tryd.isAgg105
  z45 := Tryd.sizeOf105
  v45 := Tryd.zeroValue105
  t46 := Tryd.underlying106
  a46 := Tryd.isAgg106
  z46 := Tryd.sizeOf106
  v46 := Tryd.zeroValue106
  t50 := Tryd.underlying110
  a50 := Tryd.isAgg110
  z50 := Tryd.sizeOf110
  v50 := Tryd.zeroValue110
  t53 := Tryd.underlying113
  a53 := Tryd.isAgg113
  z53 := Tryd.sizeOf113
  v53 := Tryd.zeroValue113
  t55 := Tryd.underlying102
  a55 := Tryd.isAgg102
  z55 := Tryd.sizeOf102
  v55 := Tryd.zeroValue102
  t66 := Tryd.underlying127
  a66 := Tryd.isAgg127
  z66 := Tryd.sizeOf127
  v66 := Tryd.zeroValue127
  t70 := Tryd.underlying131
  a70 := Tryd.isAgg131
  z70 := Tryd.sizeOf131
  v70 := Tryd.zeroValue131
  t76 := Tryd.underlying142
  a76 := Tryd.isAgg142
  z76 := Tryd.sizeOf142
  v76 := Tryd.zeroValue142
  t77 := Tryd.underlying143
  a77 := Tryd.isAgg143
  z77 := Tryd.sizeOf143
  v77 := Tryd.zeroValue143 }
end Go.Proofs
