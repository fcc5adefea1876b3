/-
  DERIVED: THE SHELF's CONTRACTS AT THIS DUMP, IN PLAIN WORDS (tools/lay-plain.mjs out of 'TrydLaySortT.lean', which tools/lay-shelf.mjs wrote): THE SAME DECLARATIONS UNDER THE SAME NAMES: 'import', 'namespace', 'open', 'def', 'theorem' AND NOTHING ELSE: no command of the shelf's: FOR A HAND-IN. Each laying: the table of numbers ('.._ren') and one theorem, a field a fact of the dump's own or the kernel's comparison; each contract: ONE APPLICATION.
-/
import Derived.Shelf.SlGeneric
import Derived.Shelf.SlSortCmp.NoneTotal
import Derived.Test.YtnkccilgbhogbaaDoorProg
namespace Go.Proofs
open Go.Shelf
def Tryd.SortT_ren : Go.Shelf.Ren := ⟨fun | 6 => 47 | 15 => 54 | 14 => 53 | 28 => 73 | 29 => 74 | 20 => 65 | 21 => 66 | 22 => 67 | 23 => 68 | 24 => 69 | 25 => 70 | 26 => 71 | 27 => 72 | 46 => 80 | 47 => 81 | 48 => 82 | 49 => 83 | 50 => 84 | 57 => 89 | n => n, fun | 22 => 36 | 24 => 41 | 25 => 84 | 3 => 3 | 39 => 94 | 0 => 0 | 53 => 111 | 55 => 113 | 4 => 4 | 46 => 105 | 45 => 104 | 50 => 87 | 5 => 5 | 9 => 9 | 66 => 118 | 70 => 122 | 76 => 126 | 77 => 127 | n => n, fun | n => n⟩
theorem Tryd.SortT : Go.Proofs.SlLaysF0.n6 Tryd.prog Tryd.SortT_ren := {
  mixed := by kernel_rfl
  f6 := ⟨Tryd.f47.name, by decide, Tryd.func47.trans (congrArg some (by kernel_rfl))⟩
  f14 := ⟨Tryd.f53.name, by decide, Tryd.func53.trans (congrArg some (by kernel_rfl))⟩
  f15 := Tryd.func54.trans (congrArg some (by kernel_rfl))
  f20 := ⟨Tryd.f65.name, by decide, Tryd.func65.trans (congrArg some (by kernel_rfl))⟩
  f21 := ⟨Tryd.f66.name, by decide, Tryd.func66.trans (congrArg some (by kernel_rfl))⟩
  f22 := ⟨Tryd.f67.name, by decide, Tryd.func67.trans (congrArg some (by kernel_rfl))⟩
  f23 := ⟨Tryd.f68.name, by decide, Tryd.func68.trans (congrArg some (by kernel_rfl))⟩
  f24 := ⟨Tryd.f69.name, by decide, Tryd.func69.trans (congrArg some (by kernel_rfl))⟩
  f25 := ⟨Tryd.f70.name, by decide, Tryd.func70.trans (congrArg some (by kernel_rfl))⟩
  f26 := ⟨Tryd.f71.name, by decide, Tryd.func71.trans (congrArg some (by kernel_rfl))⟩
  f27 := ⟨Tryd.f72.name, by decide, Tryd.func72.trans (congrArg some (by kernel_rfl))⟩
  f28 := Tryd.func73.trans (congrArg some (by kernel_rfl))
  f29 := Tryd.func74.trans (congrArg some (by kernel_rfl))
  f46 := ⟨Tryd.f80.name, by decide, Tryd.func80.trans (congrArg some (by kernel_rfl))⟩
  f47 := Tryd.func81.trans (congrArg some (by kernel_rfl))
  f48 := Tryd.func82.trans (congrArg some (by kernel_rfl))
  f49 := ⟨Tryd.f83.name, by decide, Tryd.func83.trans (congrArg some (by kernel_rfl))⟩
  f50 := ⟨Tryd.f84.name, by decide, Tryd.func84.trans (congrArg some (by kernel_rfl))⟩
  f57 := ⟨Tryd.f89.name, by decide, Tryd.func89.trans (congrArg some (by kernel_rfl))⟩
  t0 := Tryd.underlying0
  a0 := Tryd.isAgg0
  z0 := Tryd.sizeOf0
  v0 := Tryd.zeroValue0
  t3 := Tryd.underlying3
  a3 := Tryd.isAgg3
  z3 := Tryd.sizeOf3
  v3 := Tryd.zeroValue3
  t4 := Tryd.underlying4
  a4 := Tryd.isAgg4
  z4 := Tryd.sizeOf4
  v4 := Tryd.zeroValue4
  t5 := Tryd.underlying5
  a5 := Tryd.isAgg5
  z5 := Tryd.sizeOf5
  v5 := Tryd.zeroValue5
  t9 := Tryd.underlying9
  a9 := Tryd.isAgg9
  z9 := Tryd.sizeOf9
  v9 := Tryd.zeroValue9
  t22 := Tryd.underlying36
  a22 := Tryd.isAgg36
  z22 := Tryd.sizeOf36
  v22 := Tryd.zeroValue36
  t25 := Tryd.underlying84
  a25 := Tryd.isAgg84
  z25 := Tryd.sizeOf84
  v25 := Tryd.zeroValue84
  t39 := Tryd.underlying94
  a39 := Tryd.isAgg94
  z39 := Tryd.sizeOf94
  v39 := Tryd.zeroValue94
  t45 := Tryd.underlying104
  a45 := Tryd.isAgg104
  z45 := Tryd.sizeOf104
  v45 := Tryd.zeroValue104
  t46 := Tryd.underlying105
  a46 := Tryd.isAgg105
  z46 := Tryd.sizeOf105
  v46 := Tryd.zeroValue105
  t50 := Tryd.underlying87
  a50 := Tryd.isAgg87
  z50 := Tryd.sizeOf87
  v50 := Tryd.zeroValue87
  t53 := Tryd.underlying111
  a53 := Tryd.isAgg111
  z53 := Tryd.sizeOf111
  v53 := Tryd.zeroValue111
  t55 := Tryd.underlying113
  a55 := Tryd.isAgg113
  z55 := Tryd.sizeOf113
  v55 := Tryd.zeroValue113
  t66 := Tryd.underlying118
  a66 := Tryd.isAgg118
  z66 := Tryd.sizeOf118
  v66 := Tryd.zeroValue118
  t70 := Tryd.underlying122
  a70 := Tryd.isAgg122
  z70 := Tryd.sizeOf122
  v70 := Tryd.zeroValue122
  t76 := Tryd.underlying126
  a76 := Tryd.isAgg126
  z76 := Tryd.sizeOf126
  v76 := Tryd.zeroValue126
  t77 := Tryd.underlying127
  a77 := Tryd.isAgg127
  z77 := Tryd.sizeOf127
  v77 := Tryd.zeroValue127 }
end Go.Proofs
