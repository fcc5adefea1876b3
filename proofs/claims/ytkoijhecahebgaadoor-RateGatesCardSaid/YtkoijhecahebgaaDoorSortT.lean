/-
  DERIVED: THE SHELF's CONTRACTS AT THIS DUMP, IN PLAIN WORDS (tools/lay-plain.mjs out of 'TrydLaySortT.lean', which tools/lay-shelf.mjs wrote): THE SAME DECLARATIONS UNDER THE SAME NAMES: 'import', 'namespace', 'open', 'def', 'theorem' AND NOTHING ELSE: no command of the shelf's: FOR A HAND-IN. Each laying: the table of numbers ('.._ren') and one theorem, a field a fact of the dump's own or the kernel's comparison; each contract: ONE APPLICATION.
-/
import Derived.Shelf.SlGeneric
import Derived.Shelf.SlSortCmp.NoneTotal
import Derived.Test.YtkoijhecahebgaaDoorProg
namespace Go.Proofs
open Go.Shelf
def Tryd.SortT_ren : Go.Shelf.Ren := ⟨fun | 6 => 43 | 15 => 60 | 14 => 59 | 28 => 81 | 29 => 82 | 20 => 73 | 21 => 74 | 22 => 75 | 23 => 76 | 24 => 77 | 25 => 78 | 26 => 79 | 27 => 80 | 46 => 88 | 47 => 89 | 48 => 90 | 49 => 91 | 50 => 92 | 57 => 96 | n => n, fun | 22 => 39 | 24 => 50 | 25 => 90 | 3 => 3 | 39 => 100 | 0 => 0 | 53 => 123 | 55 => 98 | 4 => 4 | 46 => 117 | 45 => 116 | 50 => 78 | 5 => 5 | 9 => 9 | 66 => 129 | 70 => 133 | 76 => 136 | 77 => 137 | n => n, fun | n => n⟩
theorem Tryd.SortT : Go.Proofs.SlLaysF0.n6 Tryd.prog Tryd.SortT_ren := {
  mixed := by kernel_rfl
  f6 := ⟨Tryd.f43.name, by decide, Tryd.func43.trans (congrArg some (by kernel_rfl))⟩
  f14 := ⟨Tryd.f59.name, by decide, Tryd.func59.trans (congrArg some (by kernel_rfl))⟩
  f15 := Tryd.func60.trans (congrArg some (by kernel_rfl))
  f20 := ⟨Tryd.f73.name, by decide, Tryd.func73.trans (congrArg some (by kernel_rfl))⟩
  f21 := ⟨Tryd.f74.name, by decide, Tryd.func74.trans (congrArg some (by kernel_rfl))⟩
  f22 := ⟨Tryd.f75.name, by decide, Tryd.func75.trans (congrArg some (by kernel_rfl))⟩
  f23 := ⟨Tryd.f76.name, by decide, Tryd.func76.trans (congrArg some (by kernel_rfl))⟩
  f24 := ⟨Tryd.f77.name, by decide, Tryd.func77.trans (congrArg some (by kernel_rfl))⟩
  f25 := ⟨Tryd.f78.name, by decide, Tryd.func78.trans (congrArg some (by kernel_rfl))⟩
  f26 := ⟨Tryd.f79.name, by decide, Tryd.func79.trans (congrArg some (by kernel_rfl))⟩
  f27 := ⟨Tryd.f80.name, by decide, Tryd.func80.trans (congrArg some (by kernel_rfl))⟩
  f28 := Tryd.func81.trans (congrArg some (by kernel_rfl))
  f29 := Tryd.func82.trans (congrArg some (by kernel_rfl))
  f46 := ⟨Tryd.f88.name, by decide, Tryd.func88.trans (congrArg some (by kernel_rfl))⟩
  f47 := Tryd.func89.trans (congrArg some (by kernel_rfl))
  f48 := Tryd.func90.trans (congrArg some (by kernel_rfl))
  f49 := ⟨Tryd.f91.name, by decide, Tryd.func91.trans (congrArg some (by kernel_rfl))⟩
  f50 := ⟨Tryd.f92.name, by decide, Tryd.func92.trans (congrArg some (by kernel_rfl))⟩
  f57 := ⟨Tryd.f96.name, by decide, Tryd.func96.trans (congrArg some (by kernel_rfl))⟩
  t0 := Tryd.underlying0
  a0 := Tryd.isAgg0
  z0 := Tryd.sizeOf0
  v0 := Tryd.zeroValue0
  t3 := Tryd.underlying3
  a3 := Tryd.isAgg3
  z3 := Tryd.sizeOf3
  v3 := Tryd.zeroValue3
  t4 := Tryd.underlying4
  a4 := Tryd.isAgg4
  z4 := Tryd.sizeOf4
  v4 := Tryd.zeroValue4
  t5 := Tryd.underlying5
  a5 := Tryd.isAgg5
  z5 := Tryd.sizeOf5
  v5 := Tryd.zeroValue5
  t9 := Tryd.underlying9
  a9 := Tryd.isAgg9
  z9 := Tryd.sizeOf9
  v9 := Tryd.zeroValue9
  t22 := Tryd.underlying39
  a22 := Tryd.isAgg39
  z22 := Tryd.sizeOf39
  v22 := Tryd.zeroValue39
  t25 := Tryd.underlying90
  a25 := Tryd.isAgg90
  z25 := Tryd.sizeOf90
  v25 := Tryd.zeroValue90
  t39 := Tryd.underlying100
  a39 := Tryd.isAgg100
  z39 := Tryd.sizeOf100
  v39 := Tryd.zeroValue100
  t45 := Tryd.underlying116
  a45 := Tryd.isAgg116
  z45 := Tryd.sizeOf116
  v45 := Tryd.zeroValue116
  t46 := Tryd.underlying117
  a46 := Tryd.isAgg117
  z46 := Tryd.sizeOf117
  v46 := Tryd.zeroValue117
  t50 := Tryd.underlying78
  a50 := Tryd.isAgg78
  z50 := Tryd.sizeOf78
  v50 := Tryd.zeroValue78
  t53 := Tryd.underlying123
  a53 := Tryd.isAgg123
  z53 := Tryd.sizeOf123
  v53 := Tryd.zeroValue123
  t55 := Tryd.underlying98
  a55 := Tryd.isAgg98
  z55 := Tryd.sizeOf98
  v55 := Tryd.zeroValue98
  t66 := Tryd.underlying129
  a66 := Tryd.isAgg129
  z66 := Tryd.sizeOf129
  v66 := Tryd.zeroValue129
  t70 := Tryd.underlying133
  a70 := Tryd.isAgg133
  z70 := Tryd.sizeOf133
  v70 := Tryd.zeroValue133
  t76 := Tryd.underlying136
  a76 := Tryd.isAgg136
  z76 := Tryd.sizeOf136
  v76 := Tryd.zeroValue136
  t77 := Tryd.underlying137
  a77 := Tryd.isAgg137
  z77 := Tryd.sizeOf137
  v77 := Tryd.zeroValue137 }
end Go.Proofs
