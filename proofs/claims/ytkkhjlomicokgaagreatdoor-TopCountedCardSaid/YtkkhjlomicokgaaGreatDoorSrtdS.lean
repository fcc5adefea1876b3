/-
  DERIVED: THE SHELF's CONTRACTS AT THIS DUMP, IN PLAIN WORDS (tools/lay-plain.mjs out of 'TryzLaySrtdS.lean', which tools/lay-shelf.mjs wrote): THE SAME DECLARATIONS UNDER THE SAME NAMES: 'import', 'namespace', 'open', 'def', 'theorem' AND NOTHING ELSE: no command of the shelf's: FOR A HAND-IN. Each laying: the table of numbers ('.._ren') and one theorem, a field a fact of the dump's own or the kernel's comparison; each contract: ONE APPLICATION.
-/
import Derived.Shelf.SlGeneric
import Derived.Shelf.SlSorted.IsSorted
import Derived.Test.YtkkhjlomicokgaaGreatDoorProg
namespace Go.Proofs
open Go.Shelf
def Tryz.SrtdS_ren : Go.Shelf.Ren := ⟨fun | 11 => 12 | 19 => 39 | 25 => 64 | n => n, fun | 25 => 23 | 27 => 9 | 4 => 4 | 3 => 3 | 0 => 0 | n => n, fun | n => n⟩
theorem Tryz.SrtdS : Go.Proofs.SlLaysO.n11 Tryz.prog Tryz.SrtdS_ren := {
  mixed := by kernel_rfl
  f11 := ⟨Tryz.f12.name, by decide, Tryz.func12.trans (congrArg some (by kernel_rfl))⟩
  f19 := ⟨Tryz.f39.name, by decide, Tryz.func39.trans (congrArg some (by kernel_rfl))⟩
  f25 := ⟨Tryz.f64.name, by decide, Tryz.func64.trans (congrArg some (by kernel_rfl))⟩
  t0 := Tryz.underlying0
  a0 := Tryz.isAgg0
  z0 := Tryz.sizeOf0
  v0 := Tryz.zeroValue0
  t3 := Tryz.underlying3
  a3 := Tryz.isAgg3
  z3 := Tryz.sizeOf3
  v3 := Tryz.zeroValue3
  t4 := Tryz.underlying4
  a4 := Tryz.isAgg4
  z4 := Tryz.sizeOf4
  v4 := Tryz.zeroValue4
  t25 := Tryz.underlying23
  a25 := Tryz.isAgg23
  z25 := Tryz.sizeOf23
  v25 := Tryz.zeroValue23
  t27 := Tryz.underlying9
  a27 := Tryz.isAgg9
  z27 := Tryz.sizeOf9
  v27 := Tryz.zeroValue9 }
end Go.Proofs
