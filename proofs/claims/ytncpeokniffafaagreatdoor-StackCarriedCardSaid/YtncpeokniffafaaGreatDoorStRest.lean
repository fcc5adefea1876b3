/- Walk of the reference's restOf (printed by gen_re.py). -/
import Derived.Test.YtncpeokniffafaaGreatDoorStHead
namespace Go.Proofs.YtncpeokniffafaaGreatDoor
open Go.RowKit
set_option linter.unusedVariables false
theorem info_strS : (Tryz.prog.info? 9).map (fun i => (i.zero, i.size, i.bytes)) = some (some (.string ByteArray.empty), 1, 16) := by kernel_rfl
/-- What an append of a new block's cells leaves. -/
theorem push_step {w Wp w1 : World} {v : Value} {n : Nat} {S T : TypeId} {xs : List Value} {bx : Array Value} {o : Obj} (HB : Below w.heap.size w Wp) (HX : Wp.heap[w.heap.size]? = some (.cells bx T (0, 0))) (HO : Wp.ownsRow w.heap.size S 1 v n xs) (hne : S ≠ T) (hg : (Wp.alloc o).grownBy w1 v.ownBlock) :
    Below w.heap.size w w1 ∧ w1.heap[w.heap.size]? = some (.cells bx T (0, 0)) := by
  have hz := HB.size
  have hal : (Wp.alloc o).heap[w.heap.size]? = some (.cells bx T (0, 0)) := block_below HX ((Below.refl _ _).alloc (Nat.le_refl _) o)
  refine ⟨(HB.alloc hz o).grown hg (by simp; omega) (fun j hj => (HO.lt j hj).1), (hg.block w.heap.size (lt_of_block hal) (fun e => own_other' HO HX hne e.symm)).trans hal⟩
end Go.Proofs.YtncpeokniffafaaGreatDoor
