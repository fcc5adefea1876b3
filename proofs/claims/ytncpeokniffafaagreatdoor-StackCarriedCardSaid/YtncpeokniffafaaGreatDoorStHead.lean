/- Walks of head and headOf: the line of a fault. -/
import Derived.Test.YtncpeokniffafaaGreatDoorStJoin
namespace Go.Proofs.YtncpeokniffafaaGreatDoor
open Go.RowKit
set_option linter.unusedVariables false
/-- The line of a fault, without its end. -/
def headR (x : FaultT) : List UInt8 := x.kind.data.toList ++ (if emptyB x.text then [58] else [58, 32] ++ x.text.data.toList)
theorem headL_R (x : FaultT) : headL x = headR x ++ [10] := rfl
set_option maxHeartbeats 2000000 in
theorem head_any (x : FaultT) (w : World) (b0 : x.kind.size ≤ 200) (b1 : x.text.size ≤ 2000) :
    Calls Tryz.prog 25 #[.agg #[.string x.kind, .string x.text, .slice x.A x.n x.cap]] w fun e w' => e = .returned (.string ⟨(headL x).toArray⟩) ∧ Below w.heap.size w w' := by
  cases h : emptyB x.text
  · have E := hide (show headL x = _ by unfold headL; rw [if_neg (by rw [h]; decide)])
    have h' : x.text.toList.isEmpty = false := h
    have h'' : ¬ x.text.toList = [] := by rw [← List.isEmpty_iff, h']; decide
    clear h
    go_enter Tryz.func25, Tryz.ntmps25
    go_wp2_with (fail)
    go_ret
    exact ⟨congrArg (fun x => Ending.returned (Value.string x)) (bytes_of (by rw [E.out]; simp [ByteArray.data_append])), (Below.refl _ _).alloc (Nat.le_refl _) _⟩
  · have E := hide (show headL x = _ by unfold headL; rw [if_pos h])
    have h' : x.text.toList.isEmpty = true := h
    have h'' : x.text.toList = [] := List.isEmpty_iff.1 h'
    clear h
    go_enter Tryz.func25, Tryz.ntmps25
    go_wp2_with (fail)
    go_ret
    exact ⟨congrArg (fun x => Ending.returned (Value.string x)) (bytes_of (by rw [E.out]; simp [ByteArray.data_append])), (Below.refl _ _).alloc (Nat.le_refl _) _⟩
end Go.Proofs.YtncpeokniffafaaGreatDoor
