/- Walk of strings.Join at a separator of one byte. -/
import Derived.Test.YtncpeokniffafaaGreatDoorStPlace
namespace Go.Proofs.YtncpeokniffafaaGreatDoor
open Go.RowKit
set_option linter.unusedVariables false
/-- Strings joined by a byte. -/
def joinL (c : UInt8) : List ByteArray → List UInt8
  | [] => []
  | x :: r => x.data.toList ++ r.flatMap fun y => c :: y.data.toList
def sumL (xs : List ByteArray) : Nat := (xs.map ByteArray.size).sum
theorem sumL_snoc (xs : List ByteArray) (x : ByteArray) : sumL (xs ++ [x]) = sumL xs + x.size := by simp [sumL]
theorem sumL_take (xs : List ByteArray) (k : Nat) : sumL (xs.take k) ≤ sumL xs := by
  have h : sumL (xs.take k ++ xs.drop k) = sumL (xs.take k) + sumL (xs.drop k) := by simp only [sumL, List.map_append, List.sum_append]
  rw [List.take_append_drop] at h
  omega
theorem joinL_snoc (c : UInt8) (xs : List ByteArray) (x : ByteArray) (h : xs ≠ []) : joinL c (xs ++ [x]) = joinL c xs ++ (c :: x.data.toList) := by
  cases xs with
  | nil => exact absurd rfl h
  | cons y r => simp [joinL]
theorem joinL_len (c : UInt8) : ∀ xs : List ByteArray, (joinL c xs).length ≤ sumL xs + xs.length
  | [] => by simp [joinL, sumL]
  | x :: r => by
    have : (r.flatMap fun y => c :: y.data.toList).length = sumL r + r.length := by
      induction r with
      | nil => rfl
      | cons y r ih => simp [List.flatMap_cons, sumL] at ih ⊢; omega
    simp only [joinL, List.length_append, this]
    simp [sumL]; omega
theorem strCells_eq (s : ByteArray) : Lib.strCells s = Lib.byteCells s.data.toList := rfl
theorem bytes_app (a b : List UInt8) : Lib.byteCells a ++ Lib.byteCells b = Lib.byteCells (a ++ b) := by simp [Lib.byteCells]
theorem bytes_len (a : List UInt8) : (Lib.byteCells a).length = a.length := by simp [Lib.byteCells]
end Go.Proofs.YtncpeokniffafaaGreatDoor
