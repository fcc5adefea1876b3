/- A line, cut at its first blank: plain law. -/
import Derived.Test.YtkjpojaanocfjaaGreatDoorStRdF
namespace Go.Proofs.YtkjpojaanocfjaaGreatDoor
open Go.RowKit
set_option linter.unusedVariables false
set_option linter.unusedSimpArgs false
/-- The words of a line: what stands before the first blank, and the words of the rest. -/
theorem wordsOf_cut (s : ByteArray) : wordsOf s = cutL s 32 :: (if cutK s 32 then wordsOf (cutR s 32) else []) := by
  rcases Lib.indexB_cases s ⟨#[32]⟩ with h | ⟨i, h, hr⟩
  · have hk : Lib.index s.data.toList [32] = -1 := h
    have h1 : wordsOf s = [s] := by unfold wordsOf; rw [Lib.countB_miss _ _ h, Lib.splitB_zero]
    have h2 : cutL s 32 = s := by unfold cutL Lib.cut; rw [hk]; simp
    have h3 : cutK s 32 = false := by unfold cutK Lib.cut; rw [hk]; simp
    rw [h1, h2, h3]; simp
  · have hk : Lib.index s.data.toList [32] = (i : Int) := h
    have hc := Lib.countB_hit s ⟨#[32]⟩ i (by decide) h
    have h2 : cutL s 32 = s.extract 0 (i + 0) := by
      unfold cutL Lib.cut; rw [hk]
      apply ByteArray.ext
      apply Array.toList_inj.1
      simp
    have h3 : cutK s 32 = true := by unfold cutK Lib.cut; rw [hk]; simp
    have h4 : cutR s 32 = s.extract (i + (⟨#[32]⟩ : ByteArray).size) s.size := by
      unfold cutR Lib.cut; rw [hk]
      apply ByteArray.ext
      apply Array.toList_inj.1
      have : (⟨#[32]⟩ : ByteArray).size = 1 := rfl
      rw [this]
      rw [Lib.extract_to_end]
      simp
    rw [h2, h3, h4, if_pos rfl]
    show Lib.splitB _ 0 (Lib.countB s _) s = _
    rw [hc, Nat.add_comm 1, Lib.splitB_hit _ _ _ _ _ h]
    rfl
/-- A frame's line by its two parts. -/
def frO (n r : ByteArray) : Option Frm := frR (n :: (if emptyB r then [] else wordsOf r))
/-- frameLine's law. -/
theorem frR_line (s : ByteArray) : frR (wordsOf s) = if cutK s 32 && emptyB (cutR s 32) then none else frO (cutL s 32) (cutR s 32) := by
  rw [wordsOf_cut]
  unfold frO
  cases hk : cutK s 32
  · have : emptyB (cutR s 32) = true := by
      have h4 : cutR s 32 = ⟨#[]⟩ := by
        unfold cutK Lib.cut at hk
        unfold cutR Lib.cut
        split at hk
        · simp at hk
        · rename_i h; rw [if_neg h]
      rw [h4]; exact emptyB_nil
    rw [this]; simp
  · cases he : emptyB (cutR s 32)
    · simp
    · have h1 : (cutR s 32) = ⟨#[]⟩ := by
        unfold emptyB at he; rw [ByteArray.toList_eq] at he
        have := List.isEmpty_iff.1 he
        exact ByteArray.ext (Array.toList_inj.1 this)
      rw [h1]
      have h2 : wordsOf ⟨#[]⟩ = [⟨#[]⟩] := by decide
      simp only [h2, if_true, Bool.and_self, frR]
      have h3 : plR [⟨#[]⟩] = none := by
        have e1 : preB ⟨#[]⟩ 40 = false := rfl
        have e2 : preB ⟨#[]⟩ 64 = false := rfl
        simp only [plR, pl2, pl3, e1, e2]
        simp
      rw [h3]; simp
end Go.Proofs.YtkjpojaanocfjaaGreatDoor
