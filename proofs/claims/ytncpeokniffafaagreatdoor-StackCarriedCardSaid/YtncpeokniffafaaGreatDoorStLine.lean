/- Walk of the reference's lineOf. -/
import Derived.Test.YtncpeokniffafaaGreatDoorStRest
namespace Go.Proofs.YtncpeokniffafaaGreatDoor
open Go.RowKit
set_option linter.unusedVariables false
theorem place_rest (x : Frame) : (restL x = [] ∧ placeL x = []) ∨ (restL x ≠ [] ∧ placeL x = 32 :: restL x) := by
  unfold restL placeL partA partB partC
  by_cases h1 : emptyB x.file = true
  · rw [if_pos h1]
    by_cases h2 : x.addr = -1
    · rw [if_pos h2]
      by_cases h3 : x.own = true
      · rw [if_pos h3]; exact .inr ⟨by simp, by simp⟩
      · rw [if_neg h3]; exact .inl ⟨by simp, by simp⟩
    · rw [if_neg h2]; exact .inr ⟨by simp, by simp⟩
  · rw [if_neg h1]; exact .inr ⟨by simp, by simp⟩
theorem rest_len (x : Frame) (hx : x.good) : (restL x).length ≤ 1000 := by
  have h1 : (placeL x).length ≤ 1000 := by
    have ht := told_len hx.n0 hx.n1
    have hh := hex_len hx.a1
    have hl := hx.l
    have hs := size_of (x := x.file) rfl
    unfold placeL
    rw [List.length_append, List.length_append]
    have a1 : (partA x).length ≤ 300 := by
      unfold partA
      split
      · simp
      · split <;> simp only [List.length_append, List.length_cons, List.length_nil] <;> omega
    have a2 : (partB x).length ≤ 20 := by
      unfold partB
      split
      · simp
      · simp only [List.length_append, List.length_cons, List.length_nil]; omega
    have a3 : (partC x).length ≤ 2 := by
      unfold partC
      split <;> simp
    omega
  unfold restL
  rw [List.length_drop]
  omega
theorem call_len (x : Frame) (hx : x.good) : (callB x).size ≤ 401 := by
  have h1 := hx.m
  have h2 := hx.f
  unfold callB
  split
  · omega
  · rw [ByteArray.size_append, ByteArray.size_append]
    have : (⟨#[33]⟩ : ByteArray).size = 1 := rfl
    omega
end Go.Proofs.YtncpeokniffafaaGreatDoor
