/- Walk of slices.Equal on frames, whatever they are. -/
import Derived.Test.YtnlliddfljogjaaDoorStFrames
import Derived.BigQuiet
import Derived.Test.YtnlliddfljogjaaDoorSlDrop
namespace Go.Proofs.YtnlliddfljogjaaDoor
open Go.RowKit
theorem bytes_beq (a b : ByteArray) : (a.toList == b.toList) = decide (a = b) := by
  rw [Bool.eq_iff_iff]
  simp only [beq_iff_eq, decide_eq_true_eq]
  constructor
  · intro h
    rw [ByteArray.toList_eq, ByteArray.toList_eq] at h
    obtain ⟨⟨x⟩⟩ := a
    obtain ⟨⟨y⟩⟩ := b
    simp only at h
    rw [h]
  · intro h; rw [h]
/-- Where two frames differ first. -/
theorem frame_first {x y : Frame} (h : x ≠ y) :
    ((x.mod.toList == y.mod.toList) = false) ∨
    ((x.mod.toList == y.mod.toList) = true ∧ (x.fn.toList == y.fn.toList) = false) ∨
    ((x.mod.toList == y.mod.toList) = true ∧ (x.fn.toList == y.fn.toList) = true ∧ (x.file.toList == y.file.toList) = false) ∨
    ((x.mod.toList == y.mod.toList) = true ∧ (x.fn.toList == y.fn.toList) = true ∧ (x.file.toList == y.file.toList) = true ∧ (x.line == y.line) = false) ∨
    ((x.mod.toList == y.mod.toList) = true ∧ (x.fn.toList == y.fn.toList) = true ∧ (x.file.toList == y.file.toList) = true ∧ (x.line == y.line) = true ∧ (x.addr == y.addr) = false) ∨
    ((x.mod.toList == y.mod.toList) = true ∧ (x.fn.toList == y.fn.toList) = true ∧ (x.file.toList == y.file.toList) = true ∧ (x.line == y.line) = true ∧ (x.addr == y.addr) = true ∧ (x.own == y.own) = false) := by
  obtain ⟨a, b, c, d, e, f⟩ := x
  obtain ⟨a', b', c', d', e', f'⟩ := y
  simp only [bytes_beq]
  simp only [ne_eq, Frame.mk.injEq] at h
  by_cases h1 : a = a' <;> by_cases h2 : b = b' <;> by_cases h3 : c = c' <;> by_cases h4 : d = d' <;> by_cases h5 : e = e' <;> by_cases h6 : f = f' <;> simp_all
theorem take_succ_ne {α : Type} {l l' : List α} {j : Nat} {x y : α} (hx : l[j]? = some x) (hy : l'[j]? = some y) (h : x ≠ y) : ¬ l = l' := by
  rintro rfl; rw [hx] at hy; exact h (Option.some.inj hy)
end Go.Proofs.YtnlliddfljogjaaDoor
