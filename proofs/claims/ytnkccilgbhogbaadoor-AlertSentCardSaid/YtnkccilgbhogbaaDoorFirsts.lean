/- The first error of a list of things that are looked at one after another. No program. -/
import Derived.Test.YtnkccilgbhogbaaDoorBase
namespace Go.Proofs.YtnkccilgbhogbaaDoor
/-- The first of f 0 .. f (n-1) that is not 0; else 0. -/
def firstErr (f : Nat → Int) : Nat → Int
  | 0 => 0
  | n + 1 => if firstErr f n = 0 then f n else firstErr f n
theorem firstErr_zero {f : Nat → Int} {n : Nat} (h : ∀ j, j < n → f j = 0) : firstErr f n = 0 := by
  induction n with
  | zero => rfl
  | succ n ih => rw [firstErr, if_pos (ih fun j hj => h j (by omega)), h n (by omega)]
theorem firstErr_hit {f : Nat → Int} {n k : Nat} (h : ∀ j, j < k → f j = 0) (hk : k < n) (hne : f k ≠ 0) : firstErr f n = f k := by
  induction n with
  | zero => omega
  | succ n ih =>
    by_cases hkn : k < n
    · have := ih hkn; rw [firstErr, this, if_neg hne]
    · obtain rfl : k = n := by omega
      rw [firstErr, if_pos (firstErr_zero h)]
theorem firstErr_all {f : Nat → Int} {n : Nat} (h : firstErr f n = 0) : ∀ j, j < n → f j = 0 := by
  induction n with
  | zero => intro j hj; omega
  | succ n ih =>
    rw [firstErr] at h
    split at h
    · rename_i h0
      intro j hj
      by_cases hjn : j < n
      · exact ih h0 j hjn
      · obtain rfl : j = n := by omega
        exact h
    · rename_i h0; exact absurd h h0
theorem firstErr_congr {f g : Nat → Int} {n : Nat} (h : ∀ j, j < n → f j = g j) : firstErr f n = firstErr g n := by
  induction n with
  | zero => rfl
  | succ n ih => rw [firstErr, firstErr, ih fun j hj => h j (by omega), h n (by omega)]
end Go.Proofs.YtnkccilgbhogbaaDoor
