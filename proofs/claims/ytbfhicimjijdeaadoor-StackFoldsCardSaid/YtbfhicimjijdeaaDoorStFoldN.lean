/- How many runs there are. No program. -/
import Derived.Test.YtbfhicimjijdeaaDoorStFoldL
namespace Go.Proofs.YtbfhicimjijdeaaDoor
open Go.RowKit
theorem foldW_len (l : List Frame) : ∀ (f k : Nat) (out : List RunT), RunsIn out k → k ≤ l.length → (foldW l f k out).length ≤ l.length := by
  intro f
  induction f with
  | zero => intro k out h hk; rw [foldW]; have := h.1; omega
  | succ f ih =>
    intro k out h hk
    rw [foldW]
    split
    · rename_i hlt
      have hn := nextAt_bd hlt
      obtain ⟨b1, b2, b3⟩ := bestOf_bd (l := l.drop k) (by rw [List.length_drop]; omega)
      have hxy := mul_le b1 b2 (Nat.le_refl _)
      have e : nextAt l k = k + (bestOf (l.drop k)).1 * (bestOf (l.drop k)).2 := rfl
      exact ih _ _ (runsIn_push h hn.1 (by simp only; omega) (by simp only; omega)) hn.2
    · have := h.1; omega
theorem foldL_len (l : List Frame) : (foldL l).length ≤ l.length := foldW_len l _ _ _ ⟨Nat.le_refl _, by simp⟩ (Nat.zero_le _)
end Go.Proofs.YtbfhicimjijdeaaDoor
