/- A region of reads with one store behind them, that draws its order: the head walked by the cheap steps of the quiet walk. No program. -/
import Derived.StillTailTactics
import Derived.BigQuiet
import Derived.Deep.QuietTactic
namespace Go.Proofs.YtmogfmpcfdlpfaaDoor
open Go.RowKit
theorem still_of_quiet {P : Program} {o : Oper} {a : Act} {w : World} {K K' : Act → Prop} (hK : ∀ a, K a → K' a) (h : o.quiet P a (fun w' => w' = w) K) : o.still P a w K' := by
  obtain ⟨v, h1, h2⟩ := h
  have h3 := h1 w rfl
  unfold Oper.quietAt at h3
  unfold Oper.still
  generalize (execOp a.eval o).run P w = r at *
  cases r with
  | ok n w' =>
    cases n <;> simp only [Oper.quietUpon] at h3 <;> simp only [Oper.stillUpon]
    case value u => obtain ⟨e1, e2⟩ := h3; exact ⟨e1, by rw [e2]; exact hK _ h2⟩
    case skip => obtain ⟨e1, e2⟩ := h3; exact ⟨e1, by rw [← e2]; exact hK _ h2⟩
    case enter f args => obtain ⟨e1, e2⟩ := h3; exact ⟨e1, v, e2, hK _ h2⟩
  | halt x w' => simp only [Oper.quietUpon] at h3
theorem wpStill_of_quiet {P : Program} {ops : Array Oper} {w : World} {Q : Act → Prop} : ∀ (l : List Oper) (a : Act), wpQuiet P ops (fun w' => w' = w) Q l a → wpStill P ops w Q l a
  | [], a, h => h
  | o :: rest, a, h => by
    unfold wpQuiet at h
    unfold wpStill
    split
    · rename_i hw; rw [if_pos hw] at h; exact still_of_quiet (fun a => wpStill_of_quiet rest a) h
    · rename_i hw; rw [if_neg hw] at h; exact wpStill_of_quiet rest _ h
end Go.Proofs.YtmogfmpcfdlpfaaDoor
