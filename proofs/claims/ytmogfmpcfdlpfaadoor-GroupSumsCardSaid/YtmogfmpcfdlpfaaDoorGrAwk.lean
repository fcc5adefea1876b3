/- awakeGroup. -/
import Derived.Test.YtmogfmpcfdlpfaaDoorGrPlain
namespace Go.Proofs.YtmogfmpcfdlpfaaDoor
open Go.RowKit
set_option linter.unusedVariables false
theorem awakeGroup_any (w : World) : Calls Tryd.prog 5 #[] w fun e w' => e = .returned (.bool true) ∧ Below w.heap.size w w' := by
  have F := hide (show ∀ W, Calls Tryd.prog 17 #[.string ⟨#[49]⟩] W fun e w' => e = .returned (.string ⟨#[60, 110, 62]⟩) ∧ Below W.heap.size W w' from fun W => Plain_any ⟨#[49]⟩ W (by decide))
  go_enter Tryd.func5, Tryd.ntmps5
  go_wp2_with (go_at_call 17; refine (F.out _).mono ?_; rintro r w1 ⟨rfl, hw1⟩)
  go_ret
  exact ⟨rfl, hw1⟩
end Go.Proofs.YtmogfmpcfdlpfaaDoor
