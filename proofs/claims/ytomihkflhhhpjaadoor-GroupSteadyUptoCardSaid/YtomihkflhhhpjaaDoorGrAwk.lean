/- awakeGroup. -/
import Derived.Test.YtomihkflhhhpjaaDoorGrPlain
namespace Go.Proofs.YtomihkflhhhpjaaDoor
open Go.RowKit
set_option linter.unusedVariables false
theorem awakeGroup_any (w : World) : Calls Tryd.prog 8 #[] w fun e w' => e = .returned (.bool true) ∧ Below w.heap.size w w' := by
  have F := hide (show ∀ W, Calls Tryd.prog 9 #[.string ⟨#[49]⟩] W fun e w' => e = .returned (.string ⟨#[60, 110, 62]⟩) ∧ Below W.heap.size W w' from fun W => Plain_any ⟨#[49]⟩ W (by decide))
  go_enter Tryd.func8, Tryd.ntmps8
  go_wp2_with (go_at_call 9; refine (F.out _).mono ?_; rintro r w1 ⟨rfl, hw1⟩)
  go_ret
  exact ⟨rfl, hw1⟩
end Go.Proofs.YtomihkflhhhpjaaDoor
