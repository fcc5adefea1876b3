/- Walks of the reference's walker: one, list, parts (printed by gen_nk.py). -/
import Derived.Test.YtocpmbpckbjepaaDoorNmChk
namespace Go.Proofs.YtocpmbpckbjepaaDoor
open Go.RowKit
set_option linter.unusedVariables false

theorem lett_not_dig {c : UInt8} (h : lettB c = true) : digB c = false := by
  simp only [lettB, digB, Bool.or_eq_true, decide_eq_true_eq, decide_eq_false_iff_not] at h ⊢
  omega

end Go.Proofs.YtocpmbpckbjepaaDoor
