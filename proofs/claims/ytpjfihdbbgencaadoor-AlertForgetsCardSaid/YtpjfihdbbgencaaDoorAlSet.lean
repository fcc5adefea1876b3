/- Walks of both watches' Silences (printed by gen_a8.py). -/
import Derived.Test.YtpjfihdbbgencaaDoorAlEq
import Derived.Test.YtpjfihdbbgencaaDoorAlGo
import Derived.Test.YtpjfihdbbgencaaDoorRowSet
namespace Go.Proofs.YtpjfihdbbgencaaDoor
open Go.RowKit
set_option linter.unusedVariables false
set_option linter.unusedSimpArgs false
end Go.Proofs.YtpjfihdbbgencaaDoor
