/- Walks of both watches' Silences (printed by gen_a8.py). -/
import Derived.Test.YtkkhjlomicokgaaGreatDoorAlEq
import Derived.Test.YtkkhjlomicokgaaGreatDoorAlGo
import Derived.Test.YtkkhjlomicokgaaGreatDoorTpA
namespace Go.Proofs.YtkkhjlomicokgaaGreatDoor.al
open Go.RowKit
set_option linter.unusedVariables false
set_option linter.unusedSimpArgs false
end Go.Proofs.YtkkhjlomicokgaaGreatDoor.al