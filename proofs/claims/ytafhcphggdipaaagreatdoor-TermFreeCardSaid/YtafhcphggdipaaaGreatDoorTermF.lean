/- Terms. -/
import Derived.Test.YtafhcphggdipaaaGreatDoorTermE
import Derived.Test.YtafhcphggdipaaaGreatDoorTermC
import Derived.Test.YtafhcphggdipaaaGreatDoorTermD
set_option linter.unusedSimpArgs false
set_option linter.unusedVariables false
namespace Go.Abs.Kon
open Go Go.Proofs Go.Abs
set_option maxRecDepth 100000
set_option maxHeartbeats 4000000
/-! -/
/-! -/
/-! -/
end Go.Abs.Kon
