/- The reference's Valid at constructors of any size; well-formed terms are not great. -/
import Derived.Test.YtafhcphggdipaaaGreatDoorKonD
import Derived.Test.YtafhcphggdipaaaGreatDoorKonC
import Derived.Test.YtafhcphggdipaaaGreatDoorTermD
import Derived.Test.YtafhcphggdipaaaGreatDoorStepA
set_option linter.unusedSimpArgs false
set_option linter.unusedVariables false
namespace Go.Abs.Kon
open Go Go.Proofs Go.Abs
set_option maxRecDepth 100000
set_option maxHeartbeats 4000000
end Go.Abs.Kon