/- Terms. -/
import Derived.Test.YtokeiaiddaojnaaGreatDoorTermE
import Derived.Test.YtokeiaiddaojnaaGreatDoorTermC
import Derived.Test.YtokeiaiddaojnaaGreatDoorTermD
set_option linter.unusedSimpArgs false
set_option linter.unusedVariables false
namespace Go.Abs.Kon
open Go Go.Proofs Go.Abs
set_option maxRecDepth 100000
set_option maxHeartbeats 4000000
/-! -/
/-! -/
end Go.Abs.Kon
