/- Terms. -/
import Derived.Test.YthedhplpgfpodaaGreatDoorTermC
set_option linter.unusedSimpArgs false
set_option linter.unusedVariables false
namespace Go.Abs.Kon
open Go Go.Proofs Go.Abs
set_option maxRecDepth 100000
set_option maxHeartbeats 4000000
/-! Sizes -/
/-! What is rebuilt is such as memory allows -/
/-! The closures -/
/-! Shift -/
end Go.Abs.Kon
