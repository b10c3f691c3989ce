/- What the laws on runs share. -/
import Derived.Test.YthedhplpgfpodaaGreatDoorStepF
import Derived.Test.YthedhplpgfpodaaGreatDoorTraceA
set_option linter.unusedSimpArgs false
set_option linter.unusedVariables false
namespace Go.Abs.Kon
open Go Go.Proofs Go.Abs
set_option maxRecDepth 100000
set_option maxHeartbeats 4000000
theorem none16_spec : Spec Tryz.prog 28 [pp (encT zeroT)] [] (.bool true) [] := by
 have h := qc2 zeroT zeroT
 rw [sameT_refl] at h
 rw [eT0] at h ⊢
 refine wk (rv := [.tmp 2]) ann28 6 Tryz.func28 ?_
 simp only [go_sem]
 refine aC h ?_
 simp only [go_sem]
theorem reach_len : ∀ (n : Nat) (t : TermT) (out : List ByteArray), (reachT n t out).length ≤ n + 1
 | 0, t, out => by rw [reachT]; simp
 | n + 1, t, out => by
   rw [reachT]
   split
   ·simp
   ·split
    ·simp
    ·have := reach_len n (qak t).1 (out ++ (qak t).2.1)
     simp only [List.length_cons]
     omega
end Go.Abs.Kon
