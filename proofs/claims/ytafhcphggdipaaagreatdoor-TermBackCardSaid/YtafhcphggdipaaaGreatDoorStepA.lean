/- Terms that are closed; numbers as texts. -/
import Derived.Test.YtafhcphggdipaaaGreatDoorTermE
import Derived.Test.YtafhcphggdipaaaGreatDoorTermF
import Derived.Test.YtafhcphggdipaaaGreatDoorKonH
set_option linter.unusedSimpArgs false
set_option linter.unusedVariables false
namespace Go.Abs.Kon
open Go Go.Proofs Go.Abs
set_option maxRecDepth 100000
set_option maxHeartbeats 4000000
def funT (t:TermT):Bool:=t.op==4||t.op==6
def headFun:List TermT→Bool
 |x::_=>funT x
 | []=>false
mutual
def resT:TermT→Bool
 | .mk op _ _ _ _ _ _ l=>if op=2∨op=3∨op=4∨op=6 then true else if op=16 then headFun l else if op=10∨op=12∨op=14∨op=8 then resL l else false
def resL:List TermT→Bool
 | []=>true
 |x::r=>resT x&&resL r
end
/-! Contractions -/
/-! A step -/
/-! The reference -/
/-! The parts -/
/-! Parts of a term that is right -/
mutual
theorem wf_wc:∀t:TermT,wfT t=true→wcT t
 | .mk op n s con to k names l,h=>by
   rw[wfT,Bool.and_eq_true] at h
   obtain ⟨n1,n2,n3,n4⟩:=node_con h.1
   rw[wcT]
   refine ⟨?_,?_,wfL_wc l h.2⟩
   · by_cases e:hasConF op=true
     · exact (valid_dw (n1 e)).2
     · rw[n2 (by simpa using e)];decide
   · by_cases e:op=8
     · exact (valid_dw (n3 e)).2
     · rw[n4 e];decide
theorem wfL_wc:∀l:List TermT,wfL l=true→wcTs l
 | [],_=>trivial
 |x::r,h=>by
   rw[wfL,Bool.and_eq_true] at h
   exact ⟨wf_wc x h.1,wfL_wc r h.2⟩
end
/-! Both contractions -/
/-! The next node -/
end Go.Abs.Kon
