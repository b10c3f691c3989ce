/- Terms. -/
import Derived.Test.YtokeiaiddaojnaaGreatDoorTermD
import Derived.Test.YtokeiaiddaojnaaGreatDoorKonH
import Derived.Test.YtokeiaiddaojnaaGreatDoorTermB
set_option linter.unusedSimpArgs false
set_option linter.unusedVariables false
namespace Go.Abs.Kon
open Go Go.Proofs Go.Abs
set_option maxRecDepth 100000
set_option maxHeartbeats 4000000
section fuse
variable {c1 c2 c3 c4:ConT→Int→ConT}{v1 v2 v3 v4:Int→Int→Int→TermT}{b1 b2 b3 b4 d1 d2 d3 d4:Int}
end fuse
/-! Rebuilding is mapping -/
section kept
variable {cf:ConT→Int→Int→ConT×Int}{vf:Int→Int→Int→TermT×Int}{cf':ConT→Int→ConT}{vf':Int→Int→Int→TermT}
end kept
/-! There and back -/
/-! Substitutions commute -/
/-! How great it is -/
/-! Under binders -/
/-! Constructors -/
/-! How great what is made is -/
/-! Free variables -/
theorem mem_aboveF {c:ConT}(h:validF c=true) {u:Int}(hu:0≤u) {i:Int}:i∈above (freeF c) u↔∃x b,(x,b)∈leaves c 0∧x.op=1∧x.n - b≥u∧i=x.n - b - u:=by
 rw[mem_above]
 constructor
 · rintro ⟨k,h1,h2,rfl⟩
   obtain ⟨x,b,e1,e2,e3,rfl⟩:=mem_freeL.1 ((mem_freeF h).1 h1)
   exact ⟨x,b,e1,e2,h2,rfl⟩
 · rintro ⟨x,b,e1,e2,e3,rfl⟩
   exact ⟨x.n - b,(mem_freeF h).2 (mem_freeL.2 ⟨x,b,e1,e2,by omega,rfl⟩),e3,rfl⟩
theorem mem_above1 {a w i:Int}:i∈above [a] w↔a≥w∧i=a - w:=by
 rw[mem_above]
 constructor
 · rintro ⟨n,h,h1,h2⟩
   rw[List.mem_singleton] at h
   subst h
   exact ⟨h1,h2⟩
 · rintro ⟨h1,h2⟩
   exact ⟨a,by simp,h1,h2⟩
/-! A closed term that is substituted -/
end Go.Abs.Kon
