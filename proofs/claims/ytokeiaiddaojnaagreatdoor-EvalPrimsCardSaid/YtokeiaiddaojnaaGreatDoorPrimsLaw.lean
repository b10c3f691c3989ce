/- The law EvalPrims. -/
import Derived.Test.YtokeiaiddaojnaaGreatDoorPrimsC
import Derived.Test.YtokeiaiddaojnaaGreatDoorPrimsB
set_option linter.unusedSimpArgs false
set_option linter.unusedVariables false
namespace Go.Abs.Kon
open Go Go.Proofs Go.Abs
set_option maxRecDepth 100000
set_option maxHeartbeats 1000000
theorem EvalPrims_spec (k:Int) (l:List ValT) (hok:∀v∈l,okW v):Spec Tryz.prog 6 [ii k,pp (.slice (l.map encV))] [] (.bool true) []:=by
 have hf:=fewVs_spec l 100 (by decide) (by decide)
 simp only[fB,iB] at hf
 refine wk (rv:=[.tmp 4]) ann6 51 Tryz.func6 ?_
 simp only[go_sem]
 refine aCall_intro awake_spec ?_
 simp only[go_sem]
 by_cases h3:(l.length:Int)>3
 · simp only[go_sem,List.length_map,decide_eq_true h3]
 have f3:=decide_eq_false h3
 cases hb:(anyN notW l 100).1 with
 |true=>
   rw[hb] at hf
   simp only[go_sem,List.length_map,f3]
   refine aCall_intro hf ?_
   simp only[go_sem]
 |false=>
   rw[hb] at hf
   rw[←anyW_eq] at hb
   have hnd:=(anyW_nd l 100 (by decide) (by decide) hb).1
   have hnd0:=(anyW_nd l 100 (by decide) (by decide) hb).2
   have hsz:=anyW_sized l 100 hb
   have hv:∀v∈l,okW v∧sizedV v∧ndV v≤400:=fun v hv=>⟨hok v hv,sizedVs_mem.1 hsz v hv,by have:=ndVs_mem hv;omega⟩
   have hE:=ePrim_spec k l fun v h=>(hv v h).2.2
   have hR:=rPrim_spec k l (by omega) hv
   have hS:=Same14_refl (primO k l).1
   generalize primO k l=r at hE hR hS
   obtain ⟨w,c,e⟩:=r
   have e1:(c==c)=true:=by rw[beq_iff_eq]
   have e2:(e==e)=true:=by rw[beq_iff_eq]
   obtain ⟨wop,wn,ws,wnames,wl⟩:=w
   simp only[encV_mk] at hE hR hS
   simp only[go_sem,List.length_map,f3]
   refine aCall_intro hf ?_
   simp only[go_sem]
   refine aCall_intro hE ?_
   simp only[go_sem]
   refine aCall_intro hR ?_
   simp only[go_sem]
   refine aCall_intro hS ?_
   simp only[go_sem,e1,e2]
end Go.Abs.Kon
