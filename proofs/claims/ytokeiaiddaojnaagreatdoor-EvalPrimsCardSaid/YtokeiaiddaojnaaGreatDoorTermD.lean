/- Terms. -/
import Derived.Test.YtokeiaiddaojnaaGreatDoorTermC
import Derived.Test.YtokeiaiddaojnaaGreatDoorKonG
import Derived.Test.YtokeiaiddaojnaaGreatDoorKonH
set_option linter.unusedSimpArgs false
set_option linter.unusedVariables false
namespace Go.Abs.Kon
open Go Go.Proofs Go.Abs
set_option maxRecDepth 100000
set_option maxHeartbeats 4000000
/-! Sizes -/
mutual
theorem measT_wt:∀(t:TermT) (left depth:Int),(measT t left depth).2=true→(wtT t:Int)≤(measT t left depth).1
 | .mk op n s con to k names l,left,depth=>by
   rw[measT,wtT]
   split
   · intro h;cases h
   · intro h
     have:=measTL_wt l left _ depth h
     have h1:(0:Int)≤(if hasConF op=true then (sizeF con:Int) else 0):=by split<;>omega
     have h2:(0:Int)≤(if op=8 then (sizeF to:Int) else 0):=by split<;>omega
     omega
theorem measTL_wt:∀(l:List TermT) (left n depth:Int),(measTL l left n depth).2=true→n+wtTL l≤(measTL l left n depth).1
 | [],left,n,depth=>by rw[measTL,wtTL];intro _;simp
 |x::r,left,n,depth=>by
   rw[measTL,wtTL]
   split
   · intro h;cases h
   · rename_i h
     intro h1
     have h2:=measT_wt x _ _ (by simpa using h)
     have h3:=measTL_wt r _ _ _ h1
     omega
end
theorem valid_wt {t:TermT}(h:validT t=true):wtT t≤20000:=by
 have h1:=measT_wt t 20000 1 h
 have h2:=(measT_le t 20000 1).2 h
 omega
theorem above_len (l:List Int) (u:Int):(above l u).length≤l.length:=List.length_filterMap_le _ _
theorem freeF_len (c:ConT):(freeF c).length≤20001:=by
 have:=asc_len (freeF c) 0 20000 (freeF_asc c) (fun i hi=>freeF_n hi)
 omega
mutual
theorem consF_len:∀(t:TermT) (uc:Int),(consF t uc).length≤40002*wtT t
 | .mk op n s con to k names l,uc=>by
   rw[consF,wtT,List.length_append,List.length_append]
   have h1:(if hasConF op=true then above (freeF con) uc else []).length≤20001:=by
     split
     · exact Nat.le_trans (above_len _ _) (freeF_len con)
     · simp
   have h2:(if op=8 then above (freeF to) uc else []).length≤20001:=by
     split
     · exact Nat.le_trans (above_len _ _) (freeF_len to)
     · simp
   have h3:=consL_len op l 0 uc
   omega
theorem consL_len (op:Int):∀(l:List TermT) (i:Nat) (uc:Int),(consL op l i uc).length≤40002*wtTL l
 | [],i,uc=>by rw[consL];simp
 |x::r,i,uc=>by
   rw[consL,wtTL,List.length_append]
   have h1:=consF_len x (uc+insC op i)
   have h2:=consL_len op r (i+1) uc
   omega
end
mutual
theorem termsF_len:∀(t:TermT) (ut:Int),(termsF t ut).length≤wtT t
 | .mk op n s con to k names l,ut=>by
   rw[termsF,wtT,List.length_append]
   have h1:(if op=1 then above [n] ut else []).length≤1:=by
     split
     · exact Nat.le_trans (above_len _ _) (by simp)
     · simp
   have h3:=termsL_len op l 0 ut
   omega
theorem termsL_len (op:Int):∀(l:List TermT) (i:Nat) (ut:Int),(termsL op l i ut).length≤wtTL l
 | [],i,ut=>by rw[termsL];simp
 |x::r,i,ut=>by
   rw[termsL,wtTL,List.length_append]
   have h1:=termsF_len x (ut+insT op i)
   have h2:=termsL_len op r (i+1) ut
   omega
end
theorem insC_nn (op:Int) (i:Nat):0≤insC op i:=by rw[insC];(repeat' split)<;>omega
/-! What is rebuilt is such as memory allows -/
/-! The closures -/
/-! Shift -/
/-! The law's own -/
def FreeT (t:TermT):List Int×List Int×Int:=if validT t=true then (sortU (consF t 0),sortU (termsF t 0),0) else ([],[],1)
theorem tFreeX_spec (t:TermT) (hok:okT t) (hwc:wcT t):Spec Tryz.prog 67 [pp (encT t)] [] (.tuple [.slice (ints (FreeT t).1),.slice (ints (FreeT t).2.1),.int .i64 (FreeT t).2.2]) []:=by
 have hV:=tValid_spec t hok
 rw[FreeT]
 cases hv:validT t with
 |false=>
   rw[hv] at hV
   rw[if_neg (by decide)]
   refine wk (rv:=[.tmp 2,.tmp 3,.tmp 4]) ann67 15 Tryz.func67 ?_
   simp only[go_sem,encT_sz]
   refine aCall_intro hV ?_
   simp only[go_sem]
   try rfl
 |true=>
   rw[hv] at hV
   obtain ⟨hwf,hd⟩:=valid_wf hv
   have hwt:=valid_wt hv
   have hl1:=consF_len t 0
   have hl2:=termsF_len t 0
   have hF:=free_spec t hwf hok hwc (by omega) (by omega) (by omega)
   rw[if_pos rfl]
   generalize sortU (consF t 0)=la at hF
   generalize sortU (termsF t 0)=lb at hF
   refine wk (rv:=[.tmp 2,.tmp 3,.tmp 4]) ann67 15 Tryz.func67 ?_
   simp only[go_sem,encT_sz]
   refine aCall_intro hV ?_
   simp only[go_sem,encT_sz]
   refine aCall_intro hF ?_
   simp only[go_sem]
end Go.Abs.Kon
