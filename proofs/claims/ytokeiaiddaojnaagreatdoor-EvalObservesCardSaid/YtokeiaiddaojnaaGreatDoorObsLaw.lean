/- The law EvalObserves. -/
import Derived.Test.YtokeiaiddaojnaaGreatDoorGuardB
import Derived.Test.YtokeiaiddaojnaaGreatDoorTermF
import Derived.Test.YtokeiaiddaojnaaGreatDoorRunsLaw
set_option linter.unusedSimpArgs false
set_option linter.unusedVariables false
namespace Go.Abs.Kon
open Go Go.Proofs Go.Abs
set_option maxRecDepth 100000
set_option maxHeartbeats 1000000
mutual
def ndT:TermT→Nat
 | .mk _ _ _ _ _ _ _ l=>1+ndTs l
def ndTs:List TermT→Nat
 | []=>0
 |x::r=>ndT x+ndTs r
end
theorem ndTs_mem {x:TermT}:∀{l:List TermT},x∈l→ndT x≤ndTs l
 | [],h=>absurd h (by simp)
 |y::r,h=>by
  rw[ndTs]
  rcases List.mem_cons.1 h with rfl|h
  ·omega
  ·have:=ndTs_mem h;omega
mutual
theorem fewT_nd:∀(c:TermT) (n d:Int),0≤n→n≤1500→(fewT c n d).1=true→4*(ndT c:Int)+(fewT c n d).2≤n∧0≤(fewT c n d).2
 | .mk op m s con to k names l,n,d,h0,h1,h=>by
  rw[fewT] at h ⊢
  split at h
  ·cases h
  rename_i g1
  rw[if_neg g1]
  split at h
  ·cases h
  rename_i g2
  rw[if_neg g2]
  split at h
  ·cases h
  rename_i g3
  rw[if_neg g3]
  split at h
  ·cases h
  rename_i g4
  rw[if_neg g4]
  split at h
  ·cases h
  rename_i g5
  rw[if_neg g5]
  split at h
  ·cases h
  rename_i g6
  rw[if_neg g6]
  have g6':(fewQ con to k (n - 1)).1=true:=by simpa using g6
  have hq:(fewQ con to k (n - 1)).2+3≤n - 1∧0≤(fewQ con to k (n - 1)).2:=by
   have hd:=fewQ_down con to k (n - 1) (by omega) (by omega)
   refine ⟨?_,hd.2 g6'⟩
   unfold fewQ at g6' ⊢
   split at g6'
   ·cases g6'
   rename_i q1
   rw[if_neg q1]
   split at g6'
   ·cases g6'
   rename_i q2
   rw[if_neg q2]
   obtain ⟨a1,a2,a4,a3⟩:=fewC_okS con (n - 1) 0 (by omega) (by omega) (by simpa using q1)
   obtain ⟨b1,b2,b4,b3⟩:=fewC_okS to (fewC con (n - 1) 0).2 0 a3 (by omega) (by simpa using q2)
   have hk:=fewK_kn _ _ g6'
   have hkn:(knF (.mk k):Int)=1+knL k:=by rw[knF];omega
   have c1:1≤sizeF con:=by cases con;rw[sizeF];omega
   have c2:1≤sizeF to:=by cases to;rw[sizeF];omega
   omega
  obtain ⟨a1,a2⟩:=anyT_nd l (fewQ con to k (n - 1)).2 (d+1) hq.2 (by omega) (by simpa using h)
  rw[ndT]
  simp only
  exact ⟨by omega,a2⟩
theorem anyT_nd:∀(l:List TermT) (n d:Int),0≤n→n≤1500→(anyT l n d).1=false→4*(ndTs l:Int)+(anyT l n d).2≤n∧0≤(anyT l n d).2
 | [],n,d,h0,_,_=>by rw[anyT,ndTs];simp[h0]
 |x::r,n,d,h0,h1,h=>by
  rw[anyT] at h ⊢
  split at h
  ·cases h
  ·rename_i g
   rw[if_neg g]
   have g':(fewT x n d).1=true:=by simpa using g
   obtain ⟨a1,a2⟩:=fewT_nd x n d h0 h1 g'
   obtain ⟨b1,b2⟩:=anyT_nd r _ d a2 (by omega) h
   rw[ndTs]
   exact ⟨by omega,b2⟩
end
theorem fits_nd {t:TermT}(h:fitsS [t]=true):ndT t≤375:=by
 rw[fitsS,←anyT_eq] at h
 have:=anyT_nd [t] 1500 0 (by decide) (by decide) (by simpa using h)
 rw[ndTs,ndTs] at this
 omega
/-! Proper values -/
def opsI:List (Int×Int):=[(2,1),(3,2),(10,3),(12,4),(14,5),(8,6)]
mutual
def obsV:TermT→ValT
 | .mk op n s _ _ _ names l=>match findI opsI op with
  |none=>.mk 7 0 ByteArray.empty [] []
  |some o=>.mk o n s names (obsVs l)
def obsVs:List TermT→List ValT
 | []=>[]
 |x::r=>obsV x::obsVs r
end
theorem obsVs_map:∀l,obsVs l=l.map obsV
 | []=>rfl
 |x::r=>by rw[obsVs,obsVs_map r];rfl
def isLam (t:TermT):Bool:=t.op==4||t.op==6
mutual
def properT:TermT→Bool
 | .mk op _ _ _ _ _ _ l=>if op=16 then isLam (nthT l 0) else if op=10∨op=12∨op=14∨op=8 then properTs l else true
def properTs:List TermT→Bool
 | []=>true
 |x::r=>properT x&&properTs r
end
mutual
def fixedT:TermT→Bool
 | .mk op _ _ _ _ _ _ l=>if op=16 then isLam (nthT l 0) else if op=4∨op=6 then true else fixedTs l
def fixedTs:List TermT→Bool
 | []=>true
 |x::r=>fixedT x&&fixedTs r
end
theorem properTs_all:∀l,properTs l=l.all properT
 | []=>rfl
 |x::r=>by rw[properTs,properTs_all r];rfl
theorem fixedTs_all:∀l,fixedTs l=l.all fixedT
 | []=>rfl
 |x::r=>by rw[fixedTs,fixedTs_all r];rfl
theorem strEq_e {s t:ByteArray}(h:strEq s t=true):s=t:=by
 rw[strEq,beq_iff_eq,ByteArray.toList_eq,ByteArray.toList_eq] at h
 obtain ⟨⟨s⟩⟩:=s
 obtain ⟨⟨t⟩⟩:=t
 simp only at h
 rw[h]
theorem wf_len {op n:Int}{s:ByteArray}{con to:ConT}{k:List KindT}{names:List ByteArray}{l:List TermT}(h:wfT (.mk op n s con to k names l)=true):(l.length:Int)=partsT op n names.length∧wfL l=true:=by
 rw[wfT,Bool.and_eq_true] at h
 refine ⟨?_,h.2⟩
 have h1:=h.1
 simp only[nodeT,Bool.and_eq_true,decide_eq_true_eq] at h1
 exact h1.2.2.2.1
theorem proper_fixed:∀(t:TermT),wfT t=true→valF t=true→properT t=fixedT t:=by
 refine TermT.ind1 fun op n s con to k names l ih=>?_
 intro hw hv
 obtain ⟨hl,hwl⟩:=wf_len hw
 rw[properT,fixedT]
 rcases valF_op hv with h|⟨h,hvl⟩
 ·by_cases h16:op=16
  ·rw[if_pos h16,if_pos h16]
  ·rw[if_neg h16,if_neg h16,if_neg (by omega)]
   by_cases h4:op=4∨op=6
   ·rw[if_pos h4]
   ·rw[if_neg h4]
    have h0:l=[]:=by
     have:partsT op n names.length=0:=by rw[partsT,if_pos (by omega)]
     rw[this] at hl
     exact List.eq_nil_of_length_eq_zero (by omega)
    rw[h0,fixedTs]
 ·rw[if_neg (show ¬op=16 by omega),if_pos h,if_neg (show ¬op=16 by omega),if_neg (show ¬(op=4∨op=6) by omega),properTs_all,fixedTs_all]
  rw[valFs_all] at hvl
  have hvl':=List.all_eq_true.1 hvl
  have hwl':=wfL_mem.1 hwl
  clear hl hwl hvl hv hw
  induction l with
  |nil=>rfl
  |cons x r ihr=>
   rw[List.all_cons,List.all_cons,ih x (by simp) (hwl' x (by simp)) (hvl' x (by simp)),ihr (fun y hy=>ih y (by simp[hy])) (fun y hy=>hvl' y (by simp[hy])) (fun y hy=>hwl' y (by simp[hy]))]
mutual
def thT:TermT→List Th→Th
 | .mk op n s con to k names l,env=>if op=2 then intH n else if op=3 then txtH s else if op=16 then fixH (nthT l 0) env else if op=10 then recH names (thTs l env) else
  if op=12 then injH s (nthH (thTs l env) 0) else if op=14 then rollH (nthH (thTs l env) 0) else if op=8 then packH (nthH (thTs l env) 0) else cloH (.mk op n s con to k names l) env
def thTs:List TermT→List Th→List Th
 | [],_=>[]
 |x::r,env=>thT x env::thTs r env
end
mutual
def costT:TermT→Nat
 | .mk op _ _ _ _ _ _ l=>if op=16 then 2 else if op=10∨op=12∨op=14∨op=8 then 1+costTs l else 1
def costTs:List TermT→Nat
 | []=>0
 |x::r=>costT x+costTs r
end
mutual
theorem cost_nd:∀t:TermT,costT t≤2*ndT t
 | .mk op _ _ _ _ _ _ l=>by
  have:=cost_nds l
  rw[costT,ndT]
  split
  ·omega
  ·split<;>omega
theorem cost_nds:∀l:List TermT,costTs l≤2*ndTs l
 | []=>by rw[costTs,ndTs];exact Nat.le_refl _
 |x::r=>by
  have:=cost_nd x
  have:=cost_nds r
  rw[costTs,ndTs];omega
end
theorem evs_val (f:TermT→Nat→List ByteArray→Ev) (k:List Th→Nat→List ByteArray→Ev) (env:List Th) (out:List ByteArray) (F:Nat):∀(l:List TermT) (acc:List Th) (st:Nat),st+costTs l≤F →
  (∀x∈l,∀s,st≤s→s+costT x≤F→f x s out=.ok (thT x env) (s+costT x) out)→evs f k l acc st out=k (acc++thTs l env) (st+costTs l) out
 | [],acc,st,_,_=>by rw[evs,thTs,costTs,List.append_nil,Nat.add_zero]
 |x::r,acc,st,h,hf=>by
  rw[costTs] at h
  rw[evs,hf x (by simp) st (Nat.le_refl _) (by omega),andThen,evs_val f k env out F r (acc++[thT x env]) (st+costT x) (by omega) fun y hy s h1 h2=>hf y (by simp[hy]) s (by omega) h2]
  rw[thTs,costTs,List.append_assoc,Nat.add_assoc];rfl
theorem costT_pos (t:TermT):1≤costT t:=by
 cases t with
 |mk op n s con to k names l=>
  rw[costT]
  split
  ·omega
  ·split<;>omega
theorem ev_val (F:Nat):∀(t:TermT) (g:Nat) (env:List Th) (st:Nat) (out:List ByteArray),wfT t=true→valF t=true→properT t=true→st+costT t≤F→F<g+st→ev F g t env st out=.ok (thT t env) (st+costT t) out:=by
 refine TermT.ind1 fun op n s con to k names l ih=>?_
 intro g env st out hw hv hp hc hg
 have hpos:=costT_pos (.mk op n s con to k names l)
 obtain ⟨hl,hwl⟩:=wf_len hw
 have hwl':=wfL_mem.1 hwl
 obtain ⟨g',rfl⟩:∃g',g=g'+1:=⟨g - 1,by omega⟩
 have hst:¬st=F:=by omega
 rcases valF_op hv with h|⟨h,hvl⟩
 ·rcases h with rfl|rfl|rfl|rfl|rfl
  ·rw[ev,if_neg hst,thT,costT];rfl
  ·rw[ev,if_neg hst,thT,costT];rfl
  ·rw[ev,if_neg hst,thT,costT];rfl
  ·rw[ev,if_neg hst,thT,costT];rfl
  ·rw[properT,if_pos rfl] at hp
   rw[costT,if_pos rfl] at hc
   have hp':(nthT l 0).op=4∨(nthT l 0).op=6:=by simpa [isLam] using hp
   rw[ev,if_neg hst,thT,costT]
   show (if (nthT l 0).op=4∨(nthT l 0).op=6 then (if st+1=F then Ev.bad 3 0 (st+1) out else .ok (fixH (nthT l 0) env) (st+2) out) else .bad 4 0 (st+1) out)=.ok (fixH (nthT l 0) env) (st+2) out
   rw[if_pos hp',if_neg (by omega)]
 ·have h16:¬op=16:=by omega
  have hcost:costT (.mk op n s con to k names l)=1+costTs l:=by rw[costT,if_neg h16,if_pos h]
  rw[properT,if_neg h16,if_pos h,properTs_all] at hp
  rw[valFs_all] at hvl
  have hp':=List.all_eq_true.1 hp
  have hv':=List.all_eq_true.1 hvl
  rw[hcost] at hc ⊢
  have e2:st+1+costTs l=st+(1+costTs l):=by omega
  have hone:op≠10→∃x,l=[x]:=by
   intro h10
   have:partsT op n names.length=1:=by rw[partsT,if_neg (by omega),if_pos (by omega)]
   rw[this] at hl
   match l,hl with
   | [x],_=>exact ⟨x,rfl⟩
  have hsub:∀x,l=[x]→ev F g' x env (st+1) out=.ok (thT x env) (st+1+costT x) out∧st+1+costT x=st+(1+costTs l):=by
   rintro x rfl
   rw[costTs,costTs] at hc ⊢
   exact ⟨ih x (by simp) g' env (st+1) out (hwl' x (by simp)) (hv' x (by simp)) (hp' x (by simp)) (by omega) (by omega),by omega⟩
  rw[ev,if_neg hst,thT]
  rcases h with rfl|rfl|rfl|rfl
  ·show evs (fun x st out=>ev F g' x env st out) (fun vs st out=>.ok (recH names vs) st out) l [] (st+1) out=.ok (recH names (thTs l env)) (st+(1+costTs l)) out
   rw[evs_val _ _ env out F l [] (st+1) (by omega) fun x hx s' h1 h2=>ih x hx g' env s' out (hwl' x hx) (hv' x hx) (hp' x hx) h2 (by omega)]
   rw[List.nil_append,e2]
  ·obtain ⟨x,hx⟩:=hone (by decide)
   obtain ⟨q1,q2⟩:=hsub x hx
   subst hx
   show andThen (ev F g' x env (st+1) out) (fun v st out=>.ok (injH s v) st out)=.ok (injH s (nthH (thTs [x] env) 0)) _ out
   rw[q1,andThen,q2,thTs];rfl
  ·obtain ⟨x,hx⟩:=hone (by decide)
   obtain ⟨q1,q2⟩:=hsub x hx
   subst hx
   show andThen (ev F g' x env (st+1) out) (fun v st out=>.ok (rollH v) st out)=.ok (rollH (nthH (thTs [x] env) 0)) _ out
   rw[q1,andThen,q2,thTs];rfl
  ·obtain ⟨x,hx⟩:=hone (by decide)
   obtain ⟨q1,q2⟩:=hsub x hx
   subst hx
   show andThen (ev F g' x env (st+1) out) (fun v st out=>.ok (packH v) st out)=.ok (packH (nthH (thTs [x] env) 0)) _ out
   rw[q1,andThen,q2,thTs];rfl
theorem obsL_val (env:List Th) (d:Int):∀(l:List TermT) (left:Int),(ndTs l:Int)≤left →
  (∀x∈l,∀lf:Int,(ndT x:Int)≤lf→∃k:Nat,k≤ndT x∧obsT (thT x env) lf d=.inr (obsV x,lf - k))→∃k:Nat,k≤ndTs l∧obsL (thTs l env) left d=.inr (obsVs l,left - k)
 | [],left,_,_=>⟨0,Nat.zero_le _,by rw[thTs,obsL,obsVs];simp⟩
 |x::r,left,h,hx=>by
  rw[ndTs] at h ⊢
  obtain ⟨k1,a1,a2⟩:=hx x (by simp) left (by omega)
  obtain ⟨k2,b1,b2⟩:=obsL_val env d r (left - k1) (by omega) fun y hy=>hx y (by simp[hy])
  refine ⟨k1+k2,by omega,?_⟩
  rw[thTs,obsL,a2]
  simp only
  rw[b2,obsVs]
  simp only[Sum.inr.injEq,Prod.mk.injEq,true_and]
  omega
theorem obs_leaf (op n:Int) (s:ByteArray) (names:List ByteArray) (p:TermT) (e:List Th) (f:Bool) (left d:Int) (h1:1≤left) (h2:d≤400):obsT (.mk op n s names [] p e f) left d=.inr (.mk op n s names [],left - (1:Nat)):=by
 rw[obsT,if_neg (by omega),obsL];rfl
theorem obs_val (env:List Th):∀(t:TermT),wfT t=true→valF t=true→properT t=true→∀left d:Int,(ndT t:Int)≤left→d+ndT t≤401→∃k:Nat,k≤ndT t∧obsT (thT t env) left d=.inr (obsV t,left - k):=by
 refine TermT.ind1 fun op n s con to k names l ih=>?_
 intro hw hv hp left d h1 h2
 obtain ⟨hl,hwl⟩:=wf_len hw
 have hwl':=wfL_mem.1 hwl
 have hnode:=hw
 rw[wfT,Bool.and_eq_true] at hnode
 have hn:=hnode.1
 simp only[nodeT,Bool.and_eq_true,decide_eq_true_eq] at hn
 obtain ⟨_,_,hnum,_,htxt,hnam,_⟩:=hn
 rw[ndT] at h1 h2 ⊢
 rw[thT,obsV]
 rw[properT] at hp
 have hnames:op≠10→op≠13→names=[]:=by
  intro g1 g2
  rw[namesT,if_pos ⟨g1,g2⟩] at hnam
  exact List.eq_nil_of_length_eq_zero (of_decide_eq_true hnam)
 have htext:op≠3→op≠11→op≠12→s=ByteArray.empty:=by
  intro g1 g2 g3
  rw[textT,if_neg g1,if_neg (by omega)] at htxt
  exact strEq_e htxt
 have hzero:op≠1→op≠2→op≠18→op≠19→n=0:=by
  intro g1 g2 g3 g4
  rw[numT,if_neg g1,if_neg g2,if_neg g3,if_neg g4] at hnum
  simpa using hnum
 rcases valF_op hv with h|⟨h,hvl⟩
 ·have hleaf:(op=2∨op=3)→l=[]:=by
   intro g
   have:partsT op n names.length=0:=by rw[partsT,if_pos (by omega)]
   rw[this] at hl
   exact List.eq_nil_of_length_eq_zero (by omega)
  by_cases g2:op=2
  ·subst g2
   obtain rfl:=hleaf (.inl rfl)
   obtain rfl:=hnames (by decide) (by decide)
   obtain rfl:=htext (by decide) (by decide) (by decide)
   exact ⟨1,by omega,obs_leaf 1 n ByteArray.empty [] zeroT [] false left d (by omega) (by omega)⟩
  by_cases g3:op=3
  ·subst g3
   obtain rfl:=hleaf (.inr rfl)
   obtain rfl:=hnames (by decide) (by decide)
   obtain rfl:=hzero (by decide) (by decide) (by decide) (by decide)
   exact ⟨1,by omega,obs_leaf 2 0 s [] zeroT [] false left d (by omega) (by omega)⟩
  have hno:findI opsI op=none:=by
   simp only[findI,opsI]
   rw[if_neg (by omega),if_neg (by omega),if_neg (by omega),if_neg (by omega),if_neg (by omega),if_neg (by omega)]
  rw[if_neg g2,if_neg g3,hno]
  refine ⟨1,by omega,?_⟩
  split
  ·exact obs_leaf 7 0 ByteArray.empty [] _ env true left d (by omega) (by omega)
  ·rw[if_neg (by omega),if_neg (by omega),if_neg (by omega),if_neg (by omega)]
   exact obs_leaf 7 0 ByteArray.empty [] _ env false left d (by omega) (by omega)
 ·rw[if_neg (show ¬op=2 by omega),if_neg (show ¬op=3 by omega),if_neg (show ¬op=16 by omega)]
  rw[if_neg (show ¬op=16 by omega),if_pos h,properTs_all] at hp
  rw[valFs_all] at hvl
  have hp':=List.all_eq_true.1 hp
  have hv':=List.all_eq_true.1 hvl
  obtain rfl:=hzero (by omega) (by omega) (by omega) (by omega)
  obtain ⟨k1,a1,a2⟩:=obsL_val env (d+1) l (left - 1) (by omega) fun x hx lf hlf=>ih x hx (hwl' x hx) (hv' x hx) (hp' x hx) lf (d+1) hlf (by have:=ndTs_mem hx;omega)
  refine ⟨1+k1,by omega,?_⟩
  have hN:¬(left - 1<0∨d>400):=by omega
  have e:left - 1 - (k1:Int)=left - ((1+k1:Nat):Int):=by omega
  rw[e] at a2
  by_cases h10:op=10
  ·subst h10
   obtain rfl:=htext (by decide) (by decide) (by decide)
   rw[if_pos rfl]
   show obsT (.mk 3 0 ByteArray.empty names (thTs l env) zeroT [] false) left d=.inr (.mk 3 0 ByteArray.empty names (obsVs l),_)
   rw[obsT,if_neg hN,a2]
  ·rw[if_neg h10]
   obtain rfl:=hnames h10 (by omega)
   have h1:l.length=1:=by
    have:partsT op 0 0=1:=by rw[partsT,if_neg (by omega),if_pos (by omega)]
    rw[List.length_nil,this] at hl
    omega
   match l,h1 with
   | [x],_=>
    have eh:nthH (thTs [x] env) 0=thT x env:=by rw[thTs,thTs];rfl
    have et:thTs [x] env=[thT x env]:=by rw[thTs,thTs]
    rw[et] at a2
    rw[eh]
    rcases h with h|h|h|h
    ·exact absurd h h10
    ·subst h
     show obsT (.mk 4 0 s [] [thT x env] zeroT [] false) left d=.inr (.mk 4 0 s [] (obsVs [x]),_)
     rw[obsT,if_neg hN,a2]
    ·subst h
     obtain rfl:=htext (by decide) (by decide) (by decide)
     show obsT (.mk 5 0 ByteArray.empty [] [thT x env] zeroT [] false) left d=.inr (.mk 5 0 ByteArray.empty [] (obsVs [x]),_)
     rw[obsT,if_neg hN,a2]
    ·subst h
     obtain rfl:=htext (by decide) (by decide) (by decide)
     show obsT (.mk 6 0 ByteArray.empty [] [thT x env] zeroT [] false) left d=.inr (.mk 6 0 ByteArray.empty [] (obsVs [x]),_)
     rw[obsT,if_neg hN,a2]
end Go.Abs.Kon
namespace Go.Abs.Kon
open Go Go.Proofs Go.Abs
set_option maxRecDepth 100000
set_option maxHeartbeats 1000000
theorem proper1_spec (t:TermT) (b:Bool) (h:Spec Tryz.prog 42 [pp (encT t)] [] (.bool b) []):Spec Tryz.prog 87 [pp (encT t)] [] (.bool (!b)) []:=by
 refine wk (rv:=[.tmp 2]) ann87 6 Tryz.func87 ?_
 simp only[go_sem,encT_sz]
 refine aCall_intro h ?_
 simp only[go_sem]
theorem wf_16 {op n:Int}{s:ByteArray}{con to:ConT}{k:List KindT}{names:List ByteArray}{l:List TermT}(h:wfT (.mk op n s con to k names l)=true) (h16:op=16):∃x,l=[x]:=by
 obtain ⟨hl,_⟩:=wf_len h
 have:partsT op n names.length=1:=by rw[partsT,if_neg (by omega),if_pos (by omega)]
 rw[this] at hl
 match l,hl with
 | [x],_=>exact ⟨x,rfl⟩
theorem proper_spec:∀t:TermT,wfT t=true→Spec Tryz.prog 42 [pp (encT t)] [] (.bool (properT t)) []:=by
 refine TermT.ind1 fun op n s con to k names l ih=>?_
 intro hw
 rw[properT]
 by_cases h16:op=16
 ·rw[if_pos h16]
  obtain ⟨x,rfl⟩:=wf_16 hw h16
  subst h16
  obtain ⟨op',n',s',con',to',k',names',l'⟩:=x
  show Spec _ _ _ _ (.bool (op'==4||op'==6)) _
  refine wk (rv:=[.tmp 2]) ann42 30 Tryz.func42 ?_
  simp only[go_sem,encT_mk,List.map_cons,List.map_nil,List.getElem?_cons_zero]
  cases h4:op'==4 with
  |true=>simp only[go_sem,encT_mk,List.map_cons,List.map_nil,List.getElem?_cons_zero,h4,Bool.true_or]
  |false=>simp only[go_sem,encT_mk,List.map_cons,List.map_nil,List.getElem?_cons_zero,h4,Bool.false_or]
 ·have hA:Spec Tryz.prog 28 [pp (.slice (l.map encT)),pp (.fn 87 [])] [] (.bool (!properTs l)) []:=by
   have ha:(!properTs l)=(l.any fun x=>!properT x):=by rw[properTs_all];simp[List.all_eq_not_any_not]
   rw[ha]
   exact ContainsFuncT2 encT l 87 [] _ (fun e _=>encT_sz e) fun x hx=>proper1_spec x _ (ih x hx (wfL_mem.1 (wf_len hw).2 x hx))
  rw[if_neg h16]
  generalize hres:(if op=10∨op=12∨op=14∨op=8 then properTs l else true)=res
  generalize properTs l=b at hA hres
  have d16:(op==16)=false:=by rw[beq_eq_false_iff_ne];exact h16
  clear ih hw
  refine wk (rv:=[.tmp 2]) ann42 30 Tryz.func42 ?_
  simp only[go_sem,encT_mk,d16]
  repeat' ((first|refine condK_intro (fun _=>?_) (fun _=>?_)|refine guardK_intro (fun _=>?_) (fun _=>?_)|refine aCall_intro hA ?_)<;>simp only[go_sem])
  all_goals (clear hA;subst hres;simp_all)
theorem fixed_spec:∀t:TermT,wfT t=true→Spec Tryz.prog 45 [pp (encT t)] [] (.bool (fixedT t)) []:=by
 refine TermT.ind1 fun op n s con to k names l ih=>?_
 intro hw
 rw[fixedT]
 by_cases h16:op=16
 ·rw[if_pos h16]
  obtain ⟨x,rfl⟩:=wf_16 hw h16
  subst h16
  obtain ⟨op',n',s',con',to',k',names',l'⟩:=x
  show Spec _ _ _ _ (.bool (op'==4||op'==6)) _
  refine wk (rv:=[.tmp 2]) ann45 43 Tryz.func45 ?_
  simp only[go_sem,encT_mk,List.map_cons,List.map_nil,List.getElem?_cons_zero]
  cases h4:op'==4 with
  |true=>simp only[go_sem,encT_mk,List.map_cons,List.map_nil,List.getElem?_cons_zero,h4,Bool.true_or]
  |false=>simp only[go_sem,encT_mk,List.map_cons,List.map_nil,List.getElem?_cons_zero,h4,Bool.false_or]
 ·rw[if_neg h16]
  have d16:(op==16)=false:=by rw[beq_eq_false_iff_ne];exact h16
  by_cases h4:op=4
  ·rw[if_pos (.inl h4)]
   subst h4
   refine wk (rv:=[.tmp 2]) ann45 43 Tryz.func45 ?_
   simp only[go_sem,encT_mk]
  by_cases h6:op=6
  ·rw[if_pos (.inr h6)]
   subst h6
   refine wk (rv:=[.tmp 2]) ann45 43 Tryz.func45 ?_
   simp only[go_sem,encT_mk]
  rw[if_neg (by omega)]
  have d4:(op==4)=false:=by rw[beq_eq_false_iff_ne];exact h4
  have d6:(op==6)=false:=by rw[beq_eq_false_iff_ne];exact h6
  generalize hres:fixedTs l=res
  have hwl:=wfL_mem.1 (wf_len hw).2
  refine wf (rv:=[.tmp 2]) ann45 43 Tryz.func45 fun hfit=>?_
  have hlen:l.length≤9223372036854775807:=by
   simp only[argsFit,SV.pv?,SC.pv?,encT_mk,PV.fit,fitL,List.length_map,maxLen_eq] at hfit
   exact hfit.1.2.2.2.2.2.2.2.2.2.2.2.2.2.2.2.2.2.1.1
  clear hfit
  simp only[go_sem,encT_mk,d16,d4,d6]
  refine aLoop_list (α:=TermT) (β:=Nat) (fun rest b=>⟨[(3,ii b),(1,pp (.ep (encT (.mk op n s con to k names l)) 0))],[],[]⟩)
   (fun rest b=>∃pre,l=pre++rest∧b=pre.length∧fixedTs rest=res) ?_ ?_ l 0 _ ?_ ⟨[],rfl,rfl,hres⟩
  ·rintro m ⟨pre,g1,g2,g3⟩ K
   simp only[List.append_nil] at g1
   subst g1
   rw[fixedTs] at g3
   subst g3
   simp only[go_sem,g2,lt_false (Int.le_refl _),List.length_map,encT_mk]
  ·rintro x rest m ⟨pre,g1,g2,g3⟩ K hK
   have hx:(l.map encT)[m]? = some (encT x):=by simp[g1,g2]
   have hlt:(m:Int)<l.length:=by rw[g1,g2];simp;omega
   have hll:m<l.length:=by rw[g1,g2];simp
   have hm:x∈l:=by simp[g1]
   have w4:IntKind.i64.wrap ((m:Int)+1)=((m+1:Nat):Int):=by rw[wrap_id (by omega) (by omega)];simp
   have hI:=ih x hm (hwl x hm)
   rw[fixedTs] at g3
   cases hv:fixedT x with
   |false=>
    rw[hv,Bool.false_and] at g3
    rw[hv] at hI
    subst g3
    simp only[go_sem,decide_eq_true hlt,hx,encT_sz,List.length_map,encT_mk]
    refine aCall_intro hI ?_
    simp only[go_sem]
   |true=>
    rw[hv,Bool.true_and] at g3
    rw[hv] at hI
    simp only[go_sem,decide_eq_true hlt,hx,encT_sz,List.length_map,encT_mk]
    refine aCall_intro hI ?_
    simp only[go_sem,w4]
    refine hK (m+1) _ ?_ ⟨pre++[x],by simp[g1],by simp[g2],g3⟩
    simp only[go_sem,encT_mk]
  ·simp only[go_sem,Int.natCast_zero,encT_mk]
end Go.Abs.Kon
namespace Go.Abs.Kon
open Go Go.Proofs Go.Abs
set_option maxRecDepth 100000
set_option maxHeartbeats 1000000
def accB:List ValT→SC
 | []=>.nilS
 |v::r=>.own 84 (.agg 5) ((v::r).map encV)
theorem accB_nil:accB []=.nilS:=rfl
theorem accB_cons (v:ValT) (r:List ValT):accB (v::r)=.own 84 (.agg 5) (encV v::r.map encV):=rfl
theorem observed_spec:∀t:TermT,okT t→Spec Tryz.prog 43 [pp (encT t)] [] (encV (obsV t)) []:=by
 refine TermT.ind1 fun op n s con to k names l ih=>?_
 intro hok
 simp only[okT] at hok
 obtain ⟨_,_,_,_,_,hnl,hll,hokl⟩:=hok
 rw[obsV,opsI]
 generalize hf:findI [(2,1),(3,2),(10,3),(12,4),(14,5),(8,6)] op=fo
 cases fo with
 |none=>
  refine wk (rv:=[.cell 2 36]) ann43 46 Tryz.func43 ?_
  simp only[go_sem,List.nil_append,List.cons_append,List.map_cons,List.map_nil,List.mem_cons,List.not_mem_nil,Int.reduceEq,or_false,or_self,encT_mk,hf,Option.isSome_none,Option.getD_none,encV_mk]
 |some o=>
  rw[obsVs_map,encV_mk]
  refine wk (rv:=[.cell 2 36]) ann43 46 Tryz.func43 ?_
  simp only[go_sem,List.nil_append,List.cons_append,List.map_cons,List.map_nil,List.mem_cons,List.not_mem_nil,Int.reduceEq,or_false,or_self,encT_mk,hf,Option.isSome_some,Option.getD_some]
  refine aCall_intro (Clone_spec names (by omega)) ?_
  simp only[go_sem,List.length_map]
  iterate 8 (try (refine ⟨by kernel_rfl,?_⟩))
  try simp only[go_sem,List.length_map]
  refine aLoop_list (α:=TermT) (β:=List ValT) (fun rest b=>⟨[(33,ii b.length),(6,.one (.ptr (.loc 6) 0)),(31,pp (.slice (l.map encT))),(2,.one (.ptr (.loc 2) 0)),(32,ii l.length)],
    [(.loc 2,⟨.agg 5,.agg [.pv (.int .i64 0),.pv (.int .i64 0),.pv (.str ByteArray.empty),.nilS,.nilS]⟩),(.loc 6,⟨.agg 5,.agg [.pv (.int .i64 o),.pv (.int .i64 n),.pv (.str s),.pv (.slice (names.map .str)),accB b]⟩)],[]⟩)
   (fun rest b=>∃pre,l=pre++rest∧b=pre.map obsV) ?_ ?_ l [] _ ?_ ⟨[],rfl,rfl⟩
  ·rintro ws ⟨pre,g2,g3⟩ K
   rw[List.append_nil] at g2
   subst g2
   have g4:ws.length=l.length:=by rw[g3];simp
   have d0:decide ((ws.length:Int)<(l.length:Int))=false:=by rw[g4];exact lt_false (Int.le_refl _)
   rw[←g3]
   cases ws with
   |nil=>
    simp only[List.length_nil] at d0
    simp only[go_sem,d0,accB_nil,List.length_nil,List.map_nil]
   |cons w0 wr=>
    simp only[List.length_cons] at d0
    simp only[go_sem,d0,accB_cons,List.length_cons,List.map_cons]
  ·rintro x rest ws ⟨pre,g2,g3⟩ K hK
   have g4:ws.length=pre.length:=by rw[g3];simp
   have hx:(l.map encT)[ws.length]? = some (encT x):=by rw[g2,g4];simp
   have hlt:decide ((ws.length:Int)<(l.length:Int))=true:=decide_eq_true (by rw[g2,g4];simp;omega)
   have hvl:ws.length<l.length:=by rw[g2,g4];simp
   have w4:IntKind.i64.wrap ((ws.length:Int)+1)=((ws.length+1:Nat):Int):=by rw[wrapI (by omega) (by omega)];simp
   have hxm:x∈l:=by rw[g2];simp
   have hsp:=ih x hxm (okTs_mem.1 hokl x hxm)
   have hN:ws++[obsV x]=(pre++[x]).map obsV:=by rw[g3];simp
   cases ws with
   |nil=>
    simp only[List.length_nil] at hx hlt w4
    simp only[go_sem,hlt,hx,accB_nil,List.length_nil]
    iterate 8 (try (refine ⟨by kernel_rfl,?_⟩))
    try simp only[go_sem]
    refine aCall_intro hsp ?_
    simp only[go_sem,le_mx,w4]
    iterate 8 (try (refine ⟨by kernel_rfl,?_⟩))
    try simp only[go_sem,le_mx,w4]
    refine hK [obsV x] _ ?_ ⟨pre++[x],by rw[g2];simp,hN⟩
    simp only[go_sem,accB_cons,List.length_cons,List.length_nil,List.map_nil]
   |cons w0 wr=>
    simp only[List.length_cons] at hx hlt w4 hvl
    have e1:((wr.length+1+1)*80≤140737488355328)=True:=by simp;omega
    have e2:(wr.length+1+1≤maxLen)=True:=by rw[maxLen_eq];simp;omega
    simp only[go_sem,hlt,hx,accB_cons,List.length_cons]
    iterate 8 (try (refine ⟨by kernel_rfl,?_⟩))
    try simp only[go_sem]
    refine aCall_intro hsp ?_
    simp only[go_sem,e1,e2,List.length_map,w4]
    iterate 8 (try (refine ⟨by kernel_rfl,?_⟩))
    try simp only[go_sem,e1,e2,List.length_map,w4]
    refine hK (w0::wr++[obsV x]) _ ?_ ⟨pre++[x],by rw[g2];simp,hN⟩
    simp only[go_sem,accB_cons,List.map_append,List.length_append,List.cons_append,List.length_cons,List.length_nil,List.map_cons,List.map_nil]
  ·simp only[go_sem,accB_nil,List.length_nil,Int.natCast_zero]
end Go.Abs.Kon
namespace Go.Abs.Kon
open Go Go.Proofs Go.Abs
set_option maxRecDepth 100000
set_option maxHeartbeats 1000000
def properP (t:TermT):Bool:=closedT t&&((validT t&&valF t)&&properT t)
def obsP (t:TermT):ValT×Int:=if properP t=true then (obsV t,0) else (zeroV,1)
theorem closed_wf {t:TermT}(h:closedT t=true):wfT t=true:=(valid_wf (closed_iff.1 h).1).1
theorem obsP_no {t:TermT}(h:properP t=false):obsP t=(zeroV,1):=by rw[obsP,if_neg (by rw[h];decide)]
theorem obsP_yes {t:TermT}(h:properP t=true):obsP t=(obsV t,0):=by rw[obsP,if_pos h]
theorem Observe_spec (t:TermT) (hok:okT t) (hwc:wcT t):Spec Tryz.prog 14 [pp (encT t)] [] (.tuple [encV (obsP t).1,.int .i64 (obsP t).2]) []:=by
 have hc:=closed_spec t hok hwc
 have hV:=tValue_spec t hok
 cases hcl:closedT t with
 |false=>
  rw[hcl] at hc
  rw[obsP_no (by rw[properP,hcl];rfl)]
  refine wk (rv:=[.cell 2 36,.tmp 3]) ann14 20 Tryz.func14 ?_
  simp only[go_sem,encT_sz]
  refine aCall_intro hc ?_
  simp only[go_sem,encT_sz,zeroV,encV_mk,List.map_nil]
 |true=>
  rw[hcl] at hc
  cases hvl:validT t&&valF t with
  |false=>
   rw[hvl] at hV
   rw[obsP_no (by rw[properP,hcl,hvl];rfl)]
   refine wk (rv:=[.cell 2 36,.tmp 3]) ann14 20 Tryz.func14 ?_
   simp only[go_sem,encT_sz]
   refine aCall_intro hc ?_
   simp only[go_sem,encT_sz]
   refine aCall_intro hV ?_
   simp only[go_sem,encT_sz,zeroV,encV_mk,List.map_nil]
  |true=>
   rw[hvl] at hV
   have hp:=proper_spec t (closed_wf hcl)
   cases hpr:properT t with
   |false=>
    rw[hpr] at hp
    rw[obsP_no (by rw[properP,hcl,hvl,hpr];rfl)]
    refine wk (rv:=[.cell 2 36,.tmp 3]) ann14 20 Tryz.func14 ?_
    simp only[go_sem,encT_sz]
    refine aCall_intro hc ?_
    simp only[go_sem,encT_sz]
    refine aCall_intro hV ?_
    simp only[go_sem,encT_sz]
    refine aCall_intro hp ?_
    simp only[go_sem,encT_sz,zeroV,encV_mk,List.map_nil]
   |true=>
    rw[hpr] at hp
    rw[obsP_yes (by rw[properP,hcl,hvl,hpr];rfl)]
    have ho:=observed_spec t hok
    generalize obsV t=w at ho
    obtain ⟨wop,wn,ws,wnames,wl⟩:=w
    refine wk (rv:=[.cell 2 36,.tmp 3]) ann14 20 Tryz.func14 ?_
    simp only[go_sem,encT_sz]
    refine aCall_intro hc ?_
    simp only[go_sem,encT_sz]
    refine aCall_intro hV ?_
    simp only[go_sem,encT_sz]
    refine aCall_intro hp ?_
    simp only[go_sem,encT_sz]
    refine aCall_intro ho ?_
    simp only[go_sem,encV_mk]
theorem rProper_spec (t:TermT) (hok:okT t):Spec Tryz.prog 15 [pp (encT t)] [] (.bool (properP t)) []:=by
 have hV:=rValue_spec t hok
 cases hvl:validT t&&valF t with
 |false=>
  rw[hvl] at hV
  rw[properP,hvl,Bool.false_and,Bool.and_false]
  refine wk (rv:=[.tmp 2]) ann15 13 Tryz.func15 ?_
  simp only[go_sem,encT_sz]
  refine aCall_intro hV ?_
  simp only[go_sem,encT_sz]
 |true=>
  rw[hvl] at hV
  obtain ⟨hval,hvf⟩:=Bool.and_eq_true _ _ ▸ hvl
  have hc:=rClosed_spec t hval hok
  rw[show (decide ((sortU (consF t 0)).length=0)&&decide ((sortU (termsF t 0)).length=0))=closedT t from by rw[closedT,hval];simp] at hc
  cases hcl:closedT t with
  |false=>
   rw[hcl] at hc
   rw[properP,hcl,Bool.false_and]
   refine wk (rv:=[.tmp 2]) ann15 13 Tryz.func15 ?_
   simp only[go_sem,encT_sz]
   refine aCall_intro hV ?_
   simp only[go_sem,encT_sz]
   refine aCall_intro hc ?_
   simp only[go_sem,encT_sz]
  |true=>
   rw[hcl] at hc
   have hw:=closed_wf hcl
   have hx:=fixed_spec t hw
   rw[properP,hcl,hvl,Bool.true_and,Bool.true_and,proper_fixed t hw hvf]
   generalize fixedT t=b at hx
   refine wk (rv:=[.tmp 2]) ann15 13 Tryz.func15 ?_
   simp only[go_sem,encT_sz]
   refine aCall_intro hV ?_
   simp only[go_sem,encT_sz]
   refine aCall_intro hc ?_
   simp only[go_sem,encT_sz]
   refine aCall_intro hx ?_
   simp only[go_sem,encT_sz]
theorem properP_iff {t:TermT}(h:properP t=true):closedT t=true∧wfT t=true∧valF t=true∧properT t=true:=by
 simp only[properP,Bool.and_eq_true] at h
 exact ⟨h.1,closed_wf h.1,h.2.1.2,h.2.2⟩
def annRO:Ann:=⟨[1],[2000002,6900002,4002007],ann17.live,ann17.head⟩
@[go_sem] theorem annRO_imm:annRO.imm=[1]:=rfl
@[go_sem] theorem annRO_frz:annRO.frz=[2000002,6900002,4002007]:=rfl
@[go_sem] theorem annRO_live:annRO.live=ann17.live:=rfl
@[go_sem] theorem annRO_head:annRO.head=ann17.head:=rfl
theorem rObserve_spec (t:TermT) (hp:properP t=true) (hn:ndT t≤375):Spec Tryz.prog 17 [pp (encT t)] [] (encV (obsV t)) []:=by
 obtain ⟨hcl,hw,hv,hpr⟩:=properP_iff hp
 have hcost:=cost_nd t
 have hr:=fun T=>rval_spec (F:=1048576) (by omega) 1048577 t [] 0 [] T 0 (closed_ok hcl) (Nat.zero_le _) trivial (Nat.zero_le _) (by omega) (Nat.zero_le _)
 have hF:=ev_Fn 1048576 1048577 t [] 0 [] trivial
 rw[ev_val 1048576 t 1048577 [] 0 [] hw hv hpr (by omega) (by omega)] at hr hF
 obtain ⟨k,hk,ho⟩:=obs_val [] t hw hv hpr 20000 1 (by omega) (by omega)
 have hob:Spec Tryz.prog 39 [pp (encW (thT t [])),ii 20000,ii 400] [] (obsR (obsT (thT t []) 20000 1)) []:=robserve_spec (thT t []) 20000 1 hF (by decide) (by decide) (by decide) (by decide)
 rw[ho] at hob
 clear ho
 generalize obsV t=w at hob
 obtain ⟨wop,wn,ws,wnames,wl⟩:=w
 refine wk (rv:=[.cell 2 36]) annRO 16 Tryz.func17 ?_
 simp only[go_sem]
 refine aFlipOr_ops ?_
 simp only[go_sem,Nat.reduceLT,Nat.reduceAdd,ne_eq]
 refine aCall_res (hr _) ?_
 simp only[go_sem,stB,encS_ok]
 refine aCall_intro hob ?_
 simp only[go_sem,obsR,encV_mk]
theorem run_val {t:TermT}(hp:properP t=true) (hn:ndT t≤375):∃st:Int,runP t 2000=(⟨1,0,st,obsV t,[]⟩,0):=by
 obtain ⟨hcl,hw,hv,hpr⟩:=properP_iff hp
 have hcost:=cost_nd t
 obtain ⟨k,hk,ho⟩:=obs_val [] t hw hv hpr 20000 1 (by omega) (by omega)
 refine ⟨((0+costT t:Nat):Int),?_⟩
 rw[runP,if_neg (by rw[hcl];decide),if_neg (by decide),runE]
 show (outE (ev 2000 2001 t [] 0 []),(0:Int))=_
 rw[ev_val 2000 t 2001 [] 0 [] hw hv hpr (by omega) (by omega),outE,ho]
theorem EvalObserves_spec (t:TermT):Spec Tryz.prog 5 [pp (encT t)] [] (.bool true) []:=by
 have hf:=fitsS_spec [t]
 have hok:=fitsS_ok [t]
 refine wk (rv:=[.tmp 2]) ann5 62 Tryz.func5 ?_
 simp only[go_sem]
 refine aCall_intro awake_spec ?_
 simp only[go_sem]
 cases hb:fitsS [t] with
 |false=>
  rw[hb] at hf
  refine aCall_intro hf ?_
  simp only[go_sem]
 |true=>
  rw[hb] at hf
  obtain ⟨h1,h2⟩:=hok hb t (by simp)
  have hn:=fits_nd hb
  have hO:=Observe_spec t h1 h2
  have hP:=rProper_spec t h1
  have hR:=run_spec t 2000 h1 h2
  refine aCall_intro hf ?_
  simp only[go_sem]
  cases hp:properP t with
  |false=>
   rw[obsP_no hp] at hO
   rw[hp] at hP
   refine aCall_intro hO ?_
   simp only[go_sem,zeroV,encV_mk,List.map_nil]
   refine aCall_intro hP ?_
   simp only[go_sem]
  |true=>
   rw[obsP_yes hp] at hO
   rw[hp] at hP
   have hB:=rObserve_spec t hp hn
   obtain ⟨st,hst⟩:=run_val hp hn
   rw[hst] at hR
   have hS:=Same14_refl (obsV t)
   generalize obsV t=w at hO hB hR hS
   obtain ⟨wop,wn,ws,wnames,wl⟩:=w
   simp only[encV_mk,encOut,ValT.op,ValT.n,ValT.s,ValT.names,ValT.l,strs,List.map_nil] at hO hB hR hS
   refine aCall_intro hO ?_
   simp only[go_sem]
   refine aCall_intro hP ?_
   simp only[go_sem]
   refine aCall_intro hR ?_
   simp only[go_sem]
   refine aCall_intro hB ?_
   simp only[go_sem]
   refine aCall_intro hS ?_
   simp only[go_sem]
   refine aCall_intro hS ?_
   simp only[go_sem]
   rfl
end Go.Abs.Kon