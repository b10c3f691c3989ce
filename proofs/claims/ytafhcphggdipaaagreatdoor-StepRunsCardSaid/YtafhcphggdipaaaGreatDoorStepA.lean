/- Terms that are closed; numbers as texts. -/
import Derived.Test.YtafhcphggdipaaaGreatDoorTermE
import Derived.Test.YtafhcphggdipaaaGreatDoorTermF
import Derived.Test.YtafhcphggdipaaaGreatDoorKonH
import Derived.Test.YtafhcphggdipaaaGreatDoorShelfA
import Derived.Test.YtafhcphggdipaaaGreatDoorKonG
import Derived.Lib.AppendIntMem
import Derived.Lib.ItoaMem
import Derived.Lib.ItoaLen
import Derived.Test.YtafhcphggdipaaaGreatDoorFacts
import Derived.Test.YtafhcphggdipaaaGreatDoorTermD
set_option linter.unusedSimpArgs false
set_option linter.unusedVariables false
namespace Go.Abs.Kon
open Go Go.Proofs Go.Abs
set_option maxRecDepth 100000
set_option maxHeartbeats 4000000
def actT (op:Int) (nl:Nat):Nat:=if op=5∨op=10∨op=18 then nl else if op=7∨op=8∨op=9∨op=11∨op=12∨op=13∨op=14∨op=15∨op=17 then 1 else 0
def funT (t:TermT):Bool:=t.op==4||t.op==6
def headFun:List TermT→Bool
 |x::_=>funT x
 | []=>false
mutual
def resT:TermT→Bool
 | .mk op _ _ _ _ _ _ l=>if op=2∨op=3∨op=4∨op=6 then true else if op=16 then headFun l else if op=10∨op=12∨op=14∨op=8 then resL l else false
def resL:List TermT→Bool
 | []=>true
 |x::r=>resT x&&resL r
end
def innL:List TermT→Nat→Int→Int
 | [],_,_=>-1
 |_::_,0,_=>-1
 |x::r,a+1,i=>if resT x=true then innL r a (i+1) else i
mutual
def nextT:TermT→TermT
 | .mk op n s con to k names l=>nextL l (actT op l.length) (.mk op n s con to k names l)
def nextL:List TermT→Nat→TermT→TermT
 | [],_,t=>t
 |_::_,0,t=>t
 |x::r,a+1,t=>if resT x=true then nextL r a t else nextT x
end
mutual
def rbT (b:TermT):TermT→TermT
 | .mk op n s con to k names l=>match rbTs b l (actT op l.length) with
  |some l'=>.mk op n s con to k names l'
  |none=>b
def rbTs (b:TermT):List TermT→Nat→Option (List TermT)
 | [],_=>none
 |_::_,0=>none
 |x::r,a+1=>if resT x=true then (rbTs b r a).map (x :: ·) else some (rbT b x::r)
end
/-! Contractions -/
def nodeL (op:Int) (l:List TermT):TermT:=.mk op 0 ByteArray.empty zeroC zeroC [] [] l
def conZ (op:Int):ConT:=.mk op 0 ByteArray.empty [] [] []
def failT (n c:Int):TermT:=.mk 19 n ByteArray.empty (conZ c) zeroC [] [] []
def intT (n:Int):TermT:=.mk 2 n ByteArray.empty zeroC zeroC [] [] []
def txtT (s:ByteArray):TermT:=.mk 3 0 s zeroC zeroC [] [] []
def mostN:Int:=4503599627370496
def numbT (n:Int) (ok:Bool):TermT:=if ok=false∨n < -mostN∨n>mostN then failT 2 4 else intT n
def sumC:ConT:=.mk 8 0 ByteArray.empty [] [strF,strT] [unitC,unitC]
def unitT:TermT:=nodeL 10 []
def truthT (b:Bool):TermT:=.mk 14 0 ByteArray.empty boolC zeroC [] [] [.mk 12 0 (if b then strT else strF) sumC zeroC [] [] [unitT]]
def showS (n:Int):ByteArray:=⟨(Lib.itoa n).toArray⟩
def absI (n:Int):Int:=if -n>n then -n else n
def mulOk (a b:Int):Bool:=a==0||decide (absI b≤mostN.tdiv (absI a))
def numsT (op a b:Int):TermT:=
 if op=1 then numbT (a+b) true else if op=2 then numbT (a - b) true else if op=3 then numbT (a*b) (mulOk a b) else if op=6 then numbT (0 - a) true else
 if op=7 then truthT (decide (a<b)) else if op=8 then truthT (decide (a≤b)) else if op=9 then truthT (a==b) else if op=13 then txtT (showS a) else
 if b=0 then failT 3 4 else if op=4 then numbT (a.tdiv b) true else numbT (a.tmod b) true
def textsT (op:Int) (a b:ByteArray):TermT×List ByteArray:=
 if op=10 then (if (a.size:Int)+b.size>16384 then failT 2 5 else txtT (a++b),[]) else if op=11 then (numbT a.size true,[]) else
 if op=12 then (truthT (a.toList==b.toList),[]) else (unitT,[a])
def textOp (n:Int):Bool:=n==10||n==11||n==12||n==14
def wantOp (n:Int):Int:=if textOp n=true then 3 else 2
def lastT (l:List TermT):TermT:=l.getLastD zeroT
def hdT (l:List TermT):TermT:=l.headD zeroT
def sndT (l:List TermT):TermT:=hdT l.tail
def operT (n:Int) (l:List TermT):TermT×List ByteArray×Int:=
 if l.any (fun x=>x.op != wantOp n)=true then (zeroT,[],23) else
 if textOp n=true then ((textsT n (hdT l).s (lastT l).s).1,(textsT n (hdT l).s (lastT l).s).2,0) else (numsT n (hdT l).n (lastT l).n,[],0)
def applT (v w:TermT):TermT×Int:=if v.op=4 then SubstT (hdT v.l) w else if v.op=16∧(hdT v.l).op=4 then (nodeL 5 [(SubstT (hdT v.l) v).1,w],(SubstT (hdT v.l) v).2) else (zeroT,23)
def tappT (c:ConT) (x:TermT):TermT:=.mk 7 0 ByteArray.empty c zeroC [] [] [x]
def instT (v:TermT) (c:ConT):TermT×Int:=if v.op=6 then SubstConsT (hdT v.l) [c] else if v.op=16∧(hdT v.l).op=6 then (tappT c (SubstT (hdT v.l) v).1,(SubstT (hdT v.l) v).2) else (zeroT,23)
def findS:List ByteArray→ByteArray→Int→Int
 | [],_,_=>-1
 |x::r,s,i=>if (x.toList==s.toList)=true then i else findS r s (i+1)
def contrN (op:Int) (s:ByteArray) (con:ConT) (names:List ByteArray) (l:List TermT):TermT×Int:=
 if op=5 then applT (hdT l) (sndT l) else if op=7 then instT (hdT l) con else if op=17 then SubstT (sndT l) (hdT l) else
 if op=9∧(hdT l).op=8 then (if (SubstConsT (sndT l) [(hdT l).con]).2=0 then SubstT (SubstConsT (sndT l) [(hdT l).con]).1 (hdT (hdT l).l) else SubstConsT (sndT l) [(hdT l).con]) else
 if op=11∧(hdT l).op=10∧0≤findS (hdT l).names s 0 then ((hdT l).l.getD (findS (hdT l).names s 0).toNat zeroT,0) else
 if op=13∧(hdT l).op=12∧0≤findS names (hdT l).s 0 then SubstT (l.getD ((findS names (hdT l).s 0).toNat+1) zeroT) (hdT (hdT l).l) else
 if op=15∧(hdT l).op=14 then (hdT (hdT l).l,0) else (zeroT,23)
def contrT:TermT→TermT×List ByteArray×Int
 | .mk op n s con _ _ names l=>if op=18 then operT n l else if actT op l.length=0 then (zeroT,[],23) else ((contrN op s con names l).1,[],(contrN op s con names l).2)
/-! A step -/
mutual
def advT:TermT→TermT×List ByteArray×Int
 | .mk op n s con to k names l=>match advL l (actT op l.length) with
  |none=>if op=19 then (zeroT,[],7) else contrT (.mk op n s con to k names l)
  |some (l',o,e)=>if e≠0 then (zeroT,[],e) else (.mk op n s con to k names l',o,0)
def advL:List TermT→Nat→Option (List TermT×List ByteArray×Int)
 | [],_=>none
 |_::_,0=>none
 |x::r,a+1=>if resT x=true then (advL r a).map (fun p=>(x::p.1,p.2)) else some ((advT x).1::r,(advT x).2)
end
def closedT (t:TermT):Bool:=validT t&&(decide ((sortU (consF t 0)).length=0)&&decide ((sortU (termsF t 0)).length=0))
def stepR (r:TermT×List ByteArray×Int):TermT×List ByteArray×Int:=
 if r.2.2≠0 then (zeroT,[],r.2.2) else if validT r.1=false then (zeroT,[],6) else (r.1,r.2.1,0)
def stepT (t:TermT):TermT×List ByteArray×Int:=if closedT t=false then (zeroT,[],1) else if resT t=true then (zeroT,[],7) else stepR (advT t)
def failN (t:TermT):Int:=if resT t=true then 0 else if (nextT t).op=19 then (nextT t).n else 0
/-! The reference -/
def rprimT (n:Int) (l:List TermT):TermT×ByteArray×Bool×Bool:=
 if l.any (fun x=>x.op != wantOp n)=true then (zeroT,ByteArray.empty,false,false) else
 if textOp n=true then (if n=14 then (unitT,(hdT l).s,true,true) else ((textsT n (hdT l).s (lastT l).s).1,ByteArray.empty,false,true)) else (numsT n (hdT l).n (lastT l).n,ByteArray.empty,false,true)
def rcontrN (op:Int) (s:ByteArray) (con:ConT) (names:List ByteArray) (l:List TermT):Option TermT:=
 if op=5 then (if (hdT l).op=4 then some (rsubT (sndT l) (hdT (hdT l).l) 0 0) else if (hdT l).op=16∧(hdT (hdT l).l).op=4 then some (nodeL 5 [rsubT (hdT l) (hdT (hdT l).l) 0 0,sndT l]) else none) else
 if op=7 then (if (hdT l).op=6 then some (rsubC [con] (hdT (hdT l).l) 0) else if (hdT l).op=16∧(hdT (hdT l).l).op=6 then some (tappT con (rsubT (hdT l) (hdT (hdT l).l) 0 0)) else none) else
 if op=9 then (if (hdT l).op=8 then some (rsubT (hdT (hdT l).l) (rsubC [(hdT l).con] (sndT l) 0) 0 0) else none) else
 if op=11 then (if (hdT l).op=10∧0≤findS (hdT l).names s 0 then some ((hdT l).l.getD (findS (hdT l).names s 0).toNat zeroT) else none) else
 if op=13 then (if (hdT l).op=12∧0≤findS names (hdT l).s 0 then some (rsubT (hdT (hdT l).l) (l.getD ((findS names (hdT l).s 0).toNat+1) zeroT) 0 0) else none) else
 if op=15 then (if (hdT l).op=14 then some (hdT (hdT l).l) else none) else
 if op=17 then some (rsubT (hdT l) (sndT l) 0 0) else none
def rcontrT:TermT→TermT×ByteArray×Bool×Bool
 | .mk op n s con _ _ names l=>if op=18 then rprimT n l else if actT op l.length=0∨l=[] then (zeroT,ByteArray.empty,false,false) else match rcontrN op s con names l with
  |some r=>(r,ByteArray.empty,false,true)
  |none=>(zeroT,ByteArray.empty,false,false)
def rstepT (t:TermT):TermT×List ByteArray×Int:=
 if closedT t=false then (zeroT,[],1) else if resT t=true∨failN t>0 then (zeroT,[],7) else
 if (rcontrT (nextT t)).2.2.2=false then (zeroT,[],23) else
 if validT (rbT (rcontrT (nextT t)).1 t)=false then (zeroT,[],6) else
 (rbT (rcontrT (nextT t)).1 t,if (rcontrT (nextT t)).2.2.1=true then [(rcontrT (nextT t)).2.1] else [],0)
/-! The parts -/
theorem inn_split:∀(l:List TermT) (a:Nat) (i:Int),
  (innL l a i=-1∧advL l a=none∧(∀t,nextL l a t=t)∧(∀b,rbTs b l a=none)∧∀x∈l.take a,resT x=true) ∨
  ∃pre x post,l=pre++x::post∧innL l a i=i+(pre.length:Int)∧resT x=false∧pre.length<a∧(∀y∈pre,resT y=true)∧advL l a=some (pre++(advT x).1::post,(advT x).2)∧(∀t,nextL l a t=nextT x)∧∀b,rbTs b l a=some (pre++rbT b x::post)
 | [],a,i=>.inl ⟨by rw[innL],by rw[advL],fun t=>by rw[nextL],fun b=>by rw[rbTs],fun x hx=>by simp at hx⟩
 |y::r,0,i=>.inl ⟨by rw[innL],by rw[advL],fun t=>by rw[nextL],fun b=>by rw[rbTs],fun x hx=>by simp at hx⟩
 |y::r,a+1,i=>by
  cases hy:resT y with
  |false=>
   refine .inr ⟨[],y,r,rfl,?_,hy,by simp,fun _ h=>by simp at h,?_,fun t=>?_,fun b=>?_⟩
   ·rw[innL,if_neg (by rw[hy];decide)];simp
   ·rw[advL,if_neg (by rw[hy];decide)];rfl
   ·rw[nextL,if_neg (by rw[hy];decide)]
   ·rw[rbTs,if_neg (by rw[hy];decide)];rfl
  |true=>
   rcases inn_split r a (i+1) with ⟨h1,h2,h3,h4,h5⟩|⟨pre,x,post,h1,h2,h3,h4,h5,h6,h7,h8⟩
   ·refine .inl ⟨?_,?_,fun t=>?_,fun b=>?_,fun x hx=>?_⟩
    ·rw[innL,if_pos hy];exact h1
    ·rw[advL,if_pos hy,h2];rfl
    ·rw[nextL,if_pos hy];exact h3 t
    ·rw[rbTs,if_pos hy,h4];rfl
    ·rw[List.take_succ_cons,List.mem_cons] at hx
     rcases hx with rfl|hx
     ·exact hy
     ·exact h5 x hx
   ·refine .inr ⟨y::pre,x,post,by rw[h1];rfl,?_,h3,by simp;omega,fun z hz=>?_,?_,fun t=>?_,fun b=>?_⟩
    ·rw[innL,if_pos hy,h2,List.length_cons];omega
    ·rcases List.mem_cons.1 hz with rfl|hz
     ·exact hy
     ·exact h5 z hz
    ·rw[advL,if_pos hy,h6];rfl
    ·rw[nextL,if_pos hy];exact h7 t
    ·rw[rbTs,if_pos hy,h8];rfl
theorem adv_next (t:TermT):(advT t).2.2=(if (nextT t).op=19 then 7 else (contrT (nextT t)).2.2)∧((advT t).2.2=0→advT t=(rbT (contrT (nextT t)).1 t,(contrT (nextT t)).2.1,0)):=by
 revert t
 refine TermT.ind1 fun op n s con to k names l ih=>?_
 rw[nextT,advT]
 rcases inn_split l (actT op l.length) 0 with ⟨_,h2,h3,h4,_⟩|⟨pre,x,post,h1,_,_,_,_,h6,h7,h8⟩
 ·rw[h2,h3]
  simp only[rbT,h4]
  by_cases e:op=19
  ·subst e
   simp only[TermT.op,if_true]
   exact ⟨trivial,fun h=>by cases h⟩
  ·simp only[TermT.op,if_neg e]
   refine ⟨by first|trivial | (rw[if_neg (show ¬(TermT.mk op n s con to k names l).op=19 from e)])|simp[e],fun h=>?_⟩
   generalize contrT (TermT.mk op n s con to k names l)=c at h ⊢
   obtain ⟨a,b,c⟩:=c
   simp only at h
   subst h
   rfl
 ·obtain ⟨i1,i2⟩:=ih x (by rw[h1];simp)
  rw[h6,h7]
  simp only[rbT,h8]
  by_cases e:(advT x).2.2=0
  ·have:=i2 e
   rw[if_neg (fun h=>h e)]
   rw[e] at i1
   refine ⟨i1,fun _=>?_⟩
   rw[this]
  ·rw[if_pos e]
   exact ⟨i1,fun h=>absurd h e⟩
theorem wtT_pos (t:TermT):1≤wtT t:=by cases t;rw[wtT];omega
mutual
theorem sub_mono (b:TermT):∀(t:TermT) (u w left depth left' depth':Int),vokT t→(measT (rsubT b t u w) left depth).2=true→left≤left'→depth'≤depth →
  (measT t left' depth').2=true∧(measT t left' depth').1≤(measT (rsubT b t u w) left depth).1
 | .mk op n s con to k names l,u,w,left,depth,left',depth',hv,h,h1,h2=>by
  rw[vokT] at hv
  by_cases ho:op=1
  ·have hn:=hv.1 ho
   have hp:=wtT_pos (rsubT b (.mk op n s con to k names l) u w)
   have hw:=measT_wt _ _ _ h
   have hl:¬(left≤0∨depth>400):=by
    generalize rsubT b (.mk op n s con to k names l) u w=r at h
    cases r
    rw[measT] at h
    split at h
    ·cases h
    ·rename_i g;exact fun e=>g (e.elim .inl fun e=>.inr (.inl e))
   obtain ⟨rfl,rfl,rfl,rfl,rfl,g,_⟩:=node_op1 hn ho
   have:=List.eq_nil_of_length_eq_zero g
   subst this ho
   rw[meas_leaf hn (by decide),if_neg (by rintro (e|e);exact hl (.inl (by omega));exact hl (.inr (by omega)))]
   refine ⟨decide_eq_true (by have:¬left≤0:=fun e=>hl (.inl e);omega),?_⟩
   simp only
   omega
  ·rw[rsubT,if_neg ho] at h ⊢
   rw[measT,rsubTL_len] at h
   rw[measT,measT,rsubTL_len]
   by_cases e:left≤0∨depth>400∨nodeT op n s con to k names l.length=false
   ·rw[if_pos e] at h;cases h
   ·rw[if_neg e] at h ⊢
    rw[if_neg (by rintro (g|g|g);exact e (.inl (by omega));exact e (.inr (.inl (by omega)));exact e (.inr (.inr g)))]
    exact sub_monoL b op l 0 u w left _ depth left' _ depth' hv.2 h h1 (Int.le_refl _) h2
theorem sub_monoL (b:TermT) (op:Int):∀(l:List TermT) (i:Nat) (u w left m depth left' m' depth':Int),vokL l→(measTL (rsubTL b op l i u w) left m depth).2=true→left≤left'→m'≤m→depth'≤depth →
  (measTL l left' m' depth').2=true∧(measTL l left' m' depth').1≤(measTL (rsubTL b op l i u w) left m depth).1
 | [],i,u,w,left,m,depth,left',m',depth',hv,h,h1,h2,h3=>by
  rw[rsubTL,measTL] at h ⊢
  rw[measTL]
  have:=of_decide_eq_true h
  exact ⟨decide_eq_true (by omega),h2⟩
 |x::r,i,u,w,left,m,depth,left',m',depth',hv,h,h1,h2,h3=>by
  rw[rsubTL,measTL] at h ⊢
  rw[measTL]
  by_cases e:(measT (rsubT b x (u+consR op i) (w+termsR op i)) (left - m) (depth+1)).2=false
  ·rw[if_pos e] at h;cases h
  ·have e':(measT (rsubT b x (u+consR op i) (w+termsR op i)) (left - m) (depth+1)).2=true:=by simpa using e
   obtain ⟨g1,g2⟩:=sub_mono b x _ _ _ _ (left' - m') (depth'+1) hv.1 e' (by omega) (by omega)
   rw[if_neg e] at h ⊢
   rw[if_neg (by rw[g1];decide)]
   exact sub_monoL b op r (i+1) u w left _ depth left' _ depth' hv.2 h h1 (by omega) h3
end
theorem sub_invalid {b t:TermT}(hv:vokT t) (h:validT t=false):validT (rsubT b t 0 0)=false:=by
 cases e:validT (rsubT b t 0 0) with
 |false=>rfl
 |true=>
  have:=(sub_mono b t 0 0 20000 1 20000 1 hv e (Int.le_refl _) (Int.le_refl _)).1
  rw[validT] at h
  rw[h] at this;cases this
/-! Parts of a term that is right -/
mutual
theorem wf_wc:∀t:TermT,wfT t=true→wcT t
 | .mk op n s con to k names l,h=>by
  rw[wfT,Bool.and_eq_true] at h
  obtain ⟨n1,n2,n3,n4⟩:=node_con h.1
  rw[wcT]
  refine ⟨?_,?_,wfL_wc l h.2⟩
  ·by_cases e:hasConF op=true
   ·exact (valid_dw (n1 e)).2
   ·rw[n2 (by simpa using e)];decide
  ·by_cases e:op=8
   ·exact (valid_dw (n3 e)).2
   ·rw[n4 e];decide
theorem wfL_wc:∀l:List TermT,wfL l=true→wcTs l
 | [],_=>trivial
 |x::r,h=>by
  rw[wfL,Bool.and_eq_true] at h
  exact ⟨wf_wc x h.1,wfL_wc r h.2⟩
end
theorem vlen {t:TermT}(h:validT t=true):(t.l.length:Int)=partsT t.op t.n t.names.length:=by
 obtain ⟨op,n,s,con,to,k,names,l⟩:=t
 have:=(valid_wf h).1
 rw[wfT,Bool.and_eq_true] at this
 exact (node_op this.1).2.2.2.1
theorem vnode {t:TermT}(h:validT t=true):nodeT t.op t.n t.s t.con t.to t.k t.names t.l.length=true:=by
 obtain ⟨op,n,s,con,to,k,names,l⟩:=t
 have:=(valid_wf h).1
 rw[wfT,Bool.and_eq_true] at this
 exact this.1
theorem vpart {t:TermT}(h:validT t=true):∀x∈t.l,validT x=true:=by
 obtain ⟨op,n,s,con,to,k,names,l⟩:=t
 exact valid_parts_T h
theorem hd_mem {l:List TermT}(h:0<l.length):hdT l∈l:=by
 cases l with
 |nil=>cases h
 |cons x r=>simp[hdT]
theorem snd_mem {l:List TermT}(h:1<l.length):sndT l∈l:=by
 cases l with
 |nil=>cases h
 |cons x r=>
  cases r with
  |nil=>simp at h
  |cons y r=>simp[sndT,hdT]
theorem lastD_mem:∀(r:List TermT) (x:TermT),r.getLastD x∈x::r
 | [],x=>by simp[List.getLastD]
 |y::r,x=>by rw[List.getLastD_cons];exact List.mem_cons_of_mem _ (lastD_mem r y)
theorem last_mem {l:List TermT}(h:0<l.length):lastT l∈l:=by
 cases l with
 |nil=>cases h
 |cons x r=>rw[lastT,List.getLastD_cons];exact lastD_mem r x
theorem getD_mem {l:List TermT}{i:Nat}(h:i<l.length):l.getD i zeroT∈l:=by
 simp[List.getD,h]
theorem len1 {t:TermT}(h:validT t=true) (ho:t.op=4∨t.op=6∨t.op=7∨t.op=8∨t.op=11∨t.op=12∨t.op=14∨t.op=15∨t.op=16):t.l.length=1:=by
 have:=vlen h
 rw[partsT,if_neg (by omega),if_pos (by omega)] at this
 omega
theorem len2 {t:TermT}(h:validT t=true) (ho:t.op=5∨t.op=9∨t.op=17):t.l.length=2:=by
 have:=vlen h
 rw[partsT,if_neg (by omega),if_neg (by omega),if_pos (by omega)] at this
 omega
theorem len10 {t:TermT}(h:validT t=true) (ho:t.op=10):t.l.length=t.names.length:=by
 have:=vlen h
 rw[partsT,if_neg (by omega),if_neg (by omega),if_neg (by omega),if_pos ho] at this
 omega
theorem len13 {t:TermT}(h:validT t=true) (ho:t.op=13):t.l.length=t.names.length+1:=by
 have:=vlen h
 rw[partsT,if_neg (by omega),if_neg (by omega),if_neg (by omega),if_neg (by omega),if_pos ho] at this
 omega
theorem len18 {t:TermT}(h:validT t=true) (ho:t.op=18):(t.l.length:Int)=arityF t.n:=by
 have:=vlen h
 rw[partsT,if_neg (by omega),if_neg (by omega),if_neg (by omega),if_neg (by omega),if_neg (by omega),if_pos ho] at this
 exact this
theorem inner_valid {t:TermT}(h:validT t=true) (ho:t.op=4∨t.op=6∨t.op=7∨t.op=8∨t.op=11∨t.op=12∨t.op=14∨t.op=15∨t.op=16):validT (hdT t.l)=true:=
 vpart h _ (hd_mem (by rw[len1 h ho];decide))
theorem vcon {t:TermT}(h:validT t=true) (ho:hasConF t.op=true):validF t.con=true:=(node_con (vnode h)).1 ho
theorem find_lt:∀(l:List ByteArray) (s:ByteArray) (i:Int),0≤i→0≤findS l s i→i≤findS l s i∧findS l s i<i+l.length
 | [],s,i,hi,h=>by rw[findS] at h;omega
 |x::r,s,i,hi,h=>by
  rw[findS] at h ⊢
  split
  ·rw[List.length_cons];omega
  ·rename_i e
   rw[if_neg e] at h
   have:=find_lt r s (i+1) (by omega) h
   rw[List.length_cons];omega
/-! Both contractions -/
theorem kept_or (a:TermT):((keptT a).2=0∧(keptT a).1=a∧validT a=true)∨((keptT a).2=6∧(keptT a).1=zeroT∧validT a=false):=by
 rw[keptT]
 cases h:validT a with
 |true=>exact .inl ⟨rfl,rfl,rfl⟩
 |false=>exact .inr ⟨rfl,rfl,rfl⟩
theorem sub_both {x b:TermT}(hx:validT x=true) (hb:validT b=true):SubstT x b=keptT (rsubT b x 0 0):=by
 rw[SubstT_M hx hb,rsub_map b (valid_wf hb).1 x 0 0 (valid_wf hx).1,subM]
theorem subC_both {x:TermT}{c:ConT}(hx:validT x=true) (hc:validF c=true):SubstConsT x [c]=keptT (rsubC [c] x 0):=by
 have hall:[c].all validF=true:=by simp[hc]
 rw[SubstConsT_M hx hall (by simp),rsubC_map [c] hall x 0 0 (valid_wf hx).1,subCM]
def agree (c:TermT×Int) (r:TermT):Prop:=c=(r,0)∨(c.2=6∧validT r=false)
theorem agree_kept (a:TermT):agree (keptT a) a:=by
 rcases kept_or a with ⟨h1,h2,_⟩|⟨h1,_,h3⟩
 ·exact .inl (Prod.ext h2 h1)
 ·exact .inr ⟨h1,h3⟩
theorem agree_in {a:TermT}(f:TermT→TermT) (hf:∀x,validT x=false→validT (f x)=false):agree (f (keptT a).1,(keptT a).2) (f a):=by
 rcases kept_or a with ⟨h1,h2,_⟩|⟨h1,_,h3⟩
 ·rw[h1,h2];exact .inl rfl
 ·exact .inr ⟨h1,hf _ h3⟩
theorem contrN_both {op n:Int}{s:ByteArray}{con to:ConT}{k:List KindT}{names:List ByteArray}{l:List TermT}(h:validT (.mk op n s con to k names l)=true) (h18:op≠18) (hl:0<l.length) :
  (rcontrN op s con names l=none∧contrN op s con names l=(zeroT,23))∨∃r,rcontrN op s con names l=some r∧agree (contrN op s con names l) r:=by
 have hp:=valid_parts_T h
 have hv:=hp _ (hd_mem hl)
 by_cases h5:op=5
 ·have hw:=hp _ (snd_mem (by rw[show l.length=2 from len2 h (.inl h5)];decide))
  simp only[rcontrN,contrN,if_pos h5,applT]
  by_cases e1:(hdT l).op=4
  ·rw[if_pos e1,if_pos e1,sub_both (inner_valid hv (.inl e1)) hw]
   exact .inr ⟨_,rfl,agree_kept _⟩
  ·rw[if_neg e1,if_neg e1]
   by_cases e2:(hdT l).op=16∧(hdT (hdT l).l).op=4
   ·rw[if_pos e2,if_pos e2,sub_both (inner_valid hv (by omega)) hv]
    refine .inr ⟨_,rfl,agree_in (fun x=>nodeL 5 [x,sndT l]) fun x hx=>?_⟩
    cases g:validT (nodeL 5 [x,sndT l]) with
    |false=>rfl
    |true=>have:=vpart g x (by simp[nodeL,TermT.l]);rw[hx] at this;cases this
   ·rw[if_neg e2,if_neg e2];exact .inl ⟨rfl,rfl⟩
 ·by_cases h7:op=7
  ·have hc:validF con=true:=(node_con (vnode h)).1 (show hasConF op=true by rw[h7];decide)
   simp only[rcontrN,contrN,if_neg h5,if_pos h7,instT]
   by_cases e1:(hdT l).op=6
   ·rw[if_pos e1,if_pos e1,subC_both (inner_valid hv (.inr (.inl e1))) hc]
    exact .inr ⟨_,rfl,agree_kept _⟩
   ·rw[if_neg e1,if_neg e1]
    by_cases e2:(hdT l).op=16∧(hdT (hdT l).l).op=6
    ·rw[if_pos e2,if_pos e2,sub_both (inner_valid hv (by omega)) hv]
     refine .inr ⟨_,rfl,agree_in (fun x=>tappT con x) fun x hx=>?_⟩
     cases g:validT (tappT con x) with
     |false=>rfl
     |true=>have:=vpart g x (by simp[tappT,TermT.l]);rw[hx] at this;cases this
    ·rw[if_neg e2,if_neg e2];exact .inl ⟨rfl,rfl⟩
  ·by_cases h17:op=17
   ·have hw:=hp _ (snd_mem (by rw[show l.length=2 from len2 h (.inr (.inr h17))];decide))
    subst h17
    have hr:rcontrN 17 s con names l=some (rsubT (hdT l) (sndT l) 0 0):=rfl
    have hcn:contrN 17 s con names l=SubstT (sndT l) (hdT l):=by rw[contrN,if_neg (by decide),if_neg (by decide),if_pos rfl]
    rw[hr,hcn,sub_both hw hv]
    exact .inr ⟨_,rfl,agree_kept _⟩
   ·by_cases h9:op=9
    ·have hw:=hp _ (snd_mem (by rw[show l.length=2 from len2 h (.inr (.inl h9))];decide))
     subst h9
     have hr:rcontrN 9 s con names l=if (hdT l).op=8 then some (rsubT (hdT (hdT l).l) (rsubC [(hdT l).con] (sndT l) 0) 0 0) else none:=rfl
     rw[hr]
     by_cases e1:(hdT l).op=8
     ·rw[if_pos e1,contrN,if_neg (by decide),if_neg (by decide),if_neg (by decide),if_pos ⟨rfl,e1⟩]
      have hc:=vcon hv (by rw[e1];decide)
      have hi:=inner_valid hv (by omega)
      rw[subC_both hw hc]
      refine .inr ⟨_,rfl,?_⟩
      rcases kept_or (rsubC [(hdT l).con] (sndT l) 0) with ⟨g1,g2,g3⟩|⟨g1,g2,g3⟩
      ·rw[if_pos g1,g2,sub_both g3 hi];exact agree_kept _
      ·rw[if_neg (by rw[g1];decide)]
       exact .inr ⟨g1,sub_invalid (vok_rsubC _ _ 0 (wf_vok _ (valid_wf hw).1)) g3⟩
     ·rw[if_neg e1,contrN,if_neg (by decide),if_neg (by decide),if_neg (by decide),if_neg (fun h=>e1 h.2),if_neg (fun h=>absurd h.1 (by decide)),if_neg (fun h=>absurd h.1 (by decide)),if_neg (fun h=>absurd h.1 (by decide))]
      exact .inl ⟨rfl,rfl⟩
    ·by_cases h11:op=11
     ·subst h11
      have hr:rcontrN 11 s con names l=if (hdT l).op=10∧0≤findS (hdT l).names s 0 then some ((hdT l).l.getD (findS (hdT l).names s 0).toNat zeroT) else none:=rfl
      rw[hr]
      by_cases e1:(hdT l).op=10∧0≤findS (hdT l).names s 0
      ·rw[if_pos e1,contrN,if_neg (by decide),if_neg (by decide),if_neg (by decide),if_neg (fun h=>absurd h.1 (by decide)),if_pos ⟨rfl,e1⟩];exact .inr ⟨_,rfl,.inl rfl⟩
      ·rw[if_neg e1,contrN,if_neg (by decide),if_neg (by decide),if_neg (by decide),if_neg (fun h=>absurd h.1 (by decide)),if_neg (fun h=>e1 h.2),if_neg (fun h=>absurd h.1 (by decide)),if_neg (fun h=>absurd h.1 (by decide))];exact .inl ⟨rfl,rfl⟩
     ·by_cases h13:op=13
      ·have hll:l.length=names.length+1:=len13 h h13
       subst h13
       have hr:rcontrN 13 s con names l=if (hdT l).op=12∧0≤findS names (hdT l).s 0 then some (rsubT (hdT (hdT l).l) (l.getD ((findS names (hdT l).s 0).toNat+1) zeroT) 0 0) else none:=rfl
       rw[hr]
       by_cases e1:(hdT l).op=12∧0≤findS names (hdT l).s 0
       ·have hf:=find_lt names (hdT l).s 0 (Int.le_refl _) e1.2
        have hm:=hp _ (getD_mem (l:=l) (i:=(findS names (hdT l).s 0).toNat+1) (by omega))
        rw[if_pos e1,contrN,if_neg (by decide),if_neg (by decide),if_neg (by decide),if_neg (fun h=>absurd h.1 (by decide)),if_neg (fun h=>absurd h.1 (by decide)),if_pos ⟨rfl,e1⟩,sub_both hm (inner_valid hv (by omega))]
        exact .inr ⟨_,rfl,agree_kept _⟩
       ·rw[if_neg e1,contrN,if_neg (by decide),if_neg (by decide),if_neg (by decide),if_neg (fun h=>absurd h.1 (by decide)),if_neg (fun h=>absurd h.1 (by decide)),if_neg (fun h=>e1 h.2),if_neg (fun h=>absurd h.1 (by decide))];exact .inl ⟨rfl,rfl⟩
      ·by_cases h15:op=15
       ·subst h15
        have hr:rcontrN 15 s con names l=if (hdT l).op=14 then some (hdT (hdT l).l) else none:=rfl
        rw[hr]
        by_cases e1:(hdT l).op=14
        ·rw[if_pos e1,contrN,if_neg (by decide),if_neg (by decide),if_neg (by decide),if_neg (fun h=>absurd h.1 (by decide)),if_neg (fun h=>absurd h.1 (by decide)),if_neg (fun h=>absurd h.1 (by decide)),if_pos ⟨rfl,e1⟩];exact .inr ⟨_,rfl,.inl rfl⟩
        ·rw[if_neg e1,contrN,if_neg (by decide),if_neg (by decide),if_neg (by decide),if_neg (fun h=>absurd h.1 (by decide)),if_neg (fun h=>absurd h.1 (by decide)),if_neg (fun h=>absurd h.1 (by decide)),if_neg (fun h=>e1 h.2)];exact .inl ⟨rfl,rfl⟩
       ·have hr:rcontrN op s con names l=none:=by rw[rcontrN,if_neg h5,if_neg h7,if_neg h9,if_neg h11,if_neg h13,if_neg h15,if_neg h17]
        have hcn:contrN op s con names l=(zeroT,23):=by rw[contrN,if_neg h5,if_neg h7,if_neg h17,if_neg (fun h=>h9 h.1),if_neg (fun h=>h11 h.1),if_neg (fun h=>h13 h.1),if_neg (fun h=>h15 h.1)]
        rw[hr,hcn]
        exact .inl ⟨rfl,rfl⟩
theorem contr_both {t:TermT}(h:validT t=true) :
  ((rcontrT t).2.2.2=false∧(contrT t).2.2=23) ∨
  ((rcontrT t).2.2.2=true∧contrT t=((rcontrT t).1,if (rcontrT t).2.2.1=true then [(rcontrT t).2.1] else [],0)) ∨
  ((rcontrT t).2.2.2=true∧(contrT t).2.2=6∧validT (rcontrT t).1=false):=by
 obtain ⟨op,n,s,con,to,k,names,l⟩:=t
 rw[rcontrT,contrT]
 by_cases h18:op=18
 ·rw[if_pos h18,if_pos h18,rprimT,operT]
  by_cases e:l.any (fun x=>x.op != wantOp n)=true
  ·rw[if_pos e,if_pos e];exact .inl ⟨rfl,rfl⟩
  ·rw[if_neg e,if_neg e]
   by_cases e1:textOp n=true
   ·rw[if_pos e1,if_pos e1]
    by_cases e2:n=14
    ·rw[if_pos e2,textsT,if_neg (by omega),if_neg (by omega),if_neg (by omega)]
     exact .inr (.inl ⟨rfl,rfl⟩)
    ·rw[if_neg e2]
     have:(textsT n (hdT l).s (lastT l).s).2=[]:=by
      simp only[textOp,Bool.or_eq_true,beq_iff_eq] at e1
      rw[textsT]
      split
      ·rfl
      ·split
       ·rfl
       ·rw[if_pos (by omega)]
     rw[this]
     exact .inr (.inl ⟨rfl,rfl⟩)
   ·rw[if_neg e1,if_neg e1];exact .inr (.inl ⟨rfl,rfl⟩)
 ·rw[if_neg h18,if_neg h18]
  by_cases ha:actT op l.length=0
  ·rw[if_pos (.inl ha),if_pos ha];exact .inl ⟨rfl,rfl⟩
  ·have hl:0<l.length:=by
    cases l with
    |cons x r=>simp
    |nil=>
     exfalso
     have hv:=vlen h
     have h3:namesT op names=true:=(node_op (vnode h)).2.2.2.2.2.1
     simp only[TermT.l,TermT.op,TermT.n,TermT.names,List.length_nil] at hv
     by_cases g:op=5∨op=10∨op=18
     ·rw[actT,if_pos g] at ha;exact ha rfl
     ·rw[actT,if_neg g] at ha
      by_cases g2:op=7∨op=8∨op=9∨op=11∨op=12∨op=13∨op=14∨op=15∨op=17
      ·rw[partsT,if_neg (by omega)] at hv
       repeat' split at hv
       all_goals omega
      ·rw[if_neg g2] at ha;exact ha rfl
   rw[if_neg (by rintro (e|e);exact ha e;rw[e] at hl;cases hl),if_neg ha]
   rcases contrN_both h h18 hl with ⟨g1,g2⟩|⟨r,g1,g2|⟨g2,g3⟩⟩
   ·rw[g1,g2];exact .inl ⟨rfl,rfl⟩
   ·rw[g1,g2];exact .inr (.inl ⟨rfl,rfl⟩)
   ·rw[g1];exact .inr (.inr ⟨rfl,g2,g3⟩)
/-! The next node -/
theorem next_valid (t:TermT) (h:validT t=true) (hok:okT t):validT (nextT t)=true∧okT (nextT t):=by
 revert t
 refine TermT.ind1 fun op n s con to k names l ih=>?_
 intro h hok
 rw[nextT]
 rcases inn_split l (actT op l.length) 0 with ⟨_,_,h3,_⟩|⟨pre,x,post,h1,_,_,_,_,_,h7,_⟩
 ·rw[h3];exact ⟨h,hok⟩
 ·rw[h7]
  have hm:x∈l:=by rw[h1];simp
  exact ih x hm (valid_parts_T h x hm) (okTs_mem.1 (okT_con hok).2.2.2 x hm)
theorem reb_inv {b:TermT}:∀t:TermT,validT (rbT b t)=true→validT b=true:=by
 refine TermT.ind1 fun op n s con to k names l ih=>?_
 intro h
 rw[rbT] at h
 rcases inn_split l (actT op l.length) 0 with ⟨_,_,_,h4,_⟩|⟨pre,x,post,h1,_,_,_,_,_,_,h8⟩
 ·rw[h4] at h;exact h
 ·rw[h8] at h
  exact ih x (by rw[h1];simp) (valid_parts_T h _ (by simp))
theorem step_eq {t:TermT}(hok:okT t):stepT t=rstepT t:=by
 rw[stepT,rstepT]
 by_cases h1:closedT t=false
 ·rw[if_pos h1,if_pos h1]
 ·rw[if_neg h1,if_neg h1]
  have hv:validT t=true:=by
   cases g:validT t with
   |true=>rfl
   |false=>rw[closedT,g] at h1;exact absurd rfl h1
  by_cases h2:resT t=true
  ·rw[if_pos h2,if_pos (.inl h2)]
  ·obtain ⟨hn,hnok⟩:=next_valid t hv hok
   rw[if_neg h2]
   obtain ⟨a1,a2⟩:=adv_next t
   by_cases h3:(nextT t).op=19
   ·have hN:(nextT t).n≥1:=by
     have:=(node_op (vnode hn)).2.2.1
     rw[h3,numT,if_neg (by decide),if_neg (by decide),if_neg (by decide),if_pos rfl] at this
     simp only[Bool.and_eq_true,decide_eq_true_eq] at this
     exact this.1
    rw[if_pos (.inr (by rw[failN,if_neg h2,if_pos h3];omega)),stepR]
    rw[if_pos h3] at a1
    rw[a1,if_pos (by decide)]
   ·rw[if_neg (by rintro (e|e);exact h2 e;rw[failN,if_neg h2,if_neg h3] at e;omega),stepR]
    rw[if_neg h3] at a1
    rcases contr_both hn with ⟨b1,b2⟩|⟨b1,b2⟩|⟨b1,b2,b3⟩
    ·rw[a1,b2,if_pos b1,if_pos (by decide)]
    ·have e0:(advT t).2.2=0:=by rw[a1,b2]
     rw[a2 e0,b2]
     rw[if_neg (show ¬(rbT (rcontrT (nextT t)).1 t,(if (rcontrT (nextT t)).2.2.1=true then [(rcontrT (nextT t)).2.1] else []:List ByteArray),(0:Int)).2.2≠0 from fun h=>h rfl)]
     rw[if_neg (show ¬(rcontrT (nextT t)).2.2.2=false by rw[b1];decide)]
    ·rw[a1,b2,if_pos (show (6:Int)≠0 by decide),if_neg (show ¬(rcontrT (nextT t)).2.2.2=false by rw[b1];decide)]
     have:validT (rbT (rcontrT (nextT t)).1 t)=false:=by
      cases g:validT (rbT (rcontrT (nextT t)).1 t) with
      |false=>rfl
      |true=>rw[reb_inv t g] at b3;cases b3
     rw[if_pos this]
theorem fail_pos {t:TermT}(h:validT t=true) (hok:okT t) (h2:resT t=false):((nextT t).op=19)=(failN t>0):=by
 obtain ⟨hn,_⟩:=next_valid t h hok
 rw[failN,if_neg (by rw[h2];decide)]
 by_cases h3:(nextT t).op=19
 ·have:=(node_op (vnode hn)).2.2.1
  rw[h3,numT,if_neg (by decide),if_neg (by decide),if_neg (by decide),if_pos rfl] at this
  simp only[Bool.and_eq_true,decide_eq_true_eq] at this
  rw[if_pos h3]
  simp only[h3,eq_iff_iff,true_iff]
  omega
 ·rw[if_neg h3]
  simp[h3]
def showB (n:Int):ByteArray:=⟨(Lib.itoa n).toArray⟩
theorem ItoaAll_spec (n:Int) (h1:-9223372036854775808≤n) (h2:n≤9223372036854775807):Spec Tryz.prog 224 [ii n] [] (.str (showB n)) []:=by
 refine Spec.of_below (by kernel_rfl) fun G w vs hW hr=>?_
 have hv:vs=#[.int .i64 n]:=by
  simp only[RepSVs,ii,RepSV,RepSC,Rep] at hr
  obtain ⟨v,rest,h1,rfl,h3⟩:=hr
  subst h3
  exact Array.toList_inj.1 h1
 subst hv
 obtain ⟨⟨cs,T,fr,g1,g0⟩,_⟩:=hW.glob 3 (by simp[gvars])
 rw[gcells,if_neg (by decide)] at g0
 have htab:Lib.TabIs Tryz.prog w "internal/strconv.uint64pow10" .u64 Lib.pow10Tab:=by
  unfold Lib.TabIs World.var?
  rw[gTab]
  simp only[Option.bind_some]
  rw[g1,g0]
 refine (Any.strconv_Itoa Tryz.laysM171 n h1 h2 w htab).mono ?_
 rintro e w' ⟨rfl,k,os,rfl⟩
 exact ⟨_,rfl,by rw[Rep];rfl,Lib.below_grow _ w (Nat.le_refl _) k os⟩
theorem bytes_push (l:List UInt8) (b:UInt8):(ByteArray.mk l.toArray)++(ByteArray.empty.push b)=⟨(l++[b]).toArray⟩:=by
 apply ByteArray.ext
 rw[ByteArray.data_append]
 show l.toArray ++ #[b]=(l++[b]).toArray
 simp
theorem bytes_cons (l:List UInt8) (b:UInt8):(ByteArray.mk #[b])++(ByteArray.mk l.toArray)=⟨(b::l).toArray⟩:=by
 apply ByteArray.ext
 rw[ByteArray.data_append]
 show #[b]++l.toArray=(b::l).toArray
 simp
theorem show_nat (n:Nat):showB n=⟨(Lib.decDigits n).toArray⟩:=by rw[showB,Lib.itoa_nonneg]
theorem DecimalK_spec:∀(k n:Nat),n<k→(n:Int)≤9000000000000000000→Spec Tryz.prog 196 [ii n] [] (.str (showB n)) []:=by
 intro k
 induction k with
 |zero=>intro n h;omega
 |succ k ih0=>
  intro n hk hn
  have ih:∀m,m<n→(m:Int)≤9000000000000000000→Spec Tryz.prog 196 [ii m] [] (.str (showB m)) []:=fun m hm=>ih0 m (by omega)
  clear ih0 hk
  by_cases h:n≤9
  ·have:=Decimal_spec n h
   rw[show showB n=decF n by rw[show_nat,Lib.decDigits_one (by omega),decF];rfl]
   exact this
  ·have hI:=ih (n / 10) (by omega) (by omega)
   have e:showB n=showB (n / 10:Nat)++ByteArray.empty.push (UInt8.ofNat (48+n % 10)):=by
    rw[show_nat,show_nat,bytes_push,Lib.decDigits,dif_neg (by omega)]
   have d1:decide ((n:Int)<0)=false:=decide_eq_false (by omega)
   have d2:decide ((n:Int)<10)=false:=decide_eq_false (by omega)
   have d3:(n:Int).tdiv 10=((n / 10:Nat):Int):=by rw[Int.tdiv_eq_ediv_of_nonneg (by omega)];simp
   have d4:(n:Int).tmod 10=((n % 10:Nat):Int):=by rw[Int.tmod_eq_emod_of_nonneg (by omega)];simp
   have w0:IntKind.i64.wrap ((n / 10:Nat):Int)=((n / 10:Nat):Int):=wrap_id (by omega) (by omega)
   have w1:IntKind.i64.wrap (48+((n % 10:Nat):Int))=48+((n % 10:Nat):Int):=wrap_id (by omega) (by omega)
   have hm:n % 10<10:=Nat.mod_lt _ (by decide)
   rw[e]
   generalize n % 10=m at d4 w1 hm ⊢
   have w2:IntKind.u8.wrap (48+(m:Int))=48+m:=by
    rcases (show m=0∨m=1∨m=2∨m=3∨m=4∨m=5∨m=6∨m=7∨m=8∨m=9 by omega) with rfl|rfl|rfl|rfl|rfl|rfl|rfl|rfl|rfl|rfl<;>rfl
   have w3:(48+(m:Int)).toNat=48+m:=by omega
   have hsz:(showB (n / 10:Nat)).size+(ByteArray.empty.push (UInt8.ofNat (48+m))).size≤9223372036854775807:=by
    have:=Lib.itoa_length_le ((n / 10:Nat):Int) (by omega) (by omega)
    have e1:(showB (n / 10:Nat)).size=(Lib.itoa ((n / 10:Nat):Int)).length:=by rw[showB];simp[ByteArray.size]
    have e2:(ByteArray.empty.push (UInt8.ofNat (48+m))).size=1:=rfl
    rw[e1,e2];omega
   generalize showB (n / 10:Nat)=r at hI hsz ⊢
   refine wk (rv:=[.tmp 2]) ann196 26 Tryz.func196 ?_
   simp only[go_sem,d1,d2,d3,w0,Int.reduceEq,if_false]
   refine aCall_intro hI ?_
   simp only[go_sem,d4,w1,w2,w3,Int.reduceEq,if_false,List.isEmpty_cons,List.foldl_cons,List.foldl_nil,hsz,if_true]
theorem DecimalAll_spec (n:Nat) (h:(n:Int)≤9000000000000000000):Spec Tryz.prog 196 [ii n] [] (.str (showB n)) []:=DecimalK_spec (n+1) n (Nat.lt_succ_self n) h
theorem IndexFuncT {α:Type}(enc:α→PV) (l:List α) (f:FuncId) (caps:List PV) (p:α→Bool) (hes:∀e∈l,PV.hasSz (.agg 18) (enc e)=true) (hp:PredOn enc f caps p l):Spec Tryz.prog 71 [pp (.slice (l.map enc)),pp (.fn f caps)] [] (.int .i64 (findP p l 0)) []:=by
 refine wf (rv:=[.tmp 4]) ann71 19 Tryz.func71 fun hfit=>?_
 have hlen:l.length≤9223372036854775807:=by
  simp only[argsFit,SV.pv?,SC.pv?,PV.fit,maxLen_eq,List.length_map] at hfit
  exact hfit.1.1
 clear hfit
 generalize h0:findP p l 0=res
 simp only[go_sem,List.length_map]
 refine aLoop_list (α:=α) (β:=List α) (fun rest pre=>⟨[(8,ii pre.length),(0,pp (.slice (l.map enc))),(1,pp (.fn f caps)),(7,ii l.length)],[],[]⟩) (fun rest pre=>l=pre++rest∧findP p rest pre.length=res) ?_ ?_ l [] _ ?_ ⟨rfl,h0⟩
 ·rintro pre ⟨h4,h5⟩ K
  rw[List.append_nil] at h4
  simp only[go_sem,h4,lt_false (Int.le_refl _)]
  simp only[findP] at h5
  rw[h5]
 ·rintro x rest pre ⟨h4,h5⟩ K hK
  have hx:(l.map enc)[pre.length]? = some (enc x):=by simp[h4]
  have hlt:(pre.length:Int)<l.length:=by rw[h4];simp;omega
  have hm:x∈l:=by simp[h4]
  simp only[go_sem,decide_eq_true hlt,Int.toNat_natCast,Int.natCast_nonneg,hx,hes x hm]
  refine aCall_intro (hp x hm) ?_
  simp only[go_sem]
  refine condK_intro (fun hb=>?_) (fun hb=>?_)
  ·simp only[findP,hb,if_true] at h5
   simp only[go_sem,h5]
  ·have w4:IntKind.i64.wrap ((pre.length:Int)+1)=((pre++[x]).length:Int):=by rw[wrap_id (by omega) (by omega)];simp
   simp only[findP,hb,Bool.false_eq_true,if_false] at h5
   simp only[go_sem,w4]
   refine hK (pre++[x]) _ ?_ ⟨by simp[h4],by simpa using h5⟩
   simp only[go_sem]
 ·simp only[go_sem,List.length_nil,Int.natCast_zero]
theorem ContainsFuncT {α:Type}(enc:α→PV) (es:List α) (f:FuncId) (caps:List PV) (p:α→Bool) (hes:∀e∈es,PV.hasSz (.agg 18) (enc e)=true) (hp:PredOn enc f caps p es):Spec Tryz.prog 23 [pp (.slice (es.map enc)),pp (.fn f caps)] [] (.bool (es.any p)) []:=by
 refine wk (rv:=[.tmp 4]) ann23 9 Tryz.func23 ?_
 simp only[go_sem]
 refine aCall_intro (IndexFuncT enc es f caps p hes hp) ?_
 have:decide (findP p es 0≥0)=es.any p:=by
  rw[Bool.eq_iff_iff,decide_eq_true_iff];exact findP_ge p es 0
 simp only[go_sem,this]
theorem nbeq {a b:Int}(h:¬a=b):(a==b)=false:=by simpa using h
theorem act_spec (op n:Int) (s:ByteArray) (con to:ConT) (k:List KindT) (names:List ByteArray) (l:List TermT):Spec Tryz.prog 121 [pp (encT (.mk op n s con to k names l))] [] (.int .i64 (actT op l.length)) []:=by
 generalize hr:(actT op l.length:Int)=r
 refine wk (rv:=[.tmp 2]) ann121 22 Tryz.func121 ?_
 simp only[go_sem,encT_mk,List.length_map]
 repeat' ((first|refine condK_intro (fun _=>?_) (fun _=>?_)|refine guardK_intro (fun _=>?_) (fun _=>?_))<;>simp only[go_sem,List.length_map])
 all_goals (rw[←hr];simp only[actT];simp_all)
theorem ract_spec (op n:Int) (s:ByteArray) (con to:ConT) (k:List KindT) (names:List ByteArray) (l:List TermT):Spec Tryz.prog 122 [pp (encT (.mk op n s con to k names l))] [] (.int .i64 (actT op l.length)) []:=by
 generalize hr:(actT op l.length:Int)=r
 refine wk (rv:=[.tmp 2]) ann122 22 Tryz.func122 ?_
 simp only[go_sem,encT_mk,List.length_map]
 repeat' ((first|refine condK_intro (fun _=>?_) (fun _=>?_)|refine guardK_intro (fun _=>?_) (fun _=>?_))<;>simp only[go_sem,List.length_map])
 all_goals (rw[←hr];simp only[actT];simp_all)
theorem fun_spec (t:TermT):Spec Tryz.prog 119 [pp (encT t)] [] (.bool (funT t)) []:=by
 obtain ⟨op,n,s,con,to,k,names,l⟩:=t
 generalize hr:funT (.mk op n s con to k names l)=r
 refine wk (rv:=[.tmp 2]) ann119 11 Tryz.func119 ?_
 simp only[go_sem,encT_mk]
 repeat' ((first|refine condK_intro (fun _=>?_) (fun _=>?_)|refine guardK_intro (fun _=>?_) (fun _=>?_))<;>simp only[go_sem,List.length_map])
 all_goals (rw[←hr];simp only[funT,TermT.op];simp_all)
theorem any_res:∀l:List TermT,resL l=!(l.any fun x=>!resT x)
 | []=>rfl
 |x::r=>by rw[resL,any_res r,List.any_cons];cases resT x<;>simp
theorem res_cases (op n:Int) (s:ByteArray) (con to:ConT) (k:List KindT) (names:List ByteArray) (l:List TermT) :
  ((op=2∨op=3∨op=4∨op=6)∧resT (.mk op n s con to k names l)=true)∨(op=16∧∀x r,l=x::r→resT (.mk op n s con to k names l)=funT x) ∨
  ((op=10∨op=12∨op=14∨op=8)∧resT (.mk op n s con to k names l)=!(l.any fun x=>!resT x))∨((op≠2∧op≠3∧op≠4∧op≠6∧op≠16∧op≠10∧op≠12∧op≠14∧op≠8)∧resT (.mk op n s con to k names l)=false):=by
 by_cases h1:op=2∨op=3∨op=4∨op=6
 ·exact .inl ⟨h1,by rw[resT,if_pos h1]⟩
 ·by_cases h2:op=16
  ·exact .inr (.inl ⟨h2,fun x r e=>by subst e;rw[resT,if_neg h1,if_pos h2];rfl⟩)
  ·by_cases h3:op=10∨op=12∨op=14∨op=8
   ·exact .inr (.inr (.inl ⟨h3,by rw[resT,if_neg h1,if_neg h2,if_pos h3,any_res]⟩))
   ·exact .inr (.inr (.inr ⟨by omega,by rw[resT,if_neg h1,if_neg h2,if_neg h3]⟩))
theorem res1_spec (t:TermT) (b:Bool) (h:Spec Tryz.prog 83 [pp (encT t)] [] (.bool b) []):Spec Tryz.prog 120 [pp (encT t)] [] (.bool (!b)) []:=by
 refine wk (rv:=[.tmp 2]) ann120 6 Tryz.func120 ?_
 simp only[go_sem,encT_sz]
 refine aCall_intro h ?_
 simp only[go_sem]
theorem fix_cons {n:Int}{s:ByteArray}{con to:ConT}{k:List KindT}{names:List ByteArray}{l:List TermT}(h:nodeT 16 n s con to k names l.length=true):∃x,l=[x]:=by
 have:=(node_op h).2.2.2.1
 rw[partsT,if_neg (by decide),if_pos (by decide)] at this
 cases l with
 |nil=>simp at this
 |cons x r=>
  cases r with
  |nil=>exact ⟨x,rfl⟩
  |cons y r=>simp at this;omega
theorem result_spec (t:TermT):wfT t=true→Spec Tryz.prog 83 [pp (encT t)] [] (.bool (resT t)) []:=by
 revert t
 refine TermT.ind1 fun op n s con to k names l ih=>?_
 intro hwf
 rw[wfT,Bool.and_eq_true] at hwf
 obtain ⟨hnode,hwl⟩:=hwf
 have hA:Spec Tryz.prog 23 [pp (.slice (l.map encT)),pp (.fn 120 [])] [] (.bool (l.any fun x=>!resT x)) []:=
  ContainsFuncT encT l 120 [] _ (fun e _=>encT_sz e) fun x hx=>res1_spec x _ (ih x hx (wfL_mem.1 hwl x hx))
 clear ih hwl
 rcases res_cases op n s con to k names l with ⟨h,hr⟩|⟨h,hr⟩|⟨h,hr⟩|⟨h,hr⟩
 ·rw[hr]
  clear hr hA
  refine wk (rv:=[.tmp 2]) ann83 26 Tryz.func83 ?_
  rcases h with rfl|rfl|rfl|rfl<;>simp only[go_sem,encT_mk,Int.reduceBEq]
 ·subst h
  obtain ⟨x,rfl⟩:=fix_cons hnode
  rw[hr x [] rfl]
  have hF:=fun_spec x
  clear hr hA
  refine wk (rv:=[.tmp 2]) ann83 26 Tryz.func83 ?_
  simp only[go_sem,encT_mk,Int.reduceBEq,List.map_cons,List.map_nil,encT_sz]
  refine aCall_intro hF ?_
  simp only[go_sem]
 ·rw[hr]
  generalize (l.any fun x=>!resT x)=b at hA
  clear hr
  refine wk (rv:=[.tmp 2]) ann83 26 Tryz.func83 ?_
  rcases h with rfl|rfl|rfl|rfl
  all_goals
   simp only[go_sem,encT_mk,Int.reduceBEq]
   refine aCall_intro hA ?_
   simp only[go_sem]
 ·rw[hr]
  clear hr hA
  obtain ⟨e2,e3,e4,e6,e16,e10,e12,e14,e8⟩:=h
  rw[←beq_eq_false_iff_ne] at e2 e3 e4 e6 e16 e10 e12 e14 e8
  refine wk (rv:=[.tmp 2]) ann83 26 Tryz.func83 ?_
  simp only[go_sem,encT_mk,e2,e3,e4,e6,e16,e10,e12,e14,e8]
theorem encT_nodeL (op:Int) (l:List TermT):encT (nodeL op l)=.agg [.int .i64 op,.int .i64 0,.str ByteArray.empty,.int .i64 0,.int .i64 0,.str ByteArray.empty,.slice [],.slice [],.slice [],.int .i64 0,.int .i64 0,.str ByteArray.empty,.slice [],.slice [],.slice [],.slice [],.slice [],.slice (l.map encT)]:=by rw[nodeL,encT_mk];rfl
theorem encT_failT (n c:Int):encT (failT n c)=.agg [.int .i64 19,.int .i64 n,.str ByteArray.empty,.int .i64 c,.int .i64 0,.str ByteArray.empty,.slice [],.slice [],.slice [],.int .i64 0,.int .i64 0,.str ByteArray.empty,.slice [],.slice [],.slice [],.slice [],.slice [],.slice []]:=by rw[failT,encT_mk];rfl
theorem encT_intT (n:Int):encT (intT n)=.agg [.int .i64 2,.int .i64 n,.str ByteArray.empty,.int .i64 0,.int .i64 0,.str ByteArray.empty,.slice [],.slice [],.slice [],.int .i64 0,.int .i64 0,.str ByteArray.empty,.slice [],.slice [],.slice [],.slice [],.slice [],.slice []]:=by rw[intT,encT_mk];rfl
theorem encT_txtT (s:ByteArray):encT (txtT s)=.agg [.int .i64 3,.int .i64 0,.str s,.int .i64 0,.int .i64 0,.str ByteArray.empty,.slice [],.slice [],.slice [],.int .i64 0,.int .i64 0,.str ByteArray.empty,.slice [],.slice [],.slice [],.slice [],.slice [],.slice []]:=by rw[txtT,encT_mk];rfl
theorem unit_spec:Spec Tryz.prog 222 [] [] (encT unitT) []:=by
 rw[unitT,encT_nodeL]
 refine wk (rv:=[.cell 0 31]) ann222 2 Tryz.func222 ?_
 simp only[go_sem,List.map_nil]
theorem encT_truth (b:Bool):encT (truthT b)=.agg [.int .i64 14,.int .i64 0,.str ByteArray.empty,.int .i64 13,.int .i64 0,.str ByteArray.empty,.slice [],.slice [],.slice [encC sumC],.int .i64 0,.int .i64 0,.str ByteArray.empty,.slice [],.slice [],.slice [],.slice [],.slice [],
  .slice [.agg [.int .i64 12,.int .i64 0,.str (if b then strT else strF),.int .i64 8,.int .i64 0,.str ByteArray.empty,.slice [],.slice [.str strF,.str strT],.slice [encC unitC,encC unitC],.int .i64 0,.int .i64 0,.str ByteArray.empty,.slice [],.slice [],.slice [],.slice [],.slice [],.slice [encT unitT]]]]:=by
 rw[truthT,encT_mk,List.map_cons,List.map_nil,encT_mk,List.map_cons,List.map_nil];rfl
theorem encC_bool:encC boolC=.agg [.int .i64 13,.int .i64 0,.str ByteArray.empty,.slice [],.slice [],.slice [.agg [.int .i64 8,.int .i64 0,.str ByteArray.empty,.slice [],.slice [.str strF,.str strT],.slice [encC unitC,encC unitC]]]]:=by
 rw[boolC,encC_mk,List.map_cons,List.map_nil,encC_mk];rfl
theorem encC_sum:encC sumC=.agg [.int .i64 8,.int .i64 0,.str ByteArray.empty,.slice [],.slice [.str strF,.str strT],.slice [encC unitC,encC unitC]]:=by
 rw[sumC,encC_mk];rfl
theorem truth_spec (b:Bool):Spec Tryz.prog 221 [.one (.pv (.bool b))] [] (encT (truthT b)) []:=by
 have hB:=Bool_spec
 have hU:=unit_spec
 rw[encT_truth,encC_sum]
 rw[encC_bool] at hB
 generalize encC unitC=u at hB ⊢
 cases b
 all_goals
  refine wk (rv:=[.cell 2 31]) ann221 18 Tryz.func221 ?_
  simp only[go_sem,encT_sz]
  refine aCall_intro hB ?_
  simp only[go_sem,encT_sz]
  try (refine ⟨by kernel_rfl,?_⟩;try simp only[go_sem,encT_sz])
  refine aCall_intro hB ?_
  simp only[go_sem,encT_sz]
  try (refine ⟨by kernel_rfl,?_⟩;try simp only[go_sem,encT_sz])
  refine aCall_intro hU ?_
  simp only[go_sem,encT_sz]
  try rfl
theorem rtruth_spec (b:Bool):Spec Tryz.prog 163 [.one (.pv (.bool b))] [] (encT (truthT b)) []:=by
 have hB:=rBool_spec
 rw[encT_truth,encC_sum,unitT,encT_nodeL]
 rw[encC_bool] at hB
 generalize encC unitC=u at hB ⊢
 cases b
 all_goals
  refine wk (rv:=[.cell 2 31]) ann163 20 Tryz.func163 ?_
  simp only[go_sem,encT_sz]
  refine aCall_intro hB ?_
  simp only[go_sem,encT_sz]
  try (refine ⟨by kernel_rfl,?_⟩;try simp only[go_sem,encT_sz])
  try rfl
theorem number_spec (n:Int) (ok:Bool):Spec Tryz.prog 220 [ii n,.one (.pv (.bool ok))] [] (encT (numbT n ok)) []:=by
 by_cases h:ok=false∨n < -mostN∨n>mostN
 ·rw[numbT,if_pos h,encT_failT]
  unfold mostN at h
  cases ok with
  |false=>
   refine wk (rv:=[.cell 4 31]) ann220 19 Tryz.func220 ?_
   simp only[go_sem]
  |true=>
   have h:=h.resolve_left (by decide)
   by_cases h1:n < -4503599627370496
   ·refine wk (rv:=[.cell 4 31]) ann220 19 Tryz.func220 ?_
    simp only[go_sem,decide_eq_true h1]
   ·refine wk (rv:=[.cell 4 31]) ann220 19 Tryz.func220 ?_
    simp only[go_sem,decide_eq_false h1,decide_eq_true (h.resolve_left h1)]
 ·rw[numbT,if_neg h,encT_intT]
  unfold mostN at h
  cases ok with
  |false=>exact absurd (.inl rfl) h
  |true=>
   have h1:¬n < -4503599627370496:=fun e=>h (.inr (.inl e))
   have h2:¬n>4503599627370496:=fun e=>h (.inr (.inr e))
   refine wk (rv:=[.cell 4 31]) ann220 19 Tryz.func220 ?_
   simp only[go_sem,decide_eq_false h1,decide_eq_false h2]
theorem rnumber_spec (n:Int):Spec Tryz.prog 161 [ii n] [] (encT (numbT n true)) []:=by
 by_cases h:n < -mostN∨n>mostN
 ·rw[numbT,if_pos (.inr h),encT_failT]
  unfold mostN at h
  by_cases h1:n>4503599627370496
  ·refine wk (rv:=[.cell 2 31]) ann161 13 Tryz.func161 ?_
   simp only[go_sem,decide_eq_true h1]
  ·refine wk (rv:=[.cell 2 31]) ann161 13 Tryz.func161 ?_
   simp only[go_sem,decide_eq_false h1,decide_eq_true (h.resolve_right h1)]
 ·rw[numbT,if_neg (by rintro (e|e);cases e;exact h e),encT_intT]
  unfold mostN at h
  have h1:¬n < -4503599627370496:=fun e=>h (.inl e)
  have h2:¬n>4503599627370496:=fun e=>h (.inr e)
  refine wk (rv:=[.cell 2 31]) ann161 13 Tryz.func161 ?_
  simp only[go_sem,decide_eq_false h1,decide_eq_false h2]
theorem size_spec (n:Int) (h1:-mostN≤n) (h2:n≤mostN):Spec Tryz.prog 223 [ii n] [] (.int .i64 (absI n)) []:=by
 unfold mostN at h1 h2
 have w:IntKind.i64.wrap (0 - n)=-n:=by rw[wrap_id (by omega) (by omega)];omega
 rw[absI]
 refine wk (rv:=[.tmp 2]) ann223 7 Tryz.func223 ?_
 simp only[go_sem,w]
theorem magnitude_spec (n:Int) (h1:-mostN≤n) (h2:n≤mostN):Spec Tryz.prog 162 [ii n] [] (.int .i64 (absI n)) []:=by
 unfold mostN at h1 h2
 have w:IntKind.i64.wrap (0 - n)=-n:=by rw[wrap_id (by omega) (by omega)];omega
 by_cases h:n<0
 ·rw[absI,if_pos (by omega)]
  refine wk (rv:=[.tmp 2]) ann162 8 Tryz.func162 ?_
  simp only[go_sem,w,decide_eq_true h]
 ·rw[absI,if_neg (by omega)]
  refine wk (rv:=[.tmp 2]) ann162 8 Tryz.func162 ?_
  simp only[go_sem,decide_eq_false h]
theorem show_spec (n:Int) (h1:-mostN≤n) (h2:n≤mostN):Spec Tryz.prog 164 [ii n] [] (.str (showB n)) []:=by
 unfold mostN at h1 h2
 by_cases h:n<0
 ·have hD:=DecimalAll_spec n.natAbs (by omega)
  have e1:((n.natAbs:Nat):Int)=0 - n:=by omega
  have w:IntKind.i64.wrap (0 - n)=0 - n:=wrap_id (by omega) (by omega)
  have e2:showB n=ByteArray.mk #[45]++showB (0 - n):=by
   rw[←e1,show_nat,bytes_cons,←Lib.itoa_neg _ (by omega),e1,showB]
   rw[show -(0 - n)=n by omega]
  have hsz:(ByteArray.mk #[45]).size+(showB (0 - n)).size≤9223372036854775807:=by
   have:=Lib.itoa_length_le (0 - n) (by omega) (by omega)
   have e1:(showB (0 - n)).size=(Lib.itoa (0 - n)).length:=by rw[showB];simp[ByteArray.size]
   have e2:(ByteArray.mk #[45]).size=1:=rfl
   rw[e1,e2];omega
  rw[e2]
  rw[e1] at hD
  generalize showB (0 - n)=r at hD hsz ⊢
  refine wk (rv:=[.tmp 2]) ann164 11 Tryz.func164 ?_
  simp only[go_sem,decide_eq_true h,w]
  have hsz':1+r.size≤9223372036854775807:=hsz
  refine aCall_intro hD ?_
  simp only[go_sem,hsz,hsz',if_true]
 ·have hD:=DecimalAll_spec n.toNat (by omega)
  rw[Int.toNat_of_nonneg (by omega)] at hD
  refine wk (rv:=[.tmp 2]) ann164 11 Tryz.func164 ?_
  simp only[go_sem,decide_eq_false h]
  refine aCall_intro hD ?_
  simp only[go_sem]
/-! Searching -/
theorem beq_sym (a b:List UInt8):(a==b)=(b==a):=by
 rw[Bool.eq_iff_iff,beq_iff_eq,beq_iff_eq];exact eq_comm
theorem Index_spec (l:List ByteArray) (s:ByteArray):Spec Tryz.prog 160 [pp (.slice (l.map .str)),pp (.str s)] [] (.int .i64 (findS l s 0)) []:=by
 generalize hres:findS l s 0=res
 refine wf (rv:=[.tmp 4]) ann160 19 Tryz.func160 fun hfit=>?_
 have hlen:l.length≤9223372036854775807:=by
  simp only[argsFit,SV.pv?,SC.pv?,PV.fit,maxLen_eq,List.length_map] at hfit
  exact hfit.1.1
 clear hfit
 simp only[go_sem,List.length_map]
 refine aLoop_list (α:=ByteArray) (β:=Nat) (fun rest m=>⟨[(8,ii m),(0,pp (.slice (l.map .str))),(1,pp (.str s)),(7,ii l.length)],[],[]⟩) (fun rest m=>∃pre,l=pre++rest∧m=pre.length∧findS rest s m=res) ?_ ?_ l 0 _ ?_ ⟨[],rfl,rfl,hres⟩
 ·rintro m ⟨pre,g1,g2,g3⟩ K
  simp only[List.append_nil] at g1
  subst g1
  rw[findS] at g3
  subst g3
  simp only[go_sem,g2,lt_false (Int.le_refl _)]
 ·rintro x rest m ⟨pre,g1,g2,g3⟩ K hK
  have hx:(l.map PV.str)[m]? = some (.str x):=by simp[g1,g2]
  have hlt:(m:Int)<l.length:=by rw[g1,g2];simp;omega
  have hll:m<l.length:=by rw[g1,g2];simp
  have w4:IntKind.i64.wrap ((m:Int)+1)=((m+1:Nat):Int):=by rw[wrap_id (by omega) (by omega)];simp
  rw[findS] at g3
  have hs:=beq_sym s.toList x.toList
  cases hb:(x.toList==s.toList) with
  |true=>
   rw[if_pos hb] at g3
   subst g3
   rw[hb] at hs
   simp only[go_sem,decide_eq_true hlt,Int.toNat_natCast,Int.natCast_nonneg,hx,hs]
  |false=>
   rw[if_neg (by rw[hb];decide)] at g3
   rw[hb] at hs
   simp only[go_sem,decide_eq_true hlt,Int.toNat_natCast,Int.natCast_nonneg,hx,hs,w4]
   refine hK (m+1) _ ?_ ⟨pre++[x],by simp[g1],by simp[g2],by simpa using g3⟩
   simp only[go_sem]
 ·simp only[go_sem,Int.natCast_zero]
theorem Contains_spec (l:List ByteArray) (s:ByteArray):Spec Tryz.prog 159 [pp (.slice (l.map .str)),pp (.str s)] [] (.bool (decide (0≤findS l s 0))) []:=by
 have hI:=Index_spec l s
 generalize findS l s 0=r at hI
 refine wk (rv:=[.tmp 4]) ann159 9 Tryz.func159 ?_
 simp only[go_sem]
 refine aCall_intro hI ?_
 simp only[go_sem,ge_iff_le]
theorem Find_spec (l:List ByteArray) (s:ByteArray):Spec Tryz.prog 128 [pp (.slice (l.map .str)),pp (.str s)] [] (.int .i64 (findS l s 0)) []:=by
 generalize hres:findS l s 0=res
 refine wf (rv:=[.tmp 4]) ann128 19 Tryz.func128 fun hfit=>?_
 have hlen:l.length≤9223372036854775807:=by
  simp only[argsFit,SV.pv?,SC.pv?,PV.fit,maxLen_eq,List.length_map] at hfit
  exact hfit.1.1
 clear hfit
 simp only[go_sem]
 refine aLoop_list (α:=ByteArray) (β:=Nat) (fun rest m=>⟨[(5,ii m),(1,pp (.str s)),(0,pp (.slice (l.map .str)))],[],[]⟩) (fun rest m=>∃pre,l=pre++rest∧m=pre.length∧findS rest s m=res) ?_ ?_ l 0 _ ?_ ⟨[],rfl,rfl,hres⟩
 ·rintro m ⟨pre,g1,g2,g3⟩ K
  simp only[List.append_nil] at g1
  subst g1
  rw[findS] at g3
  subst g3
  simp only[go_sem,g2,lt_false (Int.le_refl _),List.length_map]
 ·rintro x rest m ⟨pre,g1,g2,g3⟩ K hK
  have hx:(l.map PV.str)[m]? = some (.str x):=by simp[g1,g2]
  have hlt:(m:Int)<l.length:=by rw[g1,g2];simp;omega
  have hll:m<l.length:=by rw[g1,g2];simp
  have w4:IntKind.i64.wrap ((m:Int)+1)=((m+1:Nat):Int):=by rw[wrap_id (by omega) (by omega)];simp
  rw[findS] at g3
  cases hb:(x.toList==s.toList) with
  |true=>
   rw[if_pos hb] at g3
   subst g3
   simp only[go_sem,decide_eq_true hlt,Int.toNat_natCast,Int.natCast_nonneg,hx,hb,List.length_map]
  |false=>
   rw[if_neg (by rw[hb];decide)] at g3
   simp only[go_sem,decide_eq_true hlt,Int.toNat_natCast,Int.natCast_nonneg,hx,hb,w4,List.length_map]
   refine hK (m+1) _ ?_ ⟨pre++[x],by simp[g1],by simp[g2],by simpa using g3⟩
   simp only[go_sem]
 ·simp only[go_sem,Int.natCast_zero]
/-! The part that is gone into -/
theorem closed_valid {t:TermT}(h:closedT t=true):validT t=true:=by
 rw[closedT,Bool.and_eq_true] at h;exact h.1
theorem act_le {op n:Int}{s:ByteArray}{con to:ConT}{k:List KindT}{names:List ByteArray}{l:List TermT}(h:nodeT op n s con to k names l.length=true):actT op l.length≤l.length:=by
 have hv:=(node_op h).2.2.2.1
 rw[actT]
 split
 ·exact Nat.le_refl _
 ·split
  ·rename_i g
   have h13:op=13→1≤l.length:=fun e=>by
    subst e
    rw[partsT,if_neg (by decide),if_neg (by decide),if_neg (by decide),if_neg (by decide),if_pos rfl] at hv
    omega
   by_cases e:op=13
   ·exact h13 e
   ·rw[partsT,if_neg (by omega)] at hv
    repeat' split at hv
    all_goals omega
  ·exact Nat.zero_le _
theorem innL_take:∀(l:List TermT) (a:Nat) (i:Int),innL l a i=innL (l.take a) (l.take a).length i
 | [],a,i=>by rw[List.take_nil];rw[innL,innL]
 |x::r,0,i=>by rw[List.take_zero];rw[innL,innL]
 |x::r,a+1,i=>by
  rw[List.take_succ_cons,List.length_cons,innL,innL,innL_take r a]
theorem inner_spec (t:TermT) (hwf:wfT t=true):Spec Tryz.prog 84 [pp (encT t)] [] (.int .i64 (innL t.l (actT t.op t.l.length) 0)) []:=by
 obtain ⟨op,n,s,con,to,k,names,l⟩:=t
 rw[wfT,Bool.and_eq_true] at hwf
 have hA:=act_spec op n s con to k names l
 have hle:=act_le hwf.1
 simp only[TermT.l,TermT.op]
 generalize actT op l.length=a at hA hle
 rw[innL_take]
 generalize hres:innL (l.take a) (l.take a).length 0=res
 have hwl:=wfL_mem.1 hwf.2
 have hla:(l.take a).length=a:=by rw[List.length_take];omega
 refine wf (rv:=[.tmp 2]) ann84 18 Tryz.func84 fun hfit=>?_
 have hlen:l.length≤9223372036854775807:=by
  simp only[argsFit,SV.pv?,SC.pv?,encT_mk,PV.fit,fitL,List.length_map,maxLen_eq] at hfit
  exact hfit.1.2.2.2.2.2.2.2.2.2.2.2.2.2.2.2.2.2.1.1
 clear hfit
 simp only[go_sem,encT_sz]
 refine aCall_intro hA ?_
 simp only[go_sem]
 refine aLoop_list (α:=TermT) (β:=Nat) (fun rest m=>⟨[(6,ii m),(1,pp (.ep (encT (.mk op n s con to k names l)) 0)),(5,ii a)],[],[]⟩)
  (fun rest m=>∃pre,l.take a=pre++rest∧m=pre.length∧innL rest rest.length m=res) ?_ ?_ (l.take a) 0 _ ?_ ⟨[],rfl,rfl,hres⟩
 ·rintro m ⟨pre,g1,g2,g3⟩ K
  simp only[List.append_nil] at g1
  have e:m=a:=by rw[g2,←g1,hla]
  rw[innL] at g3
  subst g3
  simp only[go_sem,e,lt_false (Int.le_refl _)]
 ·rintro x rest m ⟨pre,g1,g2,g3⟩ K hK
  have hlt':m<a:=by have:=congrArg List.length g1;rw[hla,List.length_append,List.length_cons] at this;omega
  have hlt:(m:Int)<a:=by omega
  have hxl:l[m]? = some x:=by
   have:(l.take a)[m]? = some x:=by rw[g1];simp[g2]
   rwa [List.getElem?_take_of_lt hlt'] at this
  have hx:(l.map encT)[m]? = some (encT x):=by simp[hxl]
  have w4:IntKind.i64.wrap ((m:Int)+1)=((m+1:Nat):Int):=by rw[wrap_id (by omega) (by omega)];simp
  have hR:=result_spec x (hwl x (List.mem_of_getElem? hxl))
  rw[List.length_cons,innL] at g3
  cases hb:resT x with
  |false=>
   rw[hb] at hR
   rw[if_neg (by rw[hb];decide)] at g3
   subst g3
   simp only[go_sem,decide_eq_true hlt,Int.toNat_natCast,Int.natCast_nonneg,hx,encT_sz,encT_mk]
   refine aCall_intro hR ?_
   simp only[go_sem]
  |true=>
   rw[hb] at hR
   rw[if_pos hb] at g3
   simp only[go_sem,decide_eq_true hlt,Int.toNat_natCast,Int.natCast_nonneg,hx,encT_sz,encT_mk]
   refine aCall_intro hR ?_
   simp only[go_sem,w4]
   refine hK (m+1) _ ?_ ⟨pre++[x],by simp[g1],by simp[g2],by simpa using g3⟩
   simp only[go_sem,encT_mk]
 ·simp only[go_sem,Int.natCast_zero,encT_mk]
/-! Closed terms; results -/
theorem tFreeX_specN (t:TermT) (hok:okT t):Spec Tryz.prog 13 [pp (encT t)] [] (.tuple [.slice (ints (FreeT t).1),.slice (ints (FreeT t).2.1),.int .i64 (FreeT t).2.2]) []:=by
 cases hv:validT t with
 |true=>exact tFreeX_spec t hok (wf_wc t (valid_wf hv).1)
 |false=>
  have hV:=tValid_spec t hok
  rw[hv] at hV
  rw[FreeT,if_neg (by rw[hv];decide)]
  refine wk (rv:=[.tmp 2,.tmp 3,.tmp 4]) ann13 15 Tryz.func13 ?_
  simp only[go_sem,encT_sz]
  refine aCall_intro hV ?_
  simp only[go_sem,ints,List.map_nil]
theorem closed_spec (t:TermT) (hok:okT t) (_hwc:True):Spec Tryz.prog 77 [pp (encT t)] [] (.bool (closedT t)) []:=by
 have hF:=tFreeX_specN t hok
 rw[FreeT] at hF
 rw[closedT]
 cases hv:validT t with
 |false=>
  rw[hv,if_neg (by decide)] at hF
  simp only[ints,List.map_nil] at hF
  refine wk (rv:=[.tmp 2]) ann77 24 Tryz.func77 ?_
  simp only[go_sem,encT_sz]
  refine aCall_intro hF ?_
  simp only[go_sem,Int.reduceBEq,Bool.false_and]
 |true=>
  rw[hv,if_pos rfl] at hF
  generalize sortU (consF t 0)=la at hF ⊢
  generalize sortU (termsF t 0)=lb at hF ⊢
  simp only[ints] at hF
  have z:∀l:List Int,(((l.length:Nat):Int)==0)=decide (l.length=0):=fun l=>by
   rw[Bool.eq_iff_iff,beq_iff_eq,decide_eq_true_iff];omega
  refine wk (rv:=[.tmp 2]) ann77 24 Tryz.func77 ?_
  simp only[go_sem,encT_sz]
  refine aCall_intro hF ?_
  simp only[go_sem,List.length_map,z,Int.reduceBEq,Bool.true_and]
  cases decide (la.length=0)<;>simp only[go_sem,List.length_map,z,Int.reduceBEq,Bool.true_and,Bool.false_and]
theorem rClosed_spec (t:TermT) (hv:validT t=true) (hok:okT t):Spec Tryz.prog 82 [pp (encT t)] [] (.bool (decide ((sortU (consF t 0)).length=0)&&decide ((sortU (termsF t 0)).length=0))) []:=by
 obtain ⟨hwf,hd⟩:=valid_wf hv
 have h1:=rFreeCons_spec t hwf hok (wf_wc t hwf) (by omega)
 have h2:=rFreeTerms_spec t hwf hok (by omega)
 generalize sortU (consF t 0)=la at h1 ⊢
 generalize sortU (termsF t 0)=lb at h2 ⊢
 simp only[ints] at h1 h2
 have z:∀l:List Int,(((l.length:Nat):Int)==0)=decide (l.length=0):=fun l=>by
  rw[Bool.eq_iff_iff,beq_iff_eq,decide_eq_true_iff];omega
 refine wk (rv:=[.tmp 2]) ann82 13 Tryz.func82 ?_
 simp only[go_sem,encT_sz]
 refine aCall_intro h1 ?_
 simp only[go_sem,encT_sz,List.length_map,z]
 cases decide (la.length=0)
 ·simp only[go_sem,Bool.false_and]
 ·simp only[go_sem,encT_sz]
  refine aCall_intro h2 ?_
  simp only[go_sem,List.length_map,z,Bool.true_and]
theorem Whole_spec (t:TermT) (hok:okT t):Spec Tryz.prog 29 [pp (encT t)] [] (.bool (closedT t)) []:=by
 have hV:=rtValid_spec t hok
 rw[closedT]
 cases hv:validT t with
 |false=>
  rw[hv] at hV
  refine wk (rv:=[.tmp 2]) ann29 9 Tryz.func29 ?_
  simp only[go_sem,encT_sz]
  refine aCall_intro hV ?_
  simp only[go_sem,Bool.false_and]
 |true=>
  have hC:=rClosed_spec t hv hok
  rw[hv] at hV
  generalize (decide ((sortU (consF t 0)).length=0)&&decide ((sortU (termsF t 0)).length=0))=b at hC ⊢
  refine wk (rv:=[.tmp 2]) ann29 9 Tryz.func29 ?_
  simp only[go_sem,encT_sz]
  refine aCall_intro hV ?_
  simp only[go_sem,encT_sz]
  refine aCall_intro hC ?_
  simp only[go_sem,Bool.true_and]
theorem form_spec (t:TermT):wfT t=true→Spec Tryz.prog 85 [pp (encT t)] [] (.bool (resT t)) []:=by
 revert t
 refine TermT.ind1 fun op n s con to k names l ih=>?_
 intro hwf
 rw[wfT,Bool.and_eq_true] at hwf
 obtain ⟨hnode,hwl⟩:=hwf
 have hwl:=wfL_mem.1 hwl
 rcases res_cases op n s con to k names l with ⟨h,hr⟩|⟨h,hr⟩|⟨h,hr⟩|⟨h,hr⟩
 ·rw[hr]
  clear hr ih
  refine wk (rv:=[.tmp 2]) ann85 46 Tryz.func85 ?_
  rcases h with rfl|rfl|rfl|rfl<;>simp only[go_sem,encT_mk,Int.reduceBEq]
 ·subst h
  obtain ⟨x,rfl⟩:=fix_cons hnode
  rw[hr x [] rfl]
  clear hr ih
  obtain ⟨op2,n2,s2,con2,to2,k2,names2,l2⟩:=x
  simp only[funT,TermT.op]
  refine wk (rv:=[.tmp 2]) ann85 46 Tryz.func85 ?_
  cases h4:(op2==4) with
  |true=>simp only[go_sem,encT_mk,Int.reduceBEq,List.map_cons,List.map_nil,h4,Bool.true_or]
  |false=>simp only[go_sem,encT_mk,Int.reduceBEq,List.map_cons,List.map_nil,h4,Bool.false_or]
 ·rw[hr]
  generalize hres:(!(l.any fun x=>!resT x))=res
  clear hr
  refine wf (rv:=[.tmp 2]) ann85 46 Tryz.func85 fun hfit=>?_
  have hlen:l.length≤9223372036854775807:=by
   simp only[argsFit,SV.pv?,SC.pv?,encT_mk,PV.fit,fitL,List.length_map,maxLen_eq] at hfit
   exact hfit.1.2.2.2.2.2.2.2.2.2.2.2.2.2.2.2.2.2.1.1
  clear hfit
  have e2:(op==2)=false:=by rcases h with rfl|rfl|rfl|rfl<;>rfl
  have e3:(op==3)=false:=by rcases h with rfl|rfl|rfl|rfl<;>rfl
  have e4:(op==4)=false:=by rcases h with rfl|rfl|rfl|rfl<;>rfl
  have e6:(op==6)=false:=by rcases h with rfl|rfl|rfl|rfl<;>rfl
  have e16:(op==16)=false:=by rcases h with rfl|rfl|rfl|rfl<;>rfl
  rcases h with h|h|h|h
  all_goals
   have e10:(op==10)=_:=congrArg (fun z:Int=>z==10) h
   have e12:(op==12)=_:=congrArg (fun z:Int=>z==12) h
   have e14:(op==14)=_:=congrArg (fun z:Int=>z==14) h
   have e8:(op==8)=_:=congrArg (fun z:Int=>z==8) h
   simp only[go_sem,encT_mk,e2,e3,e4,e6,e16,e10,e12,e14,e8,Int.reduceBEq]
   clear e2 e3 e4 e6 e16 e10 e12 e14 e8 h
   refine aLoop_list (α:=TermT) (β:=Nat) (fun rest b=>⟨[(3,ii b),(1,pp (.ep (encT (.mk op n s con to k names l)) 0))],[],[]⟩)
    (fun rest b=>∃pre,l=pre++rest∧b=pre.length∧(!(rest.any fun x=>!resT x))=res) ?_ ?_ l 0 _ ?_ ⟨[],rfl,rfl,hres⟩
   ·rintro m ⟨pre,g1,g2,g3⟩ K
    simp only[List.append_nil] at g1
    subst g1
    rw[List.any_nil] at g3
    subst g3
    simp only[go_sem,g2,lt_false (Int.le_refl _),List.length_map,encT_mk]
   ·rintro x rest m ⟨pre,g1,g2,g3⟩ K hK
    have hx:(l.map encT)[m]? = some (encT x):=by simp[g1,g2]
    have hlt:(m:Int)<l.length:=by rw[g1,g2];simp;omega
    have hll:m<l.length:=by rw[g1,g2];simp
    have hm:x∈l:=by simp[g1]
    have w4:IntKind.i64.wrap ((m:Int)+1)=((m+1:Nat):Int):=by rw[wrap_id (by omega) (by omega)];simp
    have hI:=ih x hm (hwl x hm)
    rw[List.any_cons] at g3
    cases hv:resT x with
    |false=>
     rw[hv,Bool.not_false,Bool.true_or,Bool.not_true] at g3
     rw[hv] at hI
     subst g3
     simp only[go_sem,decide_eq_true hlt,Int.toNat_natCast,Int.natCast_nonneg,hx,encT_sz,List.length_map,encT_mk]
     refine aCall_intro hI ?_
     simp only[go_sem]
    |true=>
     rw[hv,Bool.not_true,Bool.false_or] at g3
     rw[hv] at hI
     simp only[go_sem,decide_eq_true hlt,Int.toNat_natCast,Int.natCast_nonneg,hx,encT_sz,List.length_map,encT_mk]
     refine aCall_intro hI ?_
     simp only[go_sem,w4]
     refine hK (m+1) _ ?_ ⟨pre++[x],by simp[g1],by simp[g2],g3⟩
     simp only[go_sem,encT_mk]
   ·simp only[go_sem,Int.natCast_zero,encT_mk]
 ·rw[hr]
  clear hr ih
  obtain ⟨e2,e3,e4,e6,e16,e10,e12,e14,e8⟩:=h
  rw[←beq_eq_false_iff_ne] at e2 e3 e4 e6 e16 e10 e12 e14 e8
  refine wk (rv:=[.tmp 2]) ann85 46 Tryz.func85 ?_
  simp only[go_sem,encT_mk,e2,e3,e4,e6,e16,e10,e12,e14,e8]
theorem Value_spec (t:TermT) (hok:okT t) (hwc:True):Spec Tryz.prog 36 [pp (encT t)] [] (.bool (closedT t&&resT t)) []:=by
 have h1:=closed_spec t hok hwc
 cases hc:closedT t with
 |false=>
  rw[hc] at h1
  refine wk (rv:=[.tmp 2]) ann36 9 Tryz.func36 ?_
  simp only[go_sem,encT_sz]
  refine aCall_intro h1 ?_
  simp only[go_sem,Bool.false_and]
 |true=>
  have h2:=result_spec t (valid_wf (closed_valid hc)).1
  rw[hc] at h1
  generalize resT t=b at h2 ⊢
  refine wk (rv:=[.tmp 2]) ann36 9 Tryz.func36 ?_
  simp only[go_sem,encT_sz]
  refine aCall_intro h1 ?_
  simp only[go_sem,encT_sz]
  refine aCall_intro h2 ?_
  simp only[go_sem,Bool.true_and]
theorem rValue_spec (t:TermT) (hok:okT t):Spec Tryz.prog 37 [pp (encT t)] [] (.bool (closedT t&&resT t)) []:=by
 have h1:=Whole_spec t hok
 cases hc:closedT t with
 |false=>
  rw[hc] at h1
  refine wk (rv:=[.tmp 2]) ann37 9 Tryz.func37 ?_
  simp only[go_sem,encT_sz]
  refine aCall_intro h1 ?_
  simp only[go_sem,Bool.false_and]
 |true=>
  have h2:=form_spec t (valid_wf (closed_valid hc)).1
  rw[hc] at h1
  generalize resT t=b at h2 ⊢
  refine wk (rv:=[.tmp 2]) ann37 9 Tryz.func37 ?_
  simp only[go_sem,encT_sz]
  refine aCall_intro h1 ?_
  simp only[go_sem,encT_sz]
  refine aCall_intro h2 ?_
  simp only[go_sem,Bool.true_and]
end Go.Abs.Kon