/- Terms. -/
import Derived.Test.YtafhcphggdipaaaGreatDoorTermA
import Derived.Test.YtafhcphggdipaaaGreatDoorKonH
import Derived.Test.YtafhcphggdipaaaGreatDoorAbsD
import Derived.Test.YtafhcphggdipaaaGreatDoorShelfA
set_option linter.unusedSimpArgs false
set_option linter.unusedVariables false
namespace Go.Abs.Kon
open Go Go.Proofs Go.Abs
set_option maxRecDepth 100000
set_option maxHeartbeats 4000000
theorem strEq_empty {s:ByteArray}(h:strEq s ByteArray.empty=true):s=ByteArray.empty:=by
 have h1:s.toList=ByteArray.empty.toList:=eq_of_beq h
 rw[Lib.toList_data,Lib.toList_data] at h1
 have h2:s.data=ByteArray.empty.data:=Array.toList_inj.1 h1
 cases s
 cases h2
 rfl
theorem eqCs_nil {l:List ConT}(h:eqCs l []=true):l=[]:=by
 cases l with
 |nil=>rfl
 |cons x r=>rw[eqCs] at h;cases h
theorem sameK_nil {k:List KindT}(h:sameK (.mk k) (.mk [])=true):k=[]:=by
 cases k with
 |nil=>rfl
 |cons x r=>rw[sameK,sameKs] at h;cases h
theorem eqL_nil {l:List ByteArray}(h:eqL strEq l []=true):l=[]:=by
 cases l with
 |nil=>rfl
 |cons x r=>rw[eqL] at h;cases h
theorem eqC_zero {c:ConT}(h:eqC c zeroC=true):c=zeroC:=by
 obtain ⟨op,n,s,k,names,l⟩:=c
 rw[zeroC,eqC] at h
 simp only[Bool.and_eq_true] at h
 obtain ⟨h1,h2,h3,h4,h5,h6⟩:=h
 rw[eq_of_beq h1,eq_of_beq h2,strEq_empty h3,sameK_nil h4,eqL_nil h5,eqCs_nil h6,zeroC]
theorem valid_zero:validF zeroC=false:=by decide +kernel
theorem valid_notzero {c:ConT}(h:validF c=true):eqC c zeroC=false:=by
 cases h1:eqC c zeroC with
 |false=>rfl
 |true=>rw[eqC_zero h1,valid_zero] at h;cases h
theorem node_op {op n:Int}{s:ByteArray}{con to:ConT}{k:List KindT}{names:List ByteArray}{len:Nat}(h:nodeT op n s con to k names len=true) :
  1≤op∧op≤19∧numT op n=true∧(len:Int)=partsT op n names.length∧textT op s=true∧namesT op names=true∧(op==6&&kValidF k||decide (k.length=0))=true∧fitsC con (hasConF op)=true∧fitsC to (op==8)=true:=by
 rw[nodeT] at h
 simp only[Bool.and_eq_true,decide_eq_true_iff] at h
 simpa only[Bool.and_eq_true] using h
theorem node_con {op n:Int}{s:ByteArray}{con to:ConT}{k:List KindT}{names:List ByteArray}{len:Nat}(h:nodeT op n s con to k names len=true) :
  (hasConF op=true→validF con=true)∧(hasConF op=false→con=zeroC)∧(op=8→validF to=true)∧(op≠8→to=zeroC):=by
 obtain ⟨_,_,_,_,_,_,_,h1,h2⟩:=node_op h
 refine ⟨fun e=>?_,fun e=>?_,fun e=>?_,fun e=>?_⟩
 ·rw[e,fitsC,if_pos rfl] at h1;exact h1
 ·rw[e,fitsC,if_neg (by decide)] at h1;exact eqC_zero h1
 ·have:(op==8)=true:=by simp[e]
  rw[this,fitsC,if_pos rfl] at h2;exact h2
 ·have:(op==8)=false:=by simp[e]
  rw[this,fitsC,if_neg (by decide)] at h2;exact eqC_zero h2
/-! The reference -/
def consR (op:Int) (i:Nat):Int:=if op=6∨(op=9∧i=1) then 1 else 0
def termsR (op:Int) (i:Nat):Int:=if op=4∨op=16 then 1 else if op=17∨op=9∨op=13 then (if i>0 then 1 else 0) else 0
theorem ins_cons {op:Int}{i:Nat}(h:op=9→i≤1):insC op i=consR op i:=by
 rw[insC,consR]
 by_cases h6:op=6
 ·rw[if_pos h6,if_pos (.inl h6)]
 ·by_cases h9:op=9
  ·have:=h h9
   rw[if_neg h6,if_pos h9]
   split
   ·rename_i e;rcases e with e|e
    ·exact absurd e h6
    ·omega
   ·rename_i e
    have:i≠1:=fun e'=>e (.inr ⟨h9,e'⟩)
    omega
  ·rw[if_neg h6,if_neg h9,if_neg (by rintro (e|e);exact h6 e;exact h9 e.1)]
theorem ins_terms {op:Int}{i:Nat}(h:op=9→i≤1):insT op i=termsR op i:=by
 rw[insT,termsR]
 by_cases h4:op=4∨op=16
 ·rw[if_pos h4,if_pos h4]
 ·rw[if_neg h4,if_neg h4]
  by_cases h9:op=9
  ·have:=h h9
   have n1:¬(op=17∨op=13):=by omega
   have n2:op=17∨op=9∨op=13:=by omega
   rw[if_neg n1,if_pos h9,if_pos n2]
   split<;>omega
  ·by_cases h17:op=17∨op=13
   ·have n2:op=17∨op=9∨op=13:=by omega
    rw[if_pos h17,if_pos n2]
    (repeat' split)<;>omega
   ·have n2:¬(op=17∨op=9∨op=13):=by omega
    rw[if_neg h17,if_neg h9,if_neg n2]
def cshR (c:ConT) (by' from':Int):ConT:=if eqC c zeroC=true then c else rShiftF c by' from'
mutual
def rshT (cons terms:Int):TermT→Int→Int→TermT
 | .mk op n s con to k names l,uc,ut=>.mk op (if op=1∧n≥ut then n+terms else n) s (cshR con cons uc) (cshR to cons uc) k names (rshL cons terms op l 0 uc ut)
def rshL (cons terms op:Int):List TermT→Nat→Int→Int→List TermT
 | [],_,_,_=>[]
 |x::r,i,uc,ut=>rshT cons terms x (uc+consR op i) (ut+termsR op i)::rshL cons terms op r (i+1) uc ut
end
def keptT (t:TermT):TermT×Int:=if validT t=true then (t,0) else (zeroT,6)
theorem lostF_iff (c:ConT) (by' from':Int):lostF c by' from'=true↔∃x b,(x,b)∈leaves c 0∧x.op=1∧x.n - b≥from'∧x.n - b+by'<from':=by
 rw[lostF]
 have:∀(l:List (ConT×Int)) (s:Bool),l.foldl (lostStep by' from') s=true↔s=true∨∃x b,(x,b)∈l∧x.op=1∧x.n - b≥from'∧x.n - b+by'<from':=by
  intro l
  induction l with
  |nil=>intro s;simp
  |cons y l ih=>
   intro s
   rw[List.foldl_cons,ih]
   simp only[lostStep,Bool.or_eq_true,Bool.and_eq_true,decide_eq_true_iff,beq_iff_eq,List.mem_cons]
   constructor
   ·rintro ((h|h)|⟨x,b,h1,h2⟩)
    ·exact .inl h
    ·exact .inr ⟨y.1,y.2,.inl rfl,h⟩
    ·exact .inr ⟨x,b,.inr h1,h2⟩
   ·rintro (h|⟨x,b,h1|h1,h2⟩)
    ·exact .inl (.inl h)
    ·subst h1;exact .inl (.inr h2)
    ·exact .inr ⟨x,b,h1,h2⟩
 rw[this]
 simp
theorem mem_freeL {c:ConT}{i:Int}:i∈freeL c↔∃x b,(x,b)∈leaves c 0∧x.op=1∧x.n≥b∧i=x.n - b:=by
 rw[freeL,List.mem_filterMap]
 constructor
 ·rintro ⟨⟨x,b⟩,h1,h2⟩
  split at h2
  ·rename_i h3
   cases h2
   exact ⟨x,b,h1,h3.1,h3.2,rfl⟩
  ·cases h2
 ·rintro ⟨x,b,h1,h2,h3,rfl⟩
  exact ⟨(x,b),h1,by rw[if_pos ⟨h2,h3⟩]⟩
theorem mem_freeF {c:ConT}(h:validF c=true) {i:Int}:i∈freeF c↔i∈freeL c:=by rw[freeF,if_pos h,sortU_mem]
theorem mem_above {l:List Int}{u i:Int}:i∈above l u↔∃n∈l,n≥u∧i=n - u:=by
 rw[above,List.mem_filterMap]
 constructor
 ·rintro ⟨n,h1,h2⟩
  split at h2
  ·cases h2;exact ⟨n,h1,by assumption,rfl⟩
  ·cases h2
 ·rintro ⟨n,h1,h2,rfl⟩
  exact ⟨n,h1,by rw[if_pos h2]⟩
theorem shift_ok {c:ConT}{by' from':Int}(h:validF c=true) (h1:0≤from') (h2:-20000≤by') (h3:by'≤20000) (h4:∀i∈above (freeF c) from',i+by'≥0) :
  shiftF c by' from'=if validF (rShiftF c by' from')=true then (rShiftF c by' from',0) else (zeroC,6):=by
 have hl:lostF c by' from'=false:=by
  cases hl:lostF c by' from' with
  |false=>rfl
  |true=>
   obtain ⟨x,b,e1,e2,e3,e4⟩:=(lostF_iff c by' from').1 hl
   have:=h4 (x.n - b - from') (mem_above.2 ⟨x.n - b,(mem_freeF h).2 (mem_freeL.2 ⟨x,b,e1,e2,by omega,rfl⟩),e3,rfl⟩)
   omega
 rw[shiftF,if_neg (by rw[h];decide),if_neg (by rw[hl];rintro (e|e|e|e);omega;omega;omega;cases e),replF_eq,shift_eq by' from' c 0 from' (validF_formed h) (by rw[Int.add_zero])]
theorem node_parts9 {n:Int}{s:ByteArray}{con to:ConT}{k:List KindT}{names:List ByteArray}{len:Nat}(h:nodeT 9 n s con to k names len=true):len=2:=by
 obtain ⟨_,_,_,h1,_⟩:=node_op h
 rw[partsT,if_neg (by decide),if_neg (by decide),if_pos (by decide)] at h1
 omega
theorem node_op1 {op n:Int}{s:ByteArray}{con to:ConT}{k:List KindT}{names:List ByteArray}{len:Nat}(h:nodeT op n s con to k names len=true) (h1:op=1) :
  s=ByteArray.empty∧con=zeroC∧to=zeroC∧k=[]∧names=[]∧len=0∧0≤n∧n≤20000:=by
 subst h1
 obtain ⟨_,_,e1,e2,e3,e4,e5,e6,e7⟩:=node_op h
 obtain ⟨_,g1,_,g2⟩:=node_con h
 rw[partsT,if_pos (by decide)] at e2
 rw[textT,if_neg (by decide),if_neg (by decide)] at e3
 rw[namesT,if_pos (by decide)] at e4
 rw[numT,if_pos rfl] at e1
 simp only[Bool.and_eq_true,decide_eq_true_iff] at e1
 refine ⟨strEq_empty e3,g1 (by decide),g2 (by decide),?_,List.eq_nil_of_length_eq_zero (of_decide_eq_true e4),by omega,e1⟩
 have:((1:Int)==6)=false:=by decide
 rw[this,Bool.false_and,Bool.false_or] at e5
 exact List.eq_nil_of_length_eq_zero (of_decide_eq_true e5)
theorem zero_csh (by' from':Int):cshR zeroC by' from'=zeroC:=by rw[cshR,if_pos (eqC_refl _)]
theorem node_swap {op n:Int}{s:ByteArray}{con to con' to':ConT}{k:List KindT}{names:List ByteArray}{len:Nat}(h:nodeT op n s con' to' k names len=true) (h1:fitsC con (hasConF op)=false∨fitsC to (op==8)=false):nodeT op n s con to k names len=false:=by
 rw[nodeT]
 rcases h1 with h1|h1<;>rw[h1]<;>simp
mutual
theorem sh_eq (cons terms:Int) (hc1:-20000≤cons) (hc2:cons≤20000):∀(t:TermT) (uc ut:Int),wfT t=true→0≤uc→(∀i∈consF t uc,i+cons≥0) →
  ((chT (shCf cons) (shVf terms) t uc ut).2=0→(chT (shCf cons) (shVf terms) t uc ut).1=rshT cons terms t uc ut)∧((chT (shCf cons) (shVf terms) t uc ut).2≠0→wfT (rshT cons terms t uc ut)=false)
 | .mk op n s con to k names l,uc,ut,hwf,huc,hfr=>by
  rw[wfT,Bool.and_eq_true] at hwf
  obtain ⟨hn,hwl⟩:=hwf
  obtain ⟨c1,c2,c3,c4⟩:=node_con hn
  rw[consF] at hfr
  have hL:=shL_eq cons terms hc1 hc2 op l 0 uc ut hwl huc (fun e=>by subst e;have:=node_parts9 hn;omega) (fun i hi=>hfr i (List.mem_append_right _ (List.mem_append_right _ hi)))
  rw[chT,rshT]
  by_cases h1:op=1
  ·obtain ⟨rfl,rfl,rfl,rfl,rfl,e6,_⟩:=node_op1 hn h1
   have:=List.eq_nil_of_length_eq_zero e6
   subst this h1
   rw[if_pos rfl,shVf,zero_csh,rshL]
   refine ⟨fun _=>?_,fun h=>absurd rfl h⟩
   rw[varT]
   by_cases h2:n≥ut
   ·rw[if_pos h2,if_pos ⟨rfl,h2⟩]
   ·rw[if_neg h2,if_neg (fun e=>h2 e.2)]
  ·have hn1:¬(op=1∧n≥ut):=fun e=>h1 e.1
   rw[if_neg h1,if_neg hn1]
   have hcon:hasConF op=true→shCf cons con uc ut=if validF (rShiftF con cons uc)=true then (rShiftF con cons uc,0) else (zeroC,6):=fun e=>by
    rw[e] at hfr
    exact shift_ok (c1 e) huc hc1 hc2 fun i hi=>hfr i (List.mem_append_left _ (by simpa using hi))
   have hto:op=8→shCf cons to uc ut=if validF (rShiftF to cons uc)=true then (rShiftF to cons uc,0) else (zeroC,6):=fun e=>by
    subst e
    exact shift_ok (c3 rfl) huc hc1 hc2 fun i hi=>hfr i (List.mem_append_right _ (List.mem_append_left _ (by simpa using hi)))
   have hcv:hasConF op=true→cshR con cons uc=rShiftF con cons uc:=fun e=>by rw[cshR,if_neg (by rw[valid_notzero (c1 e)];decide)]
   have htv:op=8→cshR to cons uc=rShiftF to cons uc:=fun e=>by rw[cshR,if_neg (by rw[valid_notzero (c3 e)];decide)]
   have hcz:hasConF op=false→cshR con cons uc=zeroC:=fun e=>by rw[c2 e,zero_csh]
   have htz:op≠8→cshR to cons uc=zeroC:=fun e=>by rw[c4 e,zero_csh]
   have hlen:(rshL cons terms op l 0 uc ut).length=l.length:=by
    have:∀(l:List TermT) (i:Nat),(rshL cons terms op l i uc ut).length=l.length:=by
     intro l
     induction l with
     |nil=>intro i;rw[rshL]
     |cons x r ih=>intro i;rw[rshL,List.length_cons,ih,List.length_cons]
    exact this l 0
   have bad:∀{P:Prop},(fitsC (cshR con cons uc) (hasConF op)=false∨fitsC (cshR to cons uc) (op==8)=false)→P→P∧wfT (.mk op n s (cshR con cons uc) (cshR to cons uc) k names (rshL cons terms op l 0 uc ut))=false:=by
    intro P h hp
    refine ⟨hp,?_⟩
    rw[wfT,hlen,node_swap hn h,Bool.false_and]
   by_cases e1:hasConF op=true∧(shCf cons con uc ut).2≠0
   ·rw[if_pos e1]
    refine ⟨fun h=>absurd h e1.2,fun _=>?_⟩
    refine (bad (P:=True) (.inl ?_) trivial).2
    rw[hcv e1.1,e1.1,fitsC,if_pos rfl]
    cases hv:validF (rShiftF con cons uc) with
    |false=>rfl
    |true=>exact absurd (by rw[hcon e1.1,if_pos hv]) e1.2
   ·rw[if_neg e1]
    by_cases e2:op=8∧(shCf cons to uc ut).2≠0
    ·rw[if_pos e2]
     refine ⟨fun h=>absurd h e2.2,fun _=>?_⟩
     refine (bad (P:=True) (.inr ?_) trivial).2
     have h8:(op==8)=true:=by simp[e2.1]
     rw[htv e2.1,h8,fitsC,if_pos rfl]
     cases hv:validF (rShiftF to cons uc) with
     |false=>rfl
     |true=>exact absurd (by rw[hto e2.1,if_pos hv]) e2.2
    ·rw[if_neg e2]
     by_cases e3:(chL (shCf cons) (shVf terms) op l 0 uc ut).2≠0
     ·rw[if_pos e3]
      refine ⟨fun h=>absurd h e3,fun _=>?_⟩
      rw[wfT,hL.2 e3,Bool.and_false]
     ·rw[if_neg e3]
      refine ⟨fun _=>?_,fun h=>absurd rfl h⟩
      have e3':(chL (shCf cons) (shVf terms) op l 0 uc ut).2=0:=by simpa using e3
      have ha:(if hasConF op=true then (shCf cons con uc ut).1 else zeroC)=cshR con cons uc:=by
       by_cases hh:hasConF op=true
       ·rw[if_pos hh,hcv hh]
        have:(shCf cons con uc ut).2=0:=by
         cases Int.decEq (shCf cons con uc ut).2 0 with
         |isTrue h=>exact h
         |isFalse h=>exact absurd ⟨hh,h⟩ e1
        rw[hcon hh] at this ⊢
        split
        ·rfl
        ·rename_i hv;rw[if_neg hv] at this;cases this
       ·rw[if_neg hh,hcz (by simpa using hh)]
      have hb:(if op=8 then (shCf cons to uc ut).1 else zeroC)=cshR to cons uc:=by
       by_cases hh:op=8
       ·rw[if_pos hh,htv hh]
        have:(shCf cons to uc ut).2=0:=by
         cases Int.decEq (shCf cons to uc ut).2 0 with
         |isTrue h=>exact h
         |isFalse h=>exact absurd ⟨hh,h⟩ e2
        rw[hto hh] at this ⊢
        split
        ·rfl
        ·rename_i hv;rw[if_neg hv] at this;cases this
       ·rw[if_neg hh,htz hh]
      rw[hL.1 e3',ha,hb]
theorem shL_eq (cons terms:Int) (hc1:-20000≤cons) (hc2:cons≤20000) (op:Int):∀(l:List TermT) (i:Nat) (uc ut:Int),wfL l=true→0≤uc→(op=9→i+l.length≤2)→(∀j∈consL op l i uc,j+cons≥0) →
  ((chL (shCf cons) (shVf terms) op l i uc ut).2=0→(chL (shCf cons) (shVf terms) op l i uc ut).1=rshL cons terms op l i uc ut)∧((chL (shCf cons) (shVf terms) op l i uc ut).2≠0→wfL (rshL cons terms op l i uc ut)=false)
 | [],i,uc,ut,hwf,huc,hi,hfr=>by
  rw[chL,rshL]
  exact ⟨fun _=>rfl,fun h=>absurd rfl h⟩
 |x::r,i,uc,ut,hwf,huc,hi,hfr=>by
  rw[wfL,Bool.and_eq_true] at hwf
  rw[consL] at hfr
  have hi0:op=9→i≤1:=fun e=>by have:=hi e;rw[List.length_cons] at this;omega
  have huc':0≤uc+insC op i:=by rw[insC];(repeat' split)<;>omega
  have hX:=sh_eq cons terms hc1 hc2 x (uc+insC op i) (ut+insT op i) hwf.1 huc' fun j hj=>hfr j (List.mem_append_left _ hj)
  have hR:=shL_eq cons terms hc1 hc2 op r (i+1) uc ut hwf.2 huc (fun e=>by have:=hi e;rw[List.length_cons] at this;omega) fun j hj=>hfr j (List.mem_append_right _ hj)
  rw[chL,rshL,wfL,←ins_cons hi0,←ins_terms hi0]
  by_cases e1:(chT (shCf cons) (shVf terms) x (uc+insC op i) (ut+insT op i)).2≠0
  ·rw[if_pos e1,hX.2 e1,Bool.false_and]
   exact ⟨fun h=>absurd h e1,fun _=>rfl⟩
  ·rw[if_neg e1]
   have e1':(chT (shCf cons) (shVf terms) x (uc+insC op i) (ut+insT op i)).2=0:=by simpa using e1
   by_cases e2:(chL (shCf cons) (shVf terms) op r (i+1) uc ut).2≠0
   ·rw[if_pos e2,hR.2 e2,Bool.and_false]
    exact ⟨fun h=>absurd h e2,fun _=>rfl⟩
   ·rw[if_neg e2]
    have e2':(chL (shCf cons) (shVf terms) op r (i+1) uc ut).2=0:=by simpa using e2
    rw[hX.1 e1',hR.1 e2']
    exact ⟨fun _=>rfl,fun h=>absurd rfl h⟩
end
end Go.Abs.Kon
namespace Go.Abs.Kon
open Go Go.Proofs Go.Abs
set_option maxRecDepth 100000
set_option maxHeartbeats 4000000
def addL (n:Int):List Int→Bool→List Int
 | [],done=>if done=true then [] else [n]
 |x::r,done=>(if done=false∧x≥n then [n] else [])++((if x≠n then [x] else [])++addL n r (done||decide (x≥n)))
theorem addL_done (n:Int):∀l:List Int,(∀x∈l,x>n)→addL n l true=l
 | [],_=>by rw[addL,if_pos rfl]
 |x::r,h=>by
  have hx:=h x (by simp)
  rw[addL,if_neg (fun e=>by cases e.1),if_pos (by omega),Bool.true_or,addL_done n r fun y hy=>h y (by simp[hy])]
  rfl
theorem addL_insU (n:Int):∀l:List Int,l.Pairwise (· < ·)→addL n l false=insU n l
 | [],_=>by rw[addL,insU,if_neg (by decide)]
 |x::r,h=>by
  have h0:=List.pairwise_cons.1 h
  rw[addL,insU]
  by_cases h1:n<x
  ·rw[if_pos h1,if_pos ⟨rfl,by omega⟩,if_pos (by omega),Bool.false_or,decide_eq_true (by omega:x≥n),addL_done n r fun y hy=>by have:=h0.1 y hy;omega]
   rfl
  ·rw[if_neg h1]
   by_cases h2:n=x
   ·subst h2
    rw[if_pos rfl,if_pos ⟨rfl,by omega⟩,if_neg (by simp),Bool.false_or,decide_eq_true (by omega:n≥n),addL_done n r fun y hy=>h0.1 y hy]
    rfl
   ·rw[if_neg h2,if_neg (by omega),if_pos (by omega),Bool.false_or,decide_eq_false (by omega:¬x≥n),addL_insU n r h0.2]
    rfl
def pickA (x:ConT×Int):Option Int:=if x.1.op=1∧x.1.n≥x.2 then some (x.1.n - x.2) else none
theorem pickA_mk (op n:Int) (s:ByteArray) (k:List KindT) (names:List ByteArray) (l:List ConT) (d:Int):pickA (.mk op n s k names l,d)=if op=1∧n≥d then some (n - d) else none:=rfl
def rfreeA (c:ConT) (d:Int):List Int:=(leaves c d).filterMap pickA
def rfreeAL (l:List ConT) (d:Int):List Int:=(leavesL l d).filterMap pickA
theorem rfreeA_0 (c:ConT):rfreeA c 0=freeL c:=rfl
abbrev insAll (l m:List Int):List Int:=m.foldl (fun acc x=>insU x acc) l
theorem rfreeAL_cons (x:ConT) (r:List ConT) (d:Int):rfreeAL (x::r) d=rfreeA x d++rfreeAL r d:=by rw[rfreeAL,leavesL,List.filterMap_append];rfl
theorem rfreeA_var {n:Int}{s:ByteArray}{k:List KindT}{names:List ByteArray}{l:List ConT}{d:Int}:rfreeA (.mk 1 n s k names l) d=if n≥d then [n - d] else []:=by
 rw[rfreeA,leaves,if_pos (.inl rfl)]
 rw[List.filterMap_cons,List.filterMap_nil,pickA_mk]
 by_cases h:n≥d
 ·have h':(1:Int)=1∧n≥d:=⟨rfl,h⟩
  rw[if_pos h',if_pos h]
 ·have h':¬((1:Int)=1∧n≥d):=fun e=>h e.2
  rw[if_neg h',if_neg h]
theorem rfreeA_node {op n:Int}{s:ByteArray}{k:List KindT}{names:List ByteArray}{l:List ConT}{d:Int}(h:formedF (.mk op n s k names l)=true) (h1:op≠1):rfreeA (.mk op n s k names l) d=rfreeAL l (deepF op d):=by
 by_cases h2:op=2
 ·have:=leaf_nil h (.inr h2)
  subst this
  rw[rfreeA,leaves,if_pos (.inr h2),rfreeAL,leavesL]
  have h':¬(op=1∧n≥d):=fun e=>h1 e.1
  rw[List.filterMap_cons,List.filterMap_nil,pickA_mk,if_neg h']
 ·rw[rfreeA,leaves,if_neg (by rintro (e|e);exact h1 e;exact h2 e),rfreeAL,deepF]
mutual
def consRF:TermT→Int→List Int
 | .mk op _ _ con to _ _ l,uc=>above (sortU (freeL con)) uc++(above (sortU (freeL to)) uc++consRL op l 0 uc)
def consRL (op:Int):List TermT→Nat→Int→List Int
 | [],_,_=>[]
 |x::r,i,uc=>consRF x (uc+consR op i)++consRL op r (i+1) uc
end
mutual
def termsRF:TermT→Int→List Int
 | .mk op n _ _ _ _ _ l,ut=>if op=1∧n≥ut then [n - ut] else termsRL op l 0 ut
def termsRL (op:Int):List TermT→Nat→Int→List Int
 | [],_,_=>[]
 |x::r,i,ut=>termsRF x (ut+termsR op i)++termsRL op r (i+1) ut
end
theorem freeL_zero:freeL zeroC=[]:=by decide +kernel
theorem above_nil (u:Int):above [] u=[]:=rfl
theorem sortU_nil:sortU []=[]:=rfl
mutual
theorem consRF_eq:∀(t:TermT) (uc:Int),wfT t=true→consRF t uc=consF t uc
 | .mk op n s con to k names l,uc,h=>by
  rw[wfT,Bool.and_eq_true] at h
  obtain ⟨hn,hl⟩:=h
  obtain ⟨c1,c2,c3,c4⟩:=node_con hn
  rw[consRF,consF,consRL_eq op l 0 uc hl (fun e=>by subst e;have:=node_parts9 hn;omega)]
  congr 1
  ·by_cases e:hasConF op=true
   ·rw[if_pos e,freeF,if_pos (c1 e)]
   ·rw[if_neg e,c2 (by simpa using e),freeL_zero,sortU_nil,above_nil]
  ·congr 1
   by_cases e:op=8
   ·rw[if_pos e,freeF,if_pos (c3 e)]
   ·rw[if_neg e,c4 e,freeL_zero,sortU_nil,above_nil]
theorem consRL_eq (op:Int):∀(l:List TermT) (i:Nat) (uc:Int),wfL l=true→(op=9→i+l.length≤2)→consRL op l i uc=consL op l i uc
 | [],i,uc,h,hi=>by rw[consRL,consL]
 |x::r,i,uc,h,hi=>by
  rw[wfL,Bool.and_eq_true] at h
  have hi0:op=9→i≤1:=fun e=>by have:=hi e;rw[List.length_cons] at this;omega
  rw[consRL,consL,ins_cons hi0,consRF_eq x _ h.1,consRL_eq op r (i+1) uc h.2 (fun e=>by have:=hi e;rw[List.length_cons] at this;omega)]
end
mutual
theorem termsRF_eq:∀(t:TermT) (ut:Int),wfT t=true→termsRF t ut=termsF t ut
 | .mk op n s con to k names l,ut,h=>by
  rw[wfT,Bool.and_eq_true] at h
  obtain ⟨hn,hl⟩:=h
  rw[termsRF,termsF]
  by_cases h1:op=1
  ·obtain ⟨_,_,_,_,_,e6,_⟩:=node_op1 hn h1
   have:=List.eq_nil_of_length_eq_zero e6
   subst this
   rw[if_pos h1,termsL,termsRL,List.append_nil,above]
   simp only[List.filterMap_cons,List.filterMap_nil]
   by_cases h2:n≥ut
   ·rw[if_pos ⟨h1,h2⟩,if_pos h2]
   ·rw[if_neg (fun e=>h2 e.2),if_neg h2]
  ·rw[if_neg (fun e=>h1 e.1),if_neg h1,List.nil_append,termsRL_eq op l 0 ut hl (fun e=>by subst e;have:=node_parts9 hn;omega)]
theorem termsRL_eq (op:Int):∀(l:List TermT) (i:Nat) (ut:Int),wfL l=true→(op=9→i+l.length≤2)→termsRL op l i ut=termsL op l i ut
 | [],i,ut,h,hi=>by rw[termsRL,termsL]
 |x::r,i,ut,h,hi=>by
  rw[wfL,Bool.and_eq_true] at h
  have hi0:op=9→i≤1:=fun e=>by have:=hi e;rw[List.length_cons] at this;omega
  rw[termsRL,termsL,ins_terms hi0,termsRF_eq x _ h.1,termsRL_eq op r (i+1) ut h.2 (fun e=>by have:=hi e;rw[List.length_cons] at this;omega)]
end
end Go.Abs.Kon
namespace Go.Abs.Kon
open Go Go.Proofs Go.Abs
open Go.Sort (putCells putRow grow)
set_option maxRecDepth 100000
set_option maxHeartbeats 4000000
abbrev ints (l:List Int):List PV:=l.map (PV.int .i64)
theorem rep_ints {I:Imm}:∀{zs:List Int}{vs:List Value},RepL I (ints zs) vs→vs=zs.map (Value.int .i64)
 | [],vs,h=>by rw[ints,List.map_nil,RepL] at h;simp[h]
 |z::zs,vs,h=>by
  rw[ints,List.map_cons,RepL] at h
  obtain ⟨v,rest,rfl,h2,h3⟩:=h
  rw[Rep] at h2
  rw[h2,rep_ints h3,List.map_cons]
theorem ints_rep {I:Imm}:∀zs:List Int,RepL I (ints zs) (zs.map (Value.int .i64))
 | []=>by rw[ints,List.map_nil,List.map_nil,RepL]
 |z::zs=>by
  rw[ints,List.map_cons,List.map_cons,RepL]
  exact ⟨_,_,rfl,by rw[Rep],ints_rep zs⟩
theorem flat_ints:∀zs:List Int,flatCells (zs.map (Value.int .i64))=zs.map (Value.int .i64)
 | []=>rfl
 |z::zs=>by
  have ih:=flat_ints zs
  simp only[flatCells,List.map_cons,List.flatMap_cons] at ih ⊢
  rw[ih]
  simp[Value.cells]
theorem holds_ints {w:World}{g:Nat}{cur:Array Value}{T:TypeId}{zs:List Int}(hb:w.heap[g]? = some (.cells cur T (0,0))) (h:∀(j:Nat) (v:Value),(zs.map (Value.int .i64))[j]? = some v→cur[j]? = some v) :
  Go.Sort.Holds (Value.int .i64) w g 0 zs.toArray:=by
 intro j hj
 have hj':j<zs.length:=by simpa using hj
 refine ⟨?_,by simp[World.frozen?,hb]⟩
 rw[Nat.zero_add,cell_row hb,h j (.int .i64 zs[j]) (by simp[hj'])]
 simp[hj']
theorem row_sorted {w:World}{g n:Nat}{os:Array Obj}{cur:Array Value}{T:TypeId}(d:Array Int) (hb:w.heap[g]? = some (.cells cur T (0,0))) :
  RowTo w (grow (putRow (Value.int .i64) (Go.Sort.ahead w n) g 0 d) os) g (putCells (Value.int .i64) 0 d cur) T:=by
 have hg:g<w.heap.size:=(Array.getElem?_eq_some_iff.1 hb).1
 refine ⟨?_,fun b hb' hne=>?_,?_,rfl,rfl,rfl⟩
 ·rw[Go.Sort.heap_grow_old _ _ (by simpa using hg)]
  simp[putRow,Go.Sort.mapBlock,Go.Sort.ahead,Array.getElem?_modify,hb,Go.Sort.onCells]
 ·rw[Go.Sort.heap_grow_old _ _ (by simpa using hb')]
  have:g≠b:=fun e=>hne e.symm
  simp[putRow,Go.Sort.mapBlock,Go.Sort.ahead,Array.getElem?_modify,this]
 ·simp
theorem put_cells {cur:Array Value}{zs:List Int}(h:zs.length≤cur.size):∀(j:Nat) (v:Value),(zs.map (Value.int .i64))[j]? = some v→(putCells (Value.int .i64) 0 zs.toArray cur)[j]? = some v:=by
 intro j v hj
 have hj':j<zs.length:=by
  rcases Nat.lt_or_ge j zs.length with h1|h1
  ·exact h1
  ·rw[List.getElem?_eq_none (by simpa using h1)] at hj;cases hj
 rw[←hj]
 simp[putCells,hj',show j<cur.size by omega]
theorem Sort_turn (zs:List Int) (hn:zs.length<4611686018427387904):Turn Tryz.prog 137 .one (ints zs) (fun t=>.ex t .one (ints (zs.mergeSort fun x y=>decide (x≤y)))) .any:=by
 refine turn_ex (by kernel_rfl) (by simp) (fun e he=>?_) fun I w g cap cur T vs h1 h2 h3 h4 h5 h6 h7=>?_
 ·obtain ⟨z,_,rfl⟩:=List.mem_map.1 he;rfl
 ·obtain rfl:=rep_ints h1
  rw[flat_ints] at h7
  rw[ints,List.length_map] at h3 ⊢
  have hg:g<w.heap.size:=(Array.getElem?_eq_some_iff.1 h5).1
  refine (show Calls Tryz.prog 137 _ _ _ from Any.slices_Sort_int Tryz.laysSort g 0 cap zs w (holds_ints h5 h7) hg hn).mono ?_
  rintro e w' ⟨rfl,n,os,rfl⟩
  refine ⟨_,(zs.mergeSort fun x y=>decide (x≤y)).map (Value.int .i64),_,rfl,row_sorted _ h5,by simp[putCells],ints_rep _,fun x hx=>?_,?_⟩
  ·obtain ⟨z,_,rfl⟩:=List.mem_map.1 hx;rfl
  ·rw[flat_ints]
   exact put_cells (by have:cur.size=cap*1:=h6;simp;omega)
theorem compact_length (zs:List Int):(Lib.compact zs).length≤zs.length:=by
 unfold Lib.compact Lib.compactUpTo
 rw[List.length_map]
 refine Nat.le_trans (List.length_filter_le _ _) ?_
 simp
theorem Compact_turn (zs:List Int) (hn:zs.length≤9223372036854775807):Turn Tryz.prog 138 .one (ints zs) (fun _=>.any) (.pv (.slice (ints (Lib.compact zs)))):=by
 have hl:=compact_length zs
 refine turn_imm (by kernel_rfl) (by simpa using hl) fun I w g cap cur T vs h1 h2 h3 h4 h5 h6 h7=>?_
 obtain rfl:=rep_ints h1
 rw[flat_ints] at h7
 rw[ints,List.length_map] at h3 ⊢
 refine (show Calls Tryz.prog 138 _ _ _ from Any.slices_Compact_int Tryz.laysComp g 0 cap zs w (holds_ints h5 h7) hn h3).mono ?_
 rintro e w' ⟨rfl,n,rfl⟩
 have hcs:cur.size=cap*1:=h6
 have hR:=row_sorted (n:=n) (os:=#[]) (Lib.compact zs++List.replicate (zs.length - (Lib.compact zs).length) 0).toArray h5
 rw[Go.Sort.grow_empty] at hR
 refine ⟨(Lib.compact zs).map (Value.int .i64),_,by rw[ints,List.length_map],hR,by simp[putCells],ints_rep _,fun x hx=>?_,?_⟩
 ·obtain ⟨z,_,rfl⟩:=List.mem_map.1 hx;rfl
 ·rw[flat_ints]
  intro j v hj
  refine put_cells (zs:=Lib.compact zs++List.replicate (zs.length - (Lib.compact zs).length) 0) (by simp;omega) j v ?_
  have hj':j<(Lib.compact zs).length:=by
   rcases Nat.lt_or_ge j (Lib.compact zs).length with h1|h1
   ·exact h1
   ·rw[List.getElem?_eq_none (by simpa using h1)] at hj;cases hj
  rw[List.map_append,List.getElem?_append_left (by simpa using hj')]
  exact hj
/-! Nothing to sort -/
theorem Len64_0:Spec Tryz.prog 213 [pp (.int .u64 0)] [] (.int .i64 (Lib.bitLen 0)) []:=by
 refine Spec.of_below (by kernel_rfl) fun G w vs hW hr=>?_
 simp only[RepSVs,pp,RepSV,RepSC,Rep] at hr
 obtain ⟨v,rest,h1,rfl,h3⟩:=hr
 subst h3
 obtain rfl:=Array.toList_inj.1 (show vs.toList=(#[Value.int .u64 0]:Array Value).toList from h1)
 refine (Tryz.bits_Len64 0 w (by decide) (by decide)).mono ?_
 rintro e w' ⟨rfl,rfl⟩
 exact ⟨_,rfl,rfl,RowKit.Below.refl _ _⟩
theorem Len_0:Spec Tryz.prog 177 [pp (.int .u64 0)] [] (.int .i64 (Lib.bitLen 0)) []:=by
 have hI:=Len64_0
 refine wk (rv:=[.tmp 2]) ann177 8 Tryz.func177 ?_
 simp only[go_sem]
 refine aCall_intro hI ?_
 simp only[go_sem]
theorem insertion_0:Spec Tryz.prog 203 [pp (.slice []),ii 0,ii 0] [] (.tuple []) []:=by
 refine wk (rv:=[]) ann203 49 Tryz.func203 ?_
 have w1:IntKind.i64.wrap (0+1)=1:=by decide
 have t1:decide ((1:Int)<0)=false:=rfl
 simp only[go_sem,w1]
 refine ⟨1,?_⟩
 rw[aLoop_succ]
 simp only[go_sem,t1]
theorem pdq_0 (n:Int):Spec Tryz.prog 176 [pp (.slice []),ii 0,ii 0,ii n] [] (.tuple []) []:=by
 have hI:=insertion_0
 refine wk (rv:=[]) ann176 134 Tryz.func176 ?_
 have w1:IntKind.i64.wrap (0 - 0)=0:=by decide
 simp only[go_sem,w1]
 refine ⟨1,?_⟩
 rw[aLoop_succ]
 simp only[go_sem,w1]
 refine aCall_intro hI ?_
 simp only[go_sem]
theorem Sort_0:Spec Tryz.prog 137 [pp (.slice [])] [] (.tuple []) []:=by
 have hI:=Len_0
 have hP:=pdq_0 (Lib.bitLen 0)
 refine wk (rv:=[]) ann137 11 Tryz.func137 ?_
 have n1:((0:Nat):Int)=0:=rfl
 have w1:IntKind.u64.wrap 0=0:=by decide
 simp only[go_sem,n1,w1,List.length_nil]
 refine aCall_intro hI ?_
 simp only[go_sem,n1,List.length_nil]
 refine aCall_intro hP ?_
 simp only[go_sem]
theorem Compact_0:Spec Tryz.prog 138 [pp (.slice [])] [] (.slice []) []:=by
 refine wk (rv:=[.tmp 2]) ann138 61 Tryz.func138 ?_
 have n1:((0:Nat):Int)=0:=rfl
 have t1:decide ((0:Int)<2)=true:=rfl
 simp only[go_sem,n1,t1,List.length_nil]
/-! Free variables are collected -/
def annFree1:Ann:=⟨[3],[1000020],[(2,[]),(1,[2,1,3,13]),(0,[2,1,3])],[]⟩
@[go_sem] theorem annFree1_imm:annFree1.imm=[3]:=rfl
@[go_sem] theorem annFree1_frz:annFree1.frz=[1000020]:=rfl
@[go_sem] theorem annFree1_live:annFree1.live=[(2,[]),(1,[2,1,3,13]),(0,[2,1,3])]:=rfl
@[go_sem] theorem annFree1_head:annFree1.head=[]:=rfl
def freeB (t:Nat):List Int→Box
 | []=>⟨.one,.one .nilS⟩
 |x::r=>exB t .one (ints (x::r))
theorem Free1_spec0 (op n:Int) (s:ByteArray) (k:List KindT) (names:List ByteArray) (cl:List ConT) (b:Int) (l:List Int) (h1:0≤n) (h2:n≤20000) (h3:0≤b) (h4:b≤100000000) (h5:l.length≤1000000000) :
  Spec Tryz.prog 136 [pp (encC (.mk op n s k names cl)),ii b,.one (.ptr (.ref 0) 0)] [freeB 0 l] (.tuple []) [freeB (if op=1∧n≥b then 40 else 0) (l++(if op=1∧n≥b then [n - b] else []))]:=by
 have w1:IntKind.i64.wrap (n - b)=n - b:=wrap_id (by omega) (by omega)
 have hbytes:(l.length+1)*8≤140737488355328:=by omega
 have hmx:l.length+1≤maxLen:=by rw[maxLen_eq];omega
 by_cases hc:op=1∧n≥b
 ·obtain ⟨rfl,hc⟩:=hc
  rw[if_pos ⟨rfl,hc⟩,if_pos ⟨rfl,hc⟩]
  cases l with
  |nil=>
   refine wk (rv:=[]) annFree1 21 Tryz.func136 ?_
   simp only[go_sem,encC_mk,freeB,w1,decide_eq_true hc,one_le_maxLen,List.nil_append,ints,List.map_cons,List.map_nil,exB]
  |cons x r=>
   refine wk (rv:=[]) annFree1 21 Tryz.func136 ?_
   simp only[List.length_cons] at hbytes hmx
   simp only[go_sem,encC_mk,freeB,w1,decide_eq_true hc,List.cons_append,ints,List.map_cons,List.map_append,List.map_nil,exB,List.length_map,hbytes,hmx]
 ·rw[if_neg hc,if_neg hc,List.append_nil]
  cases l with
  |nil=>
   refine wk (rv:=[]) annFree1 21 Tryz.func136 ?_
   simp only[go_sem,encC_mk,freeB]
   refine guardK_intro (fun hb=>?_) (fun hb=>?_)
   ·have e1:op=1:=eq_of_beq hb
    simp only[go_sem,decide_eq_false (fun e=>hc ⟨e1,e⟩)]
   ·simp only[go_sem]
  |cons x r=>
   refine wk (rv:=[]) annFree1 21 Tryz.func136 ?_
   simp only[go_sem,encC_mk,freeB,exB]
   refine guardK_intro (fun hb=>?_) (fun hb=>?_)
   ·have e1:op=1:=eq_of_beq hb
    simp only[go_sem,decide_eq_false (fun e=>hc ⟨e1,e⟩)]
   ·simp only[go_sem]
theorem freeB_in {f:FuncId}{args:List SV}{r:PV}{refs':List Box}(t:Nat) {l:List Int}(ha:args.flatMap svToks=[]) (h:Spec Tryz.prog f args [freeB 0 l] r refs'):Spec Tryz.prog f args [freeB t l] r refs':=by
 cases l with
 |nil=>exact h
 |cons x r=>exact Spec.in_ex t (by decide) ha h
theorem freeB_out {f:FuncId}{args:List SV}{r:PV}{refs:List Box}(t t':Nat) {l:List Int}(h:Spec Tryz.prog f args refs r [freeB t l]):Spec Tryz.prog f args refs r [freeB t' l]:=by
 cases l with
 |nil=>exact h
 |cons x r=>exact Spec.out_ex t' h
theorem pick_list (op n:Int) (s:ByteArray) (k:List KindT) (names:List ByteArray) (cl:List ConT) (b:Int) (ho:op=1∨op=2):rfreeA (.mk op n s k names cl) b=if op=1∧n≥b then [n - b] else []:=by
 rw[rfreeA,leaves,if_pos ho]
 rw[List.filterMap_cons,List.filterMap_nil,pickA_mk]
 by_cases h:op=1∧n≥b
 ·rw[if_pos h,if_pos h]
 ·rw[if_neg h,if_neg h]
theorem rfreeAL_len (l:List ConT) (b:Int):(rfreeAL l b).length≤wtL l:=by
 rw[rfreeAL]
 refine Nat.le_trans (List.length_filterMap_le _ _) ?_
 have h1:(∀c:ConT,∀b,(leaves c b).length≤wtF c):=by
  refine ConT.ind1 fun op n s k names l ih b=>?_
  have h2:∀(l':List ConT),(∀x∈l',∀b,(leaves x b).length≤wtF x)→∀b,(leavesL l' b).length≤wtL l':=by
   intro l'
   induction l' with
   |nil=>intro _ b;rw[leavesL];simp
   |cons x r ihr=>
    intro h b
    rw[leavesL,wtL,List.length_append]
    have:=h x (by simp) b
    have:=ihr (fun y hy=>h y (by simp[hy])) b
    omega
  rw[leaves,wtF]
  split
  ·rw[List.length_singleton];omega
  ·have:=h2 l ih (if isBinder op then b+1 else b)
   omega
 induction l with
 |nil=>rw[leavesL];simp
 |cons x r ih=>
  rw[leavesL,wtL,List.length_append]
  have:=h1 x b
  omega
theorem rfreeA_len (c:ConT) (b:Int) (h:formedF c=true):(rfreeA c b).length≤wtF c:=by
 obtain ⟨op,n,s,k,names,l⟩:=c
 by_cases h1:op=1∨op=2
 ·rw[pick_list op n s k names l b h1,wtF]
  split<;>simp
  omega
 ·rw[rfreeA_node h (fun e=>h1 (.inl e)),wtF]
  have:=rfreeAL_len l (deepF op b)
  omega
theorem each_free (c:ConT):∀(binders:Int) (l:List Int),0≤binders→binders+depthF c≤100000000→formedF c=true→l.length+wtF c≤1000000000 →
   Spec Tryz.prog 106 [pp (encC c),ii binders,.one (.fn 136 [.ptr (.ref 0) 0])] [freeB 0 l] (.tuple []) [freeB 0 (l++rfreeA c binders)]:=by
 revert c
 refine ConT.ind1 fun op n s k names cl ih=>?_
 intro binders l h1 h2 h3 h4
 have hB:=binder_spec (.mk op n s k names cl)
 have hn:=formed_n h3
 replace hn:0≤n∧n≤20000:=hn
 simp only[ConT.op] at hB
 rw[encC_mk] at hB
 rw[depthF] at h2
 rw[wtF] at h4
 have w2:IntKind.i64.wrap (binders+1)=binders+1:=wrap_id (by omega) (by omega)
 by_cases ho:op=1∨op=2
 · have hl:=leaf_nil h3 ho
   subst hl
   have e2:isBinder op=false:=by simp[isBinder];omega
   have hS:=Free1_spec0 op n s k names [] binders l hn.1 hn.2 h1 (by omega) (by omega)
   rw[pick_list op n s k names [] binders ho]
   replace hS:=freeB_out _ 0 hS
   generalize l++(if op=1∧n≥binders then [n - binders] else [])=l2 at hS ⊢
   refine freeB_out 38 0 ?_
   rw[e2] at hB
   rw[encC_mk] at hS
   have h12:(op==1)=true∨((op==1)=false∧(op==2)=true):=by
     rcases ho with h|h<;>simp[h]
   cases l<;>cases l2<;>(
     simp only[freeB,exB] at hS ⊢
     refine wf (rv:=[]) ann106 36 Tryz.func106 fun hfit=>?_
     clear hfit ih
     simp only[go_sem,encC_mk]
     rcases h12 with h12|⟨h12,h13⟩
     all_goals
       simp only[go_sem,h12]
       try simp only[go_sem,h13]
       refine aCall_intro hS ?_
       simp only[go_sem]
       refine aCall_intro hB ?_
       simp only[go_sem]
       refine ⟨1,?_⟩
       rw[aLoop_succ]
       simp only[go_sem,List.map_nil,List.length_nil,Int.natCast_zero,lt_false (Int.le_refl _)])
 · have hfm:formedL cl=true:=by rw[formedF,Bool.and_eq_true] at h3;exact h3.2
   rw[formedL_all] at hfm
   have e1:(op==1)=false:=by simp;omega
   have e3:(op==2)=false:=by simp;omega
   rw[rfreeA_node h3 (fun e=>ho (.inl e))]
   obtain ⟨bb,hbb⟩:∃bb,deepF op binders=bb:=⟨_,rfl⟩
   have hbb0:0≤bb:=by rw[←hbb,deepF];split<;>omega
   have hbb1:bb+depthL cl≤100000000:=by rw[←hbb,deepF];split<;>omega
   rw[deepF] at hbb
   rw[show deepF op binders=bb from by rw[deepF];exact hbb]
   have hlen:l.length+wtL cl≤1000000000:=by omega
   have hwl:=wtL_len cl
   cases hcl:cl with
   |nil=>
     subst hcl
     rw[show rfreeAL [] bb=[] from by rw[rfreeAL,leavesL];rfl,List.append_nil]
     cases l<;>(
       simp only[freeB,exB]
       refine wk (rv:=[]) ann106 36 Tryz.func106 ?_
       simp only[go_sem,encC_mk,e1,e3]
       refine aCall_intro hB ?_
       simp only[go_sem]
       refine condK_intro (fun hc=>?_) (fun hc=>?_)
       all_goals
         simp only[go_sem,List.length_map]
         refine ⟨1,?_⟩
         rw[aLoop_succ]
         simp only[go_sem,List.map_nil,List.length_nil,Int.natCast_zero,lt_false (Int.le_refl _)])
   |cons c0 cl0=>
     rw[←hcl]
     have hne:cl≠[]:=by rw[hcl];simp
     clear hcl
     generalize hres:l++rfreeAL cl bb=res
     refine freeB_out 68 0 ?_
     have hstart:∃b0,b0=freeB 0 l:=⟨_,rfl⟩
     obtain ⟨b0,hb0⟩:=hstart
     have hb0':(∃x r,l=x::r∧b0=⟨.one,.one (.ex 0 .one (ints (x::r)))⟩)∨(l=[]∧b0=⟨.one,.one .nilS⟩):=by
       cases l with
       |nil=>exact .inr ⟨rfl,hb0⟩
       |cons x r=>exact .inl ⟨x,r,rfl,hb0⟩
     rw[←hb0]
     have step:∀(x:ConT),x∈cl→∀cur:List Int,cur.length+wtF x≤1000000000→Spec Tryz.prog 106 [pp (encC x),ii bb,.one (.fn 136 [.ptr (.ref 0) 0])] [freeB 0 cur] (.tuple []) [freeB 0 (cur++rfreeA x bb)]:=by
       intro x hx cur hcur
       exact ih x hx bb cur hbb0 (by have:=depthF_mem hx;omega) (List.all_eq_true.1 hfm x hx) hcur
     rcases hb0' with ⟨x0,r0,hl,hb0'⟩|⟨hl,hb0'⟩
     all_goals
       rw[hb0']
       refine Spec.walk (rv:=[]) ann106 36 Tryz.func106 mixed rfl rfl (by kernel_rfl) rfl (by cases res<;>rfl) fun hfit=>?_
       clear hfit
       simp only[go_sem,encC_mk,e1,e3]
       refine aCall_intro hB ?_
       simp only[go_sem]
       refine condK_intro (fun hc=>?_) (fun hc=>?_)
       all_goals
         first
           | (have e:IntKind.i64.wrap (binders+1)=bb:=by rw[w2,←hbb,hc];rfl
              simp only[go_sem,e,List.length_map])
           | (have e:binders=bb:=by rw[←hbb,hc];rfl
              simp only[go_sem,e,List.length_map])
         refine aLoop_list (α:=ConT) (β:=Nat×Bool×List Int) (fun rest b=>⟨[(27,ii b.1),(2,.one (.fn 136 [.ptr (.ref 0) 0])),(1,ii bb),(25,pp (.slice (cl.map encC))),(26,ii cl.length)],[(.ref 0,freeB (if b.2.1=true then 68 else 0) b.2.2)],[]⟩)
           (fun rest b=>∃pre,cl=pre++rest∧b.1=pre.length∧b.2.2.length+wtL rest≤1000000000∧(rest=[]→b.2.1=true)∧b.2.2++rfreeAL rest bb=res) ?_ ?_ cl (0,false,l) _ ?_ ⟨[],rfl,rfl,hlen,fun e=>absurd e hne,hres⟩
         · rintro ⟨m,st,cur⟩ ⟨pre,g1,g2,g3,g4,g5⟩ K
           simp only[List.append_nil] at g1 g2 g4 g5
           have g4:=g4 trivial
           subst g1 g4
           rw[show rfreeAL [] bb=[] from by rw[rfreeAL,leavesL];rfl,List.append_nil] at g5
           subst g5
           cases cur<;>simp only[go_sem,g2,lt_false (Int.le_refl _),freeB,exB]
         · rintro x rest ⟨m,st,cur⟩ ⟨pre,g1,g2,g3,g4,g5⟩ K hK
           simp only at g2 g3 g4 g5
           have hx:(cl.map encC)[m]? = some (encC x):=by simp[g1,g2]
           have hlt:(m:Int)<cl.length:=by rw[g1,g2];simp;omega
           have hll:m<cl.length:=by rw[g1,g2];simp
           have hm:x∈cl:=by simp[g1]
           rw[wtL] at g3
           have hI:=step x hm cur (by omega)
           have hln:=rfreeA_len x bb (List.all_eq_true.1 hfm x hm)
           have w4:IntKind.i64.wrap ((m:Int)+1)=((m+1:Nat):Int):=by rw[wrap_id (by omega) (by omega)];simp
           rw[rfreeAL_cons,←List.append_assoc] at g5
           have hK':=fun s' hs=>hK (m+1,true,cur++rfreeA x bb) s' hs ⟨pre++[x],by simp[g1],by simp[g2],by simp only[List.length_append];omega,fun _=>rfl,g5⟩
           clear hK g5
           replace hI:=freeB_in (if st=true then 68 else 0) rfl hI
           generalize cur++rfreeA x bb=cur2 at hI hK'
           cases st<;>cases cur<;>cases cur2<;>(
             simp only[freeB,exB,Bool.false_eq_true,if_true,if_false,ints,List.map_cons] at hI hK' ⊢
             simp only[go_sem,decide_eq_true hlt,Int.toNat_natCast,Int.natCast_nonneg,hx,encC_sz]
             refine aCall_intro hI ?_
             simp only[go_sem,encC_sz,w4]
             refine hK' _ ?_
             simp only[go_sem])
         · first
             | (subst hl;simp only[go_sem,Int.natCast_zero,freeB,exB,Bool.false_eq_true,if_false])
/-! tycon.Free -/
def annFree:Ann:=⟨[1],[2000005,2000006],[(6,[2,3]),(5,[4]),(4,[4]),(3,[4,1]),(2,[2,3]),(1,[1,7]),(0,[1])],[]⟩
@[go_sem] theorem annFree_imm:annFree.imm=[1]:=rfl
@[go_sem] theorem annFree_frz:annFree.frz=[2000005,2000006]:=rfl
@[go_sem] theorem annFree_live:annFree.live=[(6,[2,3]),(5,[4]),(4,[4]),(3,[4,1]),(2,[2,3]),(1,[1,7]),(0,[1])]:=rfl
@[go_sem] theorem annFree_head:annFree.head=[]:=rfl
theorem tFree_spec (c:ConT) (h1:wtF c≤900000000) (h2:okS c):Spec Tryz.prog 98 [pp (encC c)] [] (.tuple [.slice (ints (freeF c)),.int .i64 (if validF c=true then 0 else 1)]) []:=by
 have hsc:=sizeF_wt c
 have hd:=depthF_le c
 have hV:=Valid_spec c (by omega) h2
 rw[freeF]
 cases hv:validF c with
 |false=>
  rw[hv] at hV
  refine wk (rv:=[.tmp 2,.tmp 3]) annFree 15 Tryz.func98 ?_
  simp only[go_sem,encC_sz]
  refine aCall_intro hV ?_
  simp only[go_sem,ints,List.map_nil]
 |true=>
  have hf:=validF_formed hv
  have hd:=(valid_dw hv).1
  have hE:=each_free c 0 [] (by decide) (by omega) hf (by simp;omega)
  rw[hv] at hV
  rw[List.nil_append,rfreeA_0] at hE
  have hl:(freeL c).length≤1000000000:=by rw[←rfreeA_0];have:=rfreeA_len c 0 hf;omega
  rw[if_pos rfl,if_pos rfl,←compact_sortU]
  generalize freeL c=l at hE hl ⊢
  have hS:=Sort_turn l (by omega)
  have hC:=Compact_turn (l.mergeSort fun x y=>decide (x≤y)) (by simp;omega)
  cases l with
  |nil=>
   simp only[freeB] at hE
   refine wk (rv:=[.tmp 2,.tmp 3]) annFree 15 Tryz.func98 ?_
   simp only[go_sem,encC_sz]
   refine aCall_intro hV ?_
   simp only[go_sem,encC_sz]
   refine aCall_intro hE ?_
   simp only[go_sem]
   refine aFlipOr_ops ?_
   simp only[go_sem]
   refine aCall_intro Sort_0 ?_
   simp only[go_sem]
   refine aFlipOr_ops ?_
   simp only[go_sem]
   refine aCall_intro Compact_0 ?_
   simp only[go_sem]
   rw[show Lib.compact (List.mergeSort [] fun x y:Int=>decide (x≤y))=[] from by rw[compact_sortU];rfl]
   simp only[ints,List.map_nil]
  |cons x r=>
   have hne:∃y q,(List.mergeSort (x::r) fun x y=>decide (x≤y))=y::q:=by
    cases hq:(List.mergeSort (x::r) fun x y=>decide (x≤y)) with
    |nil=>have:=congrArg List.length hq;simp at this
    |cons y q=>exact ⟨y,q,rfl⟩
   generalize (List.mergeSort (x::r) fun x y=>decide (x≤y))=so at hS hC hne
   simp only[freeB,exB] at hE
   refine wk (rv:=[.tmp 2,.tmp 3]) annFree 15 Tryz.func98 ?_
   simp only[go_sem,encC_sz]
   refine aCall_intro hV ?_
   simp only[go_sem,encC_sz]
   refine aCall_intro hE ?_
   simp only[go_sem]
   refine aFlipOr_load rfl ⟨rfl,rfl,rfl⟩ ⟨rfl,rfl,rfl⟩ (by simp only[go_sem]) rfl rfl hS ?_
   simp only[go_sem,AS.flip,flipT,flipB,flipSV,flipSC]
   refine aFlipOr_load rfl ⟨rfl,rfl,rfl⟩ ⟨rfl,rfl,rfl⟩ (by simp only[go_sem]) rfl rfl hC ?_
   simp only[go_sem,AS.flip,flipT,flipB,flipSV,flipSC]
end Go.Abs.Kon