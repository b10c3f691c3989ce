/- Terms. -/
import Derived.Test.YtafhcphggdipaaaGreatDoorTermC
import Derived.Test.YtafhcphggdipaaaGreatDoorKonG
import Derived.Test.YtafhcphggdipaaaGreatDoorKonH
set_option linter.unusedSimpArgs false
set_option linter.unusedVariables false
namespace Go.Abs.Kon
open Go Go.Proofs Go.Abs
set_option maxRecDepth 100000
set_option maxHeartbeats 4000000
def ccell:Bool→ConT→List SC
 |true,c=>[.pv (.int .i64 c.op),.pv (.int .i64 c.n),.pv (.str c.s),.pv (.slice (c.k.map encK)),.pv (.slice (c.names.map .str)),.pv (.slice (c.l.map encC))]
 |false,_=>[.pv (.int .i64 0),.pv (.int .i64 0),.pv (.str ByteArray.empty),.nilS,.nilS,.nilS]
theorem ccell_t (c:ConT):ccell true c=[.pv (.int .i64 c.op),.pv (.int .i64 c.n),.pv (.str c.s),.pv (.slice (c.k.map encK)),.pv (.slice (c.names.map .str)),.pv (.slice (c.l.map encC))]:=rfl
theorem ccell_f (c:ConT):ccell false c=[.pv (.int .i64 0),.pv (.int .i64 0),.pv (.str ByteArray.empty),.nilS,.nilS,.nilS]:=rfl
theorem encT_zero:encT zeroT=.agg [.int .i64 0,.int .i64 0,.str ByteArray.empty,.int .i64 0,.int .i64 0,.str ByteArray.empty,.slice [],.slice [],.slice [],.int .i64 0,.int .i64 0,.str ByteArray.empty,.slice [],.slice [],.slice [],.slice [],.slice [],.slice []]:=rfl
def zboxT:Box:=⟨.agg 18,.agg [.pv (.int .i64 0),.pv (.int .i64 0),.pv (.str ByteArray.empty),.pv (.int .i64 0),.pv (.int .i64 0),.pv (.str ByteArray.empty),.nilS,.nilS,.nilS,.pv (.int .i64 0),.pv (.int .i64 0),.pv (.str ByteArray.empty),.nilS,.nilS,.nilS,.nilS,.nilS,.nilS]⟩
abbrev chE (fc:FuncId) (capsC:List PV) (fv:FuncId) (capsV:List PV):PV:=.agg [.fn fc capsC,.fn fv capsV]
theorem change_spec (fc fv:FuncId) (capsC capsV:List PV) (cf:ConT→Int→Int→ConT×Int) (vf:Int→Int→Int→TermT×Int)
  (HC:∀c uc ut,okS c→0≤uc→uc≤1000000→(validF c=true∨c=zeroC)→Spec Tryz.prog fc (pp (encC c)::pp (uEnc uc ut)::capsC.map pp) [] (.tuple [encC (cf c uc ut).1,.int .i64 (cf c uc ut).2]) [])
  (HV:∀n uc ut,0≤n→n≤20000→0≤uc→uc≤1000000→0≤ut→ut≤1000000→Spec Tryz.prog fv (ii n::pp (uEnc uc ut)::capsV.map pp) [] (.tuple [encT (vf n uc ut).1,.int .i64 (vf n uc ut).2]) []) (t:TermT) :
  ∀uc ut:Int,wfT t=true→okT t→0≤uc→uc+depthT t≤1000000→0≤ut→ut+depthT t≤1000000 →
  Spec Tryz.prog 55 [pp (chE fc capsC fv capsV),pp (encT t),pp (uEnc uc ut)] [] (.tuple [encT (chT cf vf t uc ut).1,.int .i64 (chT cf vf t uc ut).2]) []:=by
 revert t
 refine TermT.ind1 fun op n s con to k names l ih=>?_
 intro uc ut hwf hok h1 h2 h3 h4
 rw[wfT,Bool.and_eq_true] at hwf
 obtain ⟨hnode,hwl⟩:=hwf
 obtain ⟨o1,o2,o3,o4⟩:=okT_con hok
 simp only[okT] at hok
 have hCl:=Clone_spec names (by omega)
 rw[depthT] at h2 h4
 by_cases hop:op=1
 ·obtain ⟨_,_,_,_,_,_,g1,g2⟩:=node_op1 hnode hop
  have hV:=HV n uc ut g1 g2 h1 (by omega) h3 (by omega)
  rw[chT,if_pos hop]
  generalize vf n uc ut=r at hV
  have e1:(op==1)=true:=by simp[hop]
  refine wf (rv:=[.cell 6 31,.tmp 7]) ann55 101 Tryz.func55 fun hfit=>?_
  clear hfit ih
  simp only[go_sem,encT_mk,e1]
  refine aCall_intro hV ?_
  simp only[go_sem,encT_sz]
 ·have e1:(op==1)=false:=by simp[hop]
  have hH:=thasCon_spec op
  have hnc:=node_con hnode
  have hC1:=HC con uc ut o1 h1 (by omega) (by
   cases hh:hasConF op with
   |true=>exact .inl (hnc.1 hh)
   |false=>exact .inr (hnc.2.1 hh))
  have hC2:=HC to uc ut o2 h1 (by omega) (by
   by_cases hh:op=8
   ·exact .inl (hnc.2.2.1 hh)
   ·exact .inr (hnc.2.2.2 hh))
  clear hnc
  have hIn:=fun i hi=>tinside_spec op n s con to k names l uc ut i h1 (by omega) h3 (by omega) hi
  have h9:op=9→l.length≤2:=fun e=>by subst e;have:=node_parts9 hnode;omega
  simp only[encC_cells,ConT.cells] at hC1 hC2
  simp only[encT_mk,encC_cells,ConT.cells] at hIn
  have e8:(op=8)↔(op==8)=true:=by simp
  have hq8:(op==8)=true→hasConF op=true:=fun e=>by rw[eq_of_beq e];decide
  generalize hres:chT cf vf (.mk op n s con to k names l) uc ut=res
  rw[chT,if_neg hop] at hres
  simp only[e8] at hres
  clear HC HV e8
  generalize cf con uc ut=y1 at hC1 hres
  generalize cf to uc ut=y2 at hC2 hres
  generalize hasConF op=q at hH hres hq8
  generalize h8:(op==8)=q8 at hres hq8
  have hcase:(q=true∧q8=true)∨(q=true∧q8=false)∨(q=false∧q8=false):=by
   cases q8
   ·cases q
    ·exact .inr (.inr ⟨rfl,rfl⟩)
    ·exact .inr (.inl ⟨rfl,rfl⟩)
   ·exact .inl ⟨hq8 rfl,rfl⟩
  by_cases hb1:q=true∧y1.2≠0
  ·rw[if_pos hb1] at hres
   subst hres
   obtain ⟨rfl,hb1⟩:=hb1
   have f1:(y1.2 != 0)=true:=by simp[hb1]
   rw[encT_zero]
   refine wf (rv:=[.cell 6 31,.tmp 7]) ann55 101 Tryz.func55 fun hfit=>?_
   clear hfit ih
   simp only[go_sem,encT_mk,e1]
   refine aCall_intro hCl ?_
   simp only[go_sem]
   try (refine ⟨by kernel_rfl,?_⟩;try simp only[go_sem])
   refine aCall_intro hH ?_
   simp only[go_sem]
   refine aCall_intro hC1 ?_
   simp only[go_sem,f1]
  ·rw[if_neg hb1] at hres
   by_cases hb2:q8=true∧y2.2≠0
   ·rw[if_pos hb2] at hres
    subst hres
    obtain ⟨rfl,hb2⟩:=hb2
    have hqt:=hq8 rfl
    subst hqt
    have f1:(y1.2 != 0)=false:=by
     cases hd:(y1.2 != 0) with
     |false=>rfl
     |true=>exact absurd ⟨rfl,by simpa using hd⟩ hb1
    have f2:(y2.2 != 0)=true:=by simp[hb2]
    rw[encT_zero]
    refine wf (rv:=[.cell 6 31,.tmp 7]) ann55 101 Tryz.func55 fun hfit=>?_
    clear hfit ih
    simp only[go_sem,encT_mk,e1]
    refine aCall_intro hCl ?_
    simp only[go_sem]
    try (refine ⟨by kernel_rfl,?_⟩;try simp only[go_sem])
    refine aCall_intro hH ?_
    simp only[go_sem]
    refine aCall_intro hC1 ?_
    simp only[go_sem,f1,h8]
    refine aCall_intro hC2 ?_
    simp only[go_sem,f2]
   ·rw[if_neg hb2] at hres
    have f1:q=true→(y1.2 != 0)=false:=fun e=>by
     cases hd:(y1.2 != 0) with
     |false=>rfl
     |true=>exact absurd ⟨e,by simpa using hd⟩ hb1
    have f2:q8=true→(y2.2 != 0)=false:=fun e=>by
     cases hd:(y2.2 != 0) with
     |false=>rfl
     |true=>exact absurd ⟨e,by simpa using hd⟩ hb2
    clear hb1 hb2 hq8 hnode
    generalize hz1:y1.1=z1 at hC1 hres
    generalize hz2:y2.1=z2 at hC2 hres
    -- what the loop yields
    have hfin:∀out:List TermT,(out,(0:Int))=chL cf vf op l 0 uc ut→res=(.mk op n s (if q=true then z1 else zeroC) (if q8=true then z2 else zeroC) k names out,0):=fun out e=>by
     rw[←e,if_neg (by simp)] at hres
     exact hres.symm
    have hbad:∀e:Int,e≠0→(chL cf vf op l 0 uc ut).2=e→res=(zeroT,e):=fun e he hE=>by
     rw[if_pos (by rw[hE];exact he),hE] at hres
     exact hres.symm
    clear hres hz1 hz2
    rcases hcase with ⟨rfl,rfl⟩|⟨rfl,rfl⟩|⟨rfl,rfl⟩
    ·simp only[Bool.false_eq_true,if_true,if_false] at hfin
     try have f1:=f1 rfl
     try have f2:=f2 rfl
     refine wk (rv:=[.cell 6 31,.tmp 7]) ann55 101 Tryz.func55 ?_
     simp only[go_sem,encT_mk,e1]
     refine aCall_intro hCl ?_
     simp only[go_sem]
     try (refine ⟨by kernel_rfl,?_⟩;try simp only[go_sem])
     refine aCall_intro hH ?_
     simp only[go_sem,h8]
     try (refine aCall_intro hC1 ?_;simp only[go_sem,f1,h8])
     try (refine aCall_intro hC2 ?_;simp only[go_sem,f2,h8])
     simp only[List.length_map]
     clear hCl hH hC1 hC2 e1
     generalize hG:chL cf vf op l 0 uc ut=G0 at hfin hbad
     refine aLoop_list (α:=TermT) (β:=Nat×List TermT) (fun rest b=>⟨[(6,.one (.ptr (.loc 6) 0)),(74,ii b.1),(8,.one (.ptr (.loc 8) 0)),(4,pp (.ep (encT (.mk op n s con to k names l)) 0)),(5,pp (.ep (uEnc uc ut) 0)),(3,pp (.ep (chE fc capsC fv capsV) 0)),(72,pp (.slice (l.map encT))),(73,ii l.length)],
       [(.loc 6,zboxT),(.loc 8,⟨.agg 18,.agg ([.pv (.int .i64 op),.pv (.int .i64 n),.pv (.str s)]++(ccell true z1++(ccell true z2++[.pv (.slice (k.map encK)),.pv (.slice (names.map .str)),acc 194 (.agg 18) (b.2.map encT)])))⟩)],[]⟩)
      (fun rest b=>∃pre,l=pre++rest∧b.1=pre.length∧b.2.length=pre.length∧((chL cf vf op rest b.1 uc ut).2=0→G0=(b.2++(chL cf vf op rest b.1 uc ut).1,0))∧((chL cf vf op rest b.1 uc ut).2≠0→G0.2=(chL cf vf op rest b.1 uc ut).2)) ?_ ?_ l (0,[]) _ ?_ ⟨[],rfl,rfl,rfl,fun e=>?_,fun e=>?_⟩
     ·rintro ⟨m,out⟩ ⟨pre,g1,g2,g3,g4,g5⟩ K
      simp only[List.append_nil] at g1 g2 g3
      simp only[chL,List.append_nil] at g4
      have hr:=hfin out (g4 trivial).symm
      subst g1
      rw[hr]
      cases out<;>simp only[go_sem,g2,lt_false (Int.le_refl _),acc,zboxT,ccell_t,ccell_f,List.cons_append,List.nil_append,encT_mk,List.map_nil,List.map_cons,zeroC,ConT.op,ConT.n,ConT.s,ConT.k,ConT.names,ConT.l]
     ·rintro x rest ⟨m,out⟩ ⟨pre,g1,g2,g3,g4,g5⟩ K hK
      simp only at g2 g3 g4 g5
      have hx:(l.map encT)[m]? = some (encT x):=by simp[g1,g2]
      have hlt:(m:Int)<l.length:=by rw[g1,g2];simp;omega
      have hll:m<l.length:=by rw[g1,g2];simp
      have hm:x∈l:=by simp[g1]
      have hdx:=depthTL_mem hm
      have w4:IntKind.i64.wrap ((m:Int)+1)=((m+1:Nat):Int):=by rw[wrap_id (by omega) (by omega)];simp
      have hIn:=hIn m (by omega)
      have b1:0≤insC op m∧insC op m≤1:=by
       rw[insC]
       by_cases e9:op=9
       ·have:=h9 e9
        rw[if_neg (by omega),if_pos e9];omega
       ·rw[if_neg e9];split<;>omega
      have b2:0≤insT op m∧insT op m≤1:=by
       rw[insT]
       by_cases e9:op=9
       ·have:=h9 e9
        rw[if_neg (by omega),if_neg (by omega),if_pos e9];omega
       ·rw[if_neg e9];(repeat' split)<;>omega
      have hI:=ih x hm (uc+insC op m) (ut+insT op m) (wfL_mem.1 hwl x hm) (okTs_mem.1 o4 x hm) (by omega) (by omega) (by omega) (by omega)
      rw[chL] at g4 g5
      generalize chT cf vf x (uc+insC op m) (ut+insT op m)=y at hI g4 g5
      have hbadx:(y.2 != 0)=true→res=(zeroT,y.2):=fun e=>by
       have e':y.2≠0:=by simpa using e
       rw[if_pos e'] at g5
       exact hbad y.2 e' (g5 e')
      have hK':=fun (e:(y.2 != 0)=false) s' hs=>by
       have e':¬y.2≠0:=by simpa using e
       refine hK (m+1,out++[y.1]) s' hs ⟨pre++[x],by simp[g1],by simp[g2],by simp[g3],fun h=>?_,fun h=>?_⟩
       ·rw[if_neg e',if_neg (by simpa using h)] at g4
        simpa using g4 rfl
       ·rw[if_neg e',if_pos h] at g5
        exact g5 h
      clear hK g4 g5 hfin hbad
      have hb1:(out.length+1)*312≤140737488355328:=by omega
      have hb2:out.length+1≤maxLen:=by rw[maxLen_eq];omega
      generalize uc+insC op m=uc2 at hI hIn
      generalize ut+insT op m=ut2 at hI hIn
      clear b1 b2 h1 h2 h3 h4 ih hdx
      cases hyb:(y.2 != 0)
      ·have hK':=hK' hyb
       cases out
       ·simp only[go_sem,decide_eq_true hlt,Int.toNat_natCast,Int.natCast_nonneg,hx,encT_sz,encT_mk,acc,zboxT,ccell_t,ccell_f,List.cons_append,List.nil_append,List.map_nil]
        refine aCall_intro hIn ?_
        simp only[go_sem,encT_sz]
        try (refine ⟨by kernel_rfl,?_⟩;try simp only[go_sem,encT_sz])
        refine aCall_intro hI ?_
        simp only[go_sem,encT_sz,hyb,w4,one_le_maxLen]
        try (refine ⟨by kernel_rfl,?_⟩;try simp only[go_sem,encT_sz,hyb,w4,one_le_maxLen])
        refine hK' _ ?_
        simp only[go_sem,acc,zboxT,ccell_t,ccell_f,List.cons_append,List.nil_append,encT_mk,List.map_cons,List.map_nil]
       ·simp only[List.length_cons] at hb1 hb2
        simp only[go_sem,decide_eq_true hlt,Int.toNat_natCast,Int.natCast_nonneg,hx,encT_sz,encT_mk,acc,zboxT,ccell_t,ccell_f,List.cons_append,List.nil_append,List.map_cons]
        refine aCall_intro hIn ?_
        simp only[go_sem,encT_sz]
        try (refine ⟨by kernel_rfl,?_⟩;try simp only[go_sem,encT_sz])
        refine aCall_intro hI ?_
        simp only[go_sem,encT_sz,hyb,w4,List.length_map,hb1,hb2]
        try (refine ⟨by kernel_rfl,?_⟩;try simp only[go_sem,encT_sz,hyb,w4,List.length_map,hb1,hb2])
        refine hK' _ ?_
        simp only[go_sem,acc,zboxT,ccell_t,ccell_f,List.cons_append,List.nil_append,encT_mk,List.map_cons,List.map_append,List.map_nil]
      ·rw[hbadx hyb,encT_zero]
       cases out<;>(
        simp only[go_sem,decide_eq_true hlt,Int.toNat_natCast,Int.natCast_nonneg,hx,encT_sz,encT_mk,acc,zboxT,ccell_t,ccell_f,List.cons_append,List.nil_append,List.map_nil,List.map_cons]
        refine aCall_intro hIn ?_
        simp only[go_sem,encT_sz]
        try (refine ⟨by kernel_rfl,?_⟩;try simp only[go_sem,encT_sz])
        refine aCall_intro hI ?_
        simp only[go_sem,encT_sz,hyb]
        try (first|kernel_rfl | (refine ⟨by kernel_rfl,?_⟩;try simp only[go_sem,encT_sz,hyb])))
     ·simp only[go_sem,acc,zboxT,ccell_t,ccell_f,List.cons_append,List.nil_append,encT_mk,Int.natCast_zero,List.map_nil]
     ·rw[hG] at e ⊢
      rw[List.nil_append,←e]
     ·rw[hG]
    ·simp only[Bool.false_eq_true,if_true,if_false] at hfin
     try have f1:=f1 rfl
     try have f2:=f2 rfl
     refine wk (rv:=[.cell 6 31,.tmp 7]) ann55 101 Tryz.func55 ?_
     simp only[go_sem,encT_mk,e1]
     refine aCall_intro hCl ?_
     simp only[go_sem]
     try (refine ⟨by kernel_rfl,?_⟩;try simp only[go_sem])
     refine aCall_intro hH ?_
     simp only[go_sem,h8]
     try (refine aCall_intro hC1 ?_;simp only[go_sem,f1,h8])
     try (refine aCall_intro hC2 ?_;simp only[go_sem,f2,h8])
     simp only[List.length_map]
     clear hCl hH hC1 hC2 e1
     generalize hG:chL cf vf op l 0 uc ut=G0 at hfin hbad
     refine aLoop_list (α:=TermT) (β:=Nat×List TermT) (fun rest b=>⟨[(6,.one (.ptr (.loc 6) 0)),(74,ii b.1),(8,.one (.ptr (.loc 8) 0)),(4,pp (.ep (encT (.mk op n s con to k names l)) 0)),(5,pp (.ep (uEnc uc ut) 0)),(3,pp (.ep (chE fc capsC fv capsV) 0)),(72,pp (.slice (l.map encT))),(73,ii l.length)],
       [(.loc 6,zboxT),(.loc 8,⟨.agg 18,.agg ([.pv (.int .i64 op),.pv (.int .i64 n),.pv (.str s)]++(ccell true z1++(ccell false z2++[.pv (.slice (k.map encK)),.pv (.slice (names.map .str)),acc 194 (.agg 18) (b.2.map encT)])))⟩)],[]⟩)
      (fun rest b=>∃pre,l=pre++rest∧b.1=pre.length∧b.2.length=pre.length∧((chL cf vf op rest b.1 uc ut).2=0→G0=(b.2++(chL cf vf op rest b.1 uc ut).1,0))∧((chL cf vf op rest b.1 uc ut).2≠0→G0.2=(chL cf vf op rest b.1 uc ut).2)) ?_ ?_ l (0,[]) _ ?_ ⟨[],rfl,rfl,rfl,fun e=>?_,fun e=>?_⟩
     ·rintro ⟨m,out⟩ ⟨pre,g1,g2,g3,g4,g5⟩ K
      simp only[List.append_nil] at g1 g2 g3
      simp only[chL,List.append_nil] at g4
      have hr:=hfin out (g4 trivial).symm
      subst g1
      rw[hr]
      cases out<;>simp only[go_sem,g2,lt_false (Int.le_refl _),acc,zboxT,ccell_t,ccell_f,List.cons_append,List.nil_append,encT_mk,List.map_nil,List.map_cons,zeroC,ConT.op,ConT.n,ConT.s,ConT.k,ConT.names,ConT.l]
     ·rintro x rest ⟨m,out⟩ ⟨pre,g1,g2,g3,g4,g5⟩ K hK
      simp only at g2 g3 g4 g5
      have hx:(l.map encT)[m]? = some (encT x):=by simp[g1,g2]
      have hlt:(m:Int)<l.length:=by rw[g1,g2];simp;omega
      have hll:m<l.length:=by rw[g1,g2];simp
      have hm:x∈l:=by simp[g1]
      have hdx:=depthTL_mem hm
      have w4:IntKind.i64.wrap ((m:Int)+1)=((m+1:Nat):Int):=by rw[wrap_id (by omega) (by omega)];simp
      have hIn:=hIn m (by omega)
      have b1:0≤insC op m∧insC op m≤1:=by
       rw[insC]
       by_cases e9:op=9
       ·have:=h9 e9
        rw[if_neg (by omega),if_pos e9];omega
       ·rw[if_neg e9];split<;>omega
      have b2:0≤insT op m∧insT op m≤1:=by
       rw[insT]
       by_cases e9:op=9
       ·have:=h9 e9
        rw[if_neg (by omega),if_neg (by omega),if_pos e9];omega
       ·rw[if_neg e9];(repeat' split)<;>omega
      have hI:=ih x hm (uc+insC op m) (ut+insT op m) (wfL_mem.1 hwl x hm) (okTs_mem.1 o4 x hm) (by omega) (by omega) (by omega) (by omega)
      rw[chL] at g4 g5
      generalize chT cf vf x (uc+insC op m) (ut+insT op m)=y at hI g4 g5
      have hbadx:(y.2 != 0)=true→res=(zeroT,y.2):=fun e=>by
       have e':y.2≠0:=by simpa using e
       rw[if_pos e'] at g5
       exact hbad y.2 e' (g5 e')
      have hK':=fun (e:(y.2 != 0)=false) s' hs=>by
       have e':¬y.2≠0:=by simpa using e
       refine hK (m+1,out++[y.1]) s' hs ⟨pre++[x],by simp[g1],by simp[g2],by simp[g3],fun h=>?_,fun h=>?_⟩
       ·rw[if_neg e',if_neg (by simpa using h)] at g4
        simpa using g4 rfl
       ·rw[if_neg e',if_pos h] at g5
        exact g5 h
      clear hK g4 g5 hfin hbad
      have hb1:(out.length+1)*312≤140737488355328:=by omega
      have hb2:out.length+1≤maxLen:=by rw[maxLen_eq];omega
      generalize uc+insC op m=uc2 at hI hIn
      generalize ut+insT op m=ut2 at hI hIn
      clear b1 b2 h1 h2 h3 h4 ih hdx
      cases hyb:(y.2 != 0)
      ·have hK':=hK' hyb
       cases out
       ·simp only[go_sem,decide_eq_true hlt,Int.toNat_natCast,Int.natCast_nonneg,hx,encT_sz,encT_mk,acc,zboxT,ccell_t,ccell_f,List.cons_append,List.nil_append,List.map_nil]
        refine aCall_intro hIn ?_
        simp only[go_sem,encT_sz]
        try (refine ⟨by kernel_rfl,?_⟩;try simp only[go_sem,encT_sz])
        refine aCall_intro hI ?_
        simp only[go_sem,encT_sz,hyb,w4,one_le_maxLen]
        try (refine ⟨by kernel_rfl,?_⟩;try simp only[go_sem,encT_sz,hyb,w4,one_le_maxLen])
        refine hK' _ ?_
        simp only[go_sem,acc,zboxT,ccell_t,ccell_f,List.cons_append,List.nil_append,encT_mk,List.map_cons,List.map_nil]
       ·simp only[List.length_cons] at hb1 hb2
        simp only[go_sem,decide_eq_true hlt,Int.toNat_natCast,Int.natCast_nonneg,hx,encT_sz,encT_mk,acc,zboxT,ccell_t,ccell_f,List.cons_append,List.nil_append,List.map_cons]
        refine aCall_intro hIn ?_
        simp only[go_sem,encT_sz]
        try (refine ⟨by kernel_rfl,?_⟩;try simp only[go_sem,encT_sz])
        refine aCall_intro hI ?_
        simp only[go_sem,encT_sz,hyb,w4,List.length_map,hb1,hb2]
        try (refine ⟨by kernel_rfl,?_⟩;try simp only[go_sem,encT_sz,hyb,w4,List.length_map,hb1,hb2])
        refine hK' _ ?_
        simp only[go_sem,acc,zboxT,ccell_t,ccell_f,List.cons_append,List.nil_append,encT_mk,List.map_cons,List.map_append,List.map_nil]
      ·rw[hbadx hyb,encT_zero]
       cases out<;>(
        simp only[go_sem,decide_eq_true hlt,Int.toNat_natCast,Int.natCast_nonneg,hx,encT_sz,encT_mk,acc,zboxT,ccell_t,ccell_f,List.cons_append,List.nil_append,List.map_nil,List.map_cons]
        refine aCall_intro hIn ?_
        simp only[go_sem,encT_sz]
        try (refine ⟨by kernel_rfl,?_⟩;try simp only[go_sem,encT_sz])
        refine aCall_intro hI ?_
        simp only[go_sem,encT_sz,hyb]
        try (first|kernel_rfl | (refine ⟨by kernel_rfl,?_⟩;try simp only[go_sem,encT_sz,hyb])))
     ·simp only[go_sem,acc,zboxT,ccell_t,ccell_f,List.cons_append,List.nil_append,encT_mk,Int.natCast_zero,List.map_nil]
     ·rw[hG] at e ⊢
      rw[List.nil_append,←e]
     ·rw[hG]
    ·simp only[Bool.false_eq_true,if_true,if_false] at hfin
     try have f1:=f1 rfl
     try have f2:=f2 rfl
     refine wk (rv:=[.cell 6 31,.tmp 7]) ann55 101 Tryz.func55 ?_
     simp only[go_sem,encT_mk,e1]
     refine aCall_intro hCl ?_
     simp only[go_sem]
     try (refine ⟨by kernel_rfl,?_⟩;try simp only[go_sem])
     refine aCall_intro hH ?_
     simp only[go_sem,h8]
     try (refine aCall_intro hC1 ?_;simp only[go_sem,f1,h8])
     try (refine aCall_intro hC2 ?_;simp only[go_sem,f2,h8])
     simp only[List.length_map]
     clear hCl hH hC1 hC2 e1
     generalize hG:chL cf vf op l 0 uc ut=G0 at hfin hbad
     refine aLoop_list (α:=TermT) (β:=Nat×List TermT) (fun rest b=>⟨[(6,.one (.ptr (.loc 6) 0)),(74,ii b.1),(8,.one (.ptr (.loc 8) 0)),(4,pp (.ep (encT (.mk op n s con to k names l)) 0)),(5,pp (.ep (uEnc uc ut) 0)),(3,pp (.ep (chE fc capsC fv capsV) 0)),(72,pp (.slice (l.map encT))),(73,ii l.length)],
       [(.loc 6,zboxT),(.loc 8,⟨.agg 18,.agg ([.pv (.int .i64 op),.pv (.int .i64 n),.pv (.str s)]++(ccell false z1++(ccell false z2++[.pv (.slice (k.map encK)),.pv (.slice (names.map .str)),acc 194 (.agg 18) (b.2.map encT)])))⟩)],[]⟩)
      (fun rest b=>∃pre,l=pre++rest∧b.1=pre.length∧b.2.length=pre.length∧((chL cf vf op rest b.1 uc ut).2=0→G0=(b.2++(chL cf vf op rest b.1 uc ut).1,0))∧((chL cf vf op rest b.1 uc ut).2≠0→G0.2=(chL cf vf op rest b.1 uc ut).2)) ?_ ?_ l (0,[]) _ ?_ ⟨[],rfl,rfl,rfl,fun e=>?_,fun e=>?_⟩
     ·rintro ⟨m,out⟩ ⟨pre,g1,g2,g3,g4,g5⟩ K
      simp only[List.append_nil] at g1 g2 g3
      simp only[chL,List.append_nil] at g4
      have hr:=hfin out (g4 trivial).symm
      subst g1
      rw[hr]
      cases out<;>simp only[go_sem,g2,lt_false (Int.le_refl _),acc,zboxT,ccell_t,ccell_f,List.cons_append,List.nil_append,encT_mk,List.map_nil,List.map_cons,zeroC,ConT.op,ConT.n,ConT.s,ConT.k,ConT.names,ConT.l]
     ·rintro x rest ⟨m,out⟩ ⟨pre,g1,g2,g3,g4,g5⟩ K hK
      simp only at g2 g3 g4 g5
      have hx:(l.map encT)[m]? = some (encT x):=by simp[g1,g2]
      have hlt:(m:Int)<l.length:=by rw[g1,g2];simp;omega
      have hll:m<l.length:=by rw[g1,g2];simp
      have hm:x∈l:=by simp[g1]
      have hdx:=depthTL_mem hm
      have w4:IntKind.i64.wrap ((m:Int)+1)=((m+1:Nat):Int):=by rw[wrap_id (by omega) (by omega)];simp
      have hIn:=hIn m (by omega)
      have b1:0≤insC op m∧insC op m≤1:=by
       rw[insC]
       by_cases e9:op=9
       ·have:=h9 e9
        rw[if_neg (by omega),if_pos e9];omega
       ·rw[if_neg e9];split<;>omega
      have b2:0≤insT op m∧insT op m≤1:=by
       rw[insT]
       by_cases e9:op=9
       ·have:=h9 e9
        rw[if_neg (by omega),if_neg (by omega),if_pos e9];omega
       ·rw[if_neg e9];(repeat' split)<;>omega
      have hI:=ih x hm (uc+insC op m) (ut+insT op m) (wfL_mem.1 hwl x hm) (okTs_mem.1 o4 x hm) (by omega) (by omega) (by omega) (by omega)
      rw[chL] at g4 g5
      generalize chT cf vf x (uc+insC op m) (ut+insT op m)=y at hI g4 g5
      have hbadx:(y.2 != 0)=true→res=(zeroT,y.2):=fun e=>by
       have e':y.2≠0:=by simpa using e
       rw[if_pos e'] at g5
       exact hbad y.2 e' (g5 e')
      have hK':=fun (e:(y.2 != 0)=false) s' hs=>by
       have e':¬y.2≠0:=by simpa using e
       refine hK (m+1,out++[y.1]) s' hs ⟨pre++[x],by simp[g1],by simp[g2],by simp[g3],fun h=>?_,fun h=>?_⟩
       ·rw[if_neg e',if_neg (by simpa using h)] at g4
        simpa using g4 rfl
       ·rw[if_neg e',if_pos h] at g5
        exact g5 h
      clear hK g4 g5 hfin hbad
      have hb1:(out.length+1)*312≤140737488355328:=by omega
      have hb2:out.length+1≤maxLen:=by rw[maxLen_eq];omega
      generalize uc+insC op m=uc2 at hI hIn
      generalize ut+insT op m=ut2 at hI hIn
      clear b1 b2 h1 h2 h3 h4 ih hdx
      cases hyb:(y.2 != 0)
      ·have hK':=hK' hyb
       cases out
       ·simp only[go_sem,decide_eq_true hlt,Int.toNat_natCast,Int.natCast_nonneg,hx,encT_sz,encT_mk,acc,zboxT,ccell_t,ccell_f,List.cons_append,List.nil_append,List.map_nil]
        refine aCall_intro hIn ?_
        simp only[go_sem,encT_sz]
        try (refine ⟨by kernel_rfl,?_⟩;try simp only[go_sem,encT_sz])
        refine aCall_intro hI ?_
        simp only[go_sem,encT_sz,hyb,w4,one_le_maxLen]
        try (refine ⟨by kernel_rfl,?_⟩;try simp only[go_sem,encT_sz,hyb,w4,one_le_maxLen])
        refine hK' _ ?_
        simp only[go_sem,acc,zboxT,ccell_t,ccell_f,List.cons_append,List.nil_append,encT_mk,List.map_cons,List.map_nil]
       ·simp only[List.length_cons] at hb1 hb2
        simp only[go_sem,decide_eq_true hlt,Int.toNat_natCast,Int.natCast_nonneg,hx,encT_sz,encT_mk,acc,zboxT,ccell_t,ccell_f,List.cons_append,List.nil_append,List.map_cons]
        refine aCall_intro hIn ?_
        simp only[go_sem,encT_sz]
        try (refine ⟨by kernel_rfl,?_⟩;try simp only[go_sem,encT_sz])
        refine aCall_intro hI ?_
        simp only[go_sem,encT_sz,hyb,w4,List.length_map,hb1,hb2]
        try (refine ⟨by kernel_rfl,?_⟩;try simp only[go_sem,encT_sz,hyb,w4,List.length_map,hb1,hb2])
        refine hK' _ ?_
        simp only[go_sem,acc,zboxT,ccell_t,ccell_f,List.cons_append,List.nil_append,encT_mk,List.map_cons,List.map_append,List.map_nil]
      ·rw[hbadx hyb,encT_zero]
       cases out<;>(
        simp only[go_sem,decide_eq_true hlt,Int.toNat_natCast,Int.natCast_nonneg,hx,encT_sz,encT_mk,acc,zboxT,ccell_t,ccell_f,List.cons_append,List.nil_append,List.map_nil,List.map_cons]
        refine aCall_intro hIn ?_
        simp only[go_sem,encT_sz]
        try (refine ⟨by kernel_rfl,?_⟩;try simp only[go_sem,encT_sz])
        refine aCall_intro hI ?_
        simp only[go_sem,encT_sz,hyb]
        try (first|kernel_rfl | (refine ⟨by kernel_rfl,?_⟩;try simp only[go_sem,encT_sz,hyb])))
     ·simp only[go_sem,acc,zboxT,ccell_t,ccell_f,List.cons_append,List.nil_append,encT_mk,Int.natCast_zero,List.map_nil]
     ·rw[hG] at e ⊢
      rw[List.nil_append,←e]
     ·rw[hG]
/-! Sizes -/
mutual
theorem measT_wt:∀(t:TermT) (left depth:Int),(measT t left depth).2=true→(wtT t:Int)≤(measT t left depth).1
 | .mk op n s con to k names l,left,depth=>by
  rw[measT,wtT]
  split
  ·intro h;cases h
  ·intro h
   have:=measTL_wt l left _ depth h
   have h1:(0:Int)≤(if hasConF op=true then (sizeF con:Int) else 0):=by split<;>omega
   have h2:(0:Int)≤(if op=8 then (sizeF to:Int) else 0):=by split<;>omega
   omega
theorem measTL_wt:∀(l:List TermT) (left n depth:Int),(measTL l left n depth).2=true→n+wtTL l≤(measTL l left n depth).1
 | [],left,n,depth=>by rw[measTL,wtTL];intro _;simp
 |x::r,left,n,depth=>by
  rw[measTL,wtTL]
  split
  ·intro h;cases h
  ·rename_i h
   intro h1
   have h2:=measT_wt x _ _ (by simpa using h)
   have h3:=measTL_wt r _ _ _ h1
   omega
end
theorem valid_wt {t:TermT}(h:validT t=true):wtT t≤20000:=by
 have h1:=measT_wt t 20000 1 h
 have h2:=(measT_le t 20000 1).2 h
 omega
theorem above_len (l:List Int) (u:Int):(above l u).length≤l.length:=List.length_filterMap_le _ _
theorem freeF_len (c:ConT):(freeF c).length≤20001:=by
 have:=asc_len (freeF c) 0 20000 (freeF_asc c) (fun i hi=>freeF_n hi)
 omega
mutual
theorem consF_len:∀(t:TermT) (uc:Int),(consF t uc).length≤40002*wtT t
 | .mk op n s con to k names l,uc=>by
  rw[consF,wtT,List.length_append,List.length_append]
  have h1:(if hasConF op=true then above (freeF con) uc else []).length≤20001:=by
   split
   ·exact Nat.le_trans (above_len _ _) (freeF_len con)
   ·simp
  have h2:(if op=8 then above (freeF to) uc else []).length≤20001:=by
   split
   ·exact Nat.le_trans (above_len _ _) (freeF_len to)
   ·simp
  have h3:=consL_len op l 0 uc
  omega
theorem consL_len (op:Int):∀(l:List TermT) (i:Nat) (uc:Int),(consL op l i uc).length≤40002*wtTL l
 | [],i,uc=>by rw[consL];simp
 |x::r,i,uc=>by
  rw[consL,wtTL,List.length_append]
  have h1:=consF_len x (uc+insC op i)
  have h2:=consL_len op r (i+1) uc
  omega
end
mutual
theorem termsF_len:∀(t:TermT) (ut:Int),(termsF t ut).length≤wtT t
 | .mk op n s con to k names l,ut=>by
  rw[termsF,wtT,List.length_append]
  have h1:(if op=1 then above [n] ut else []).length≤1:=by
   split
   ·exact Nat.le_trans (above_len _ _) (by simp)
   ·simp
  have h3:=termsL_len op l 0 ut
  omega
theorem termsL_len (op:Int):∀(l:List TermT) (i:Nat) (ut:Int),(termsL op l i ut).length≤wtTL l
 | [],i,ut=>by rw[termsL];simp
 |x::r,i,ut=>by
  rw[termsL,wtTL,List.length_append]
  have h1:=termsF_len x (ut+insT op i)
  have h2:=termsL_len op r (i+1) ut
  omega
end
theorem insC_nn (op:Int) (i:Nat):0≤insC op i:=by rw[insC];(repeat' split)<;>omega
theorem insT_nn (op:Int) (i:Nat):0≤insT op i:=by rw[insT];(repeat' split)<;>omega
mutual
theorem consF_n:∀(t:TermT) (uc:Int),0≤uc→∀i∈consF t uc,0≤i∧i≤20000
 | .mk op n s con to k names l,uc,h,i,hi=>by
  rw[consF] at hi
  have hab:∀c,i∈above (freeF c) uc→0≤i∧i≤20000:=by
   intro c hc
   obtain ⟨m,h1,h2,rfl⟩:=mem_above.1 hc
   have:=freeF_n h1
   omega
  rcases List.mem_append.1 hi with hi|hi
  ·split at hi
   ·exact hab _ hi
   ·cases hi
  ·rcases List.mem_append.1 hi with hi|hi
   ·split at hi
    ·exact hab _ hi
    ·cases hi
   ·exact consL_n op l 0 uc h i hi
theorem consL_n (op:Int):∀(l:List TermT) (j:Nat) (uc:Int),0≤uc→∀i∈consL op l j uc,0≤i∧i≤20000
 | [],j,uc,h,i,hi=>by rw[consL] at hi;cases hi
 |x::r,j,uc,h,i,hi=>by
  rw[consL] at hi
  rcases List.mem_append.1 hi with hi|hi
  ·exact consF_n x _ (by have:=insC_nn op j;omega) i hi
  ·exact consL_n op r (j+1) uc h i hi
end
mutual
theorem termsF_n:∀(t:TermT) (ut:Int),wfT t=true→0≤ut→∀i∈termsF t ut,0≤i∧i≤20000
 | .mk op n s con to k names l,ut,hwf,h,i,hi=>by
  rw[wfT,Bool.and_eq_true] at hwf
  rw[termsF] at hi
  rcases List.mem_append.1 hi with hi|hi
  ·split at hi
   ·rename_i h1
    obtain ⟨_,_,_,_,_,_,g1,g2⟩:=node_op1 hwf.1 h1
    obtain ⟨m,h1,h2,rfl⟩:=mem_above.1 hi
    rw[List.mem_singleton] at h1
    omega
   ·cases hi
  ·exact termsL_n op l 0 ut hwf.2 h i hi
theorem termsL_n (op:Int):∀(l:List TermT) (j:Nat) (ut:Int),wfL l=true→0≤ut→∀i∈termsL op l j ut,0≤i∧i≤20000
 | [],j,ut,hwf,h,i,hi=>by rw[termsL] at hi;cases hi
 |x::r,j,ut,hwf,h,i,hi=>by
  rw[wfL,Bool.and_eq_true] at hwf
  rw[termsL] at hi
  rcases List.mem_append.1 hi with hi|hi
  ·exact termsF_n x _ hwf.1 (by have:=insT_nn op j;omega) i hi
  ·exact termsL_n op r (j+1) ut hwf.2 h i hi
end
/-! What is rebuilt is such as memory allows -/
abbrev okCon (c:ConT):Prop:=sizeF c≤1000000000∧okS c
theorem okS_zero:okS zeroC:=by
 simp only[zeroC,okS,okSs,and_true]
 exact ⟨by decide,fun x hx=>by simp at hx⟩
theorem okCon_zero:okCon zeroC:=⟨by decide,okS_zero⟩
theorem okT_zero:okT zeroT:=by
 simp only[zeroT,okT,okTs,knL]
 exact ⟨by decide,okCon_zero,okCon_zero,by decide,fun x hx=>by simp at hx,by decide,by decide,trivial⟩
theorem okT_var (n:Int):okT (varT n):=by
 simp only[varT,okT,okTs,knL]
 exact ⟨by decide,okCon_zero,okCon_zero,by decide,fun x hx=>by simp at hx,by decide,by decide,trivial⟩
mutual
theorem chT_ok (cf:ConT→Int→Int→ConT×Int) (vf:Int→Int→Int→TermT×Int) (HC:∀c uc ut,wtF c≤900000000→okS c→okCon (cf c uc ut).1) (HV:∀n uc ut,okT (vf n uc ut).1) :
  ∀(t:TermT) (uc ut:Int),okT t→wcT t→okT (chT cf vf t uc ut).1
 | .mk op n s con to k names l,uc,ut,hok,hwc=>by
  have hL:=chL_ok cf vf HC HV op l 0 uc ut (okT_con hok).2.2.2 (by simp only[wcT] at hwc;exact hwc.2.2)
  simp only[okT] at hok
  simp only[wcT] at hwc
  rw[chT]
  split
  ·exact HV _ _ _
  ·split
   ·exact okT_zero
   ·split
    ·exact okT_zero
    ·split
     ·exact okT_zero
     ·simp only[okT]
      refine ⟨hok.1,?_,?_,hok.2.2.2.1,hok.2.2.2.2.1,hok.2.2.2.2.2.1,Nat.le_trans hL.1 hok.2.2.2.2.2.2.1,hL.2⟩
      ·split
       ·exact HC _ _ _ hwc.1 hok.2.1.2
       ·exact okCon_zero
      ·split
       ·exact HC _ _ _ hwc.2.1 hok.2.2.1.2
       ·exact okCon_zero
theorem chL_ok (cf:ConT→Int→Int→ConT×Int) (vf:Int→Int→Int→TermT×Int) (HC:∀c uc ut,wtF c≤900000000→okS c→okCon (cf c uc ut).1) (HV:∀n uc ut,okT (vf n uc ut).1) (op:Int) :
  ∀(l:List TermT) (i:Nat) (uc ut:Int),okTs l→wcTs l→(chL cf vf op l i uc ut).1.length≤l.length∧okTs (chL cf vf op l i uc ut).1
 | [],i,uc,ut,_,_=>by rw[chL];exact ⟨Nat.le_refl _,trivial⟩
 |x::r,i,uc,ut,hok,hwc=>by
  simp only[okTs] at hok
  simp only[wcTs] at hwc
  have h1:=chT_ok cf vf HC HV x (uc+insC op i) (ut+insT op i) hok.1 hwc.1
  have h2:=chL_ok cf vf HC HV op r (i+1) uc ut hok.2 hwc.2
  rw[chL]
  split
  ·exact ⟨by simp,trivial⟩
  ·split
   ·exact ⟨by simp,trivial⟩
   ·simp only[okTs,List.length_cons]
    exact ⟨by omega,h1,h2.2⟩
end
theorem shiftF_ok (c:ConT) (n f:Int) (h2:okS c):okCon (shiftF c n f).1:=by
 rw[shiftF]
 split
 ·exact okCon_zero
 ·split
  ·exact okCon_zero
  ·rw[replF_eq]
   split
   ·rename_i hv
    refine ⟨?_,mapF_okS _ c 0 h2 fun x b hx=>okS_shiftLeaf n f x b ((leaves_mem c 0 x b hx).2.1 h2)⟩
    rw[validF] at hv
    simp only[Bool.and_eq_true,decide_eq_true_iff] at hv
    have:=hv.1
    simp only
    omega
   ·exact okCon_zero
mutual
theorem chT_okW (cf:ConT→Int→Int→ConT×Int) (vf:Int→Int→Int→TermT×Int) (HC:∀c uc ut,validF c=true→okS c→okCon (cf c uc ut).1) (HV:∀n uc ut,okT (vf n uc ut).1) :
  ∀(t:TermT) (uc ut:Int),okT t→wfT t=true→okT (chT cf vf t uc ut).1
 | .mk op n s con to k names l,uc,ut,hok,hwf=>by
  rw[wfT,Bool.and_eq_true] at hwf
  obtain ⟨n1,_,n3,_⟩:=node_con hwf.1
  have hL:=chL_okW cf vf HC HV op l 0 uc ut (okT_con hok).2.2.2 hwf.2
  simp only[okT] at hok
  rw[chT]
  split
  ·exact HV _ _ _
  ·split
   ·exact okT_zero
   ·split
    ·exact okT_zero
    ·split
     ·exact okT_zero
     ·simp only[okT]
      refine ⟨hok.1,?_,?_,hok.2.2.2.1,hok.2.2.2.2.1,hok.2.2.2.2.2.1,Nat.le_trans hL.1 hok.2.2.2.2.2.2.1,hL.2⟩
      ·split
       ·rename_i e;exact HC _ _ _ (n1 e) hok.2.1.2
       ·exact okCon_zero
      ·split
       ·rename_i e;exact HC _ _ _ (n3 e) hok.2.2.1.2
       ·exact okCon_zero
theorem chL_okW (cf:ConT→Int→Int→ConT×Int) (vf:Int→Int→Int→TermT×Int) (HC:∀c uc ut,validF c=true→okS c→okCon (cf c uc ut).1) (HV:∀n uc ut,okT (vf n uc ut).1) (op:Int) :
  ∀(l:List TermT) (i:Nat) (uc ut:Int),okTs l→wfL l=true→(chL cf vf op l i uc ut).1.length≤l.length∧okTs (chL cf vf op l i uc ut).1
 | [],i,uc,ut,_,_=>by rw[chL];exact ⟨Nat.le_refl _,trivial⟩
 |x::r,i,uc,ut,hok,hwf=>by
  simp only[okTs] at hok
  rw[wfL,Bool.and_eq_true] at hwf
  have h1:=chT_okW cf vf HC HV x (uc+insC op i) (ut+insT op i) hok.1 hwf.1
  have h2:=chL_okW cf vf HC HV op r (i+1) uc ut hok.2 hwf.2
  rw[chL]
  split
  ·exact ⟨by simp,trivial⟩
  ·split
   ·exact ⟨by simp,trivial⟩
   ·simp only[okTs,List.length_cons]
    exact ⟨by omega,h1,h2.2⟩
end
theorem shT_okV (n m:Int) (t:TermT) (uc ut:Int) (h1:okT t) (h2:wfT t=true):okT (chT (shCf n) (shVf m) t uc ut).1:=
 chT_okW _ _ (fun c uc _ _ h=>shiftF_ok c n uc h) (fun _ _ _=>okT_var _) t uc ut h1 h2
theorem shT_ok (n m:Int) (t:TermT) (uc ut:Int) (h1:okT t) (h2:wcT t):okT (chT (shCf n) (shVf m) t uc ut).1:=
 chT_ok _ _ (fun c uc _ _ h=>shiftF_ok c n uc h) (fun _ _ _=>okT_var _) t uc ut h1 h2
/-! The closures -/
theorem sizeF_or {c:ConT}(h:validF c=true∨c=zeroC):sizeF c≤1000000000:=by
 rcases h with h|rfl
 ·rw[validF,Bool.and_eq_true] at h
  have:=of_decide_eq_true h.1
  omega
 ·decide
theorem shift1_spec (n:Int) (c:ConT) (uc ut:Int) (h1:sizeF c≤1000000000) (h2:okS c):Spec Tryz.prog 101 (pp (encC c)::pp (uEnc uc ut)::[capI n].map pp) [] (.tuple [encC (shCf n c uc ut).1,.int .i64 (shCf n c uc ut).2]) []:=by
 have hS:=Shift_specV c n uc h1 h2
 rw[shCf]
 generalize shiftF c n uc=r at hS
 refine wk (rv:=[.cell 5 28,.tmp 6]) ann101 14 Tryz.func101 ?_
 simp only[go_sem,encC_sz,capI,List.map_cons,List.map_nil]
 refine aCall_intro hS ?_
 simp only[go_sem,encC_sz]
theorem encT_var (n:Int):encT (varT n)=.agg [.int .i64 1,.int .i64 n,.str ByteArray.empty,.int .i64 0,.int .i64 0,.str ByteArray.empty,.slice [],.slice [],.slice [],.int .i64 0,.int .i64 0,.str ByteArray.empty,.slice [],.slice [],.slice [],.slice [],.slice [],.slice []]:=rfl
theorem shift2_spec (m n uc ut:Int) (h1:-1000000000≤m) (h2:m≤1000000000) (h3:0≤n) (h4:n≤20000):Spec Tryz.prog 102 (ii n::pp (uEnc uc ut)::[capI m].map pp) [] (.tuple [encT (shVf m n uc ut).1,.int .i64 (shVf m n uc ut).2]) []:=by
 have w1:IntKind.i64.wrap (n+m)=n+m:=wrap_id (by omega) (by omega)
 rw[shVf,encT_var]
 refine wk (rv:=[.cell 5 31,.tmp 6]) ann102 16 Tryz.func102 ?_
 simp only[go_sem,capI,List.map_cons,List.map_nil]
 refine condK_intro (fun hb=>?_) (fun hb=>?_)
 ·rw[if_pos (of_decide_eq_true hb)]
  simp only[go_sem,w1]
 ·rw[if_neg (of_decide_eq_false hb)]
  simp only[go_sem]
theorem shifting_spec (n m:Int):Spec Tryz.prog 54 [ii n,ii m] [] (chE 101 [capI n] 102 [capI m]) []:=by
 refine wk (rv:=[.cell 4 82]) ann54 8 Tryz.func54 ?_
 simp only[go_sem,capI]
theorem change_shiftV (n m:Int) (h1:-1000000000≤m) (h2:m≤1000000000) (t:TermT) (hwf:wfT t=true) (hok:okT t) (hd:depthT t≤1000) :
  Spec Tryz.prog 55 [pp (chE 101 [capI n] 102 [capI m]),pp (encT t),pp (uEnc 0 0)] [] (.tuple [encT (chT (shCf n) (shVf m) t 0 0).1,.int .i64 (chT (shCf n) (shVf m) t 0 0).2]) []:=
 change_spec _ _ [capI n] [capI m] (shCf n) (shVf m) (fun c uc ut g2 _ _ g5=>shift1_spec n c uc ut (sizeF_or g5) g2) (fun i uc ut g1 g2 _ _ _ _=>shift2_spec m i uc ut h1 h2 g1 g2) t 0 0 hwf hok (by decide) (by omega) (by decide) (by omega)
theorem change_shift (n m:Int) (h1:-1000000000≤m) (h2:m≤1000000000) (t:TermT) (hwf:wfT t=true) (hok:okT t) (_hwc:wcT t) (hd:depthT t≤1000) :
  Spec Tryz.prog 55 [pp (chE 101 [capI n] 102 [capI m]),pp (encT t),pp (uEnc 0 0)] [] (.tuple [encT (chT (shCf n) (shVf m) t 0 0).1,.int .i64 (chT (shCf n) (shVf m) t 0 0).2]) []:=
 change_shiftV n m h1 h2 t hwf hok hd
theorem finish_spec (r:TermT×Int) (h:okT r.1):Spec Tryz.prog 53 [pp (encT r.1),ii r.2] [] (.tuple [encT (finT r).1,.int .i64 (finT r).2]) []:=by
 have hV:=tValid_spec r.1 h
 rw[finT]
 refine wk (rv:=[.cell 4 31,.tmp 5]) ann53 15 Tryz.func53 ?_
 simp only[go_sem,encT_sz]
 refine guardK_intro (fun hb=>?_) (fun hb=>?_)
 ·have hb':¬r.2≠0:=by simpa using hb
  simp only[go_sem,encT_sz]
  refine aCall_intro hV ?_
  cases hv:validT r.1 with
  |true=>
   have hn:¬(r.2≠0∨true=false):=by rintro (e|e);exact hb' e;cases e
   rw[if_neg hn]
   simp only[go_sem,encT_sz]
  |false=>
   have hn:(r.2≠0∨(false:Bool)=false):=.inr rfl
   rw[if_pos hn,encT_zero]
   simp only[go_sem,encT_sz]
 ·have hb':r.2≠0:=by simpa using hb
  have hn:(r.2≠0∨validT r.1=false):=.inl hb'
  rw[if_pos hn,encT_zero]
  simp only[go_sem,encT_sz]
theorem in_spec (n:Int):Spec Tryz.prog 52 [ii n] [] (.bool (inB n)) []:=by
 refine wk (rv:=[.tmp 2]) ann52 9 Tryz.func52 ?_
 simp only[go_sem]
 repeat' ((first|refine condK_intro (fun _=>?_) (fun _=>?_)|refine guardK_intro (fun _=>?_) (fun _=>?_))<;>simp only[go_sem,List.length_map])
 all_goals (simp only[inB];simp_all<;>omega)
/-! Shift -/
theorem tShift_spec (t:TermT) (cons terms:Int) (hok:okT t) (hwc:wcT t):Spec Tryz.prog 14 [pp (encT t),ii cons,ii terms] [] (.tuple [encT (ShiftT t cons terms).1,.int .i64 (ShiftT t cons terms).2]) []:=by
 have hV:=tValid_spec t hok
 rw[ShiftT]
 cases hv:validT t with
 |false=>
  rw[hv] at hV
  rw[if_pos rfl,encT_zero]
  refine wk (rv:=[.cell 6 31,.tmp 7]) ann14 65 Tryz.func14 ?_
  simp only[go_sem,encT_sz]
  refine aCall_intro hV ?_
  simp only[go_sem]
 |true=>
  rw[hv] at hV
  obtain ⟨hwf,hd⟩:=valid_wf hv
  have hwt:=valid_wt hv
  have hl1:=consF_len t 0
  have hl2:=termsF_len t 0
  have hF:=free_spec t hwf hok hwc (by omega) (by omega) (by omega)
  have hb1:∀x∈sortU (consF t 0),0≤x∧x≤20000:=fun x hx=>consF_n t 0 (by decide) x (sortU_mem _ |>.1 hx)
  have hb2:∀x∈sortU (termsF t 0),0≤x∧x≤20000:=fun x hx=>termsF_n t 0 hwf (by decide) x (sortU_mem _ |>.1 hx)
  have hI1:=in_spec cons
  have hI2:=in_spec terms
  rw[if_neg (by decide:¬(true=false))]
  generalize hres:(if inB cons=false∨inB terms=false∨headLt (sortU (consF t 0)) cons=true∨headLt (sortU (termsF t 0)) terms=true then (zeroT,(2:Int)) else finT (shT cons terms t))=res
  generalize sortU (consF t 0)=la at hF hb1 hres
  generalize sortU (termsF t 0)=lb at hF hb2 hres
  have hgood:inB cons=true→inB terms=true→Spec Tryz.prog 55 [pp (chE 101 [capI cons] 102 [capI terms]),pp (encT t),pp (uEnc 0 0)] [] (.tuple [encT (shT cons terms t).1,.int .i64 (shT cons terms t).2]) []:=fun e1 e2=>by
   rw[inB,Bool.and_eq_true] at e2
   have:=of_decide_eq_true e2.1
   have:=of_decide_eq_true e2.2
   exact change_shift cons terms (by omega) (by omega) t hwf hok hwc (by omega)
  have hSh:=shifting_spec cons terms
  have hFi:=finish_spec (shT cons terms t) (shT_ok cons terms t 0 0 hok hwc)
  generalize shT cons terms t=r at hgood hFi hres
  have hin:∀n,inB n=true→-20000≤n∧n≤20000:=fun n h=>by
   rw[inB,Bool.and_eq_true] at h
   exact ⟨of_decide_eq_true h.1,of_decide_eq_true h.2⟩
  cases hi1:inB cons with
  |false=>
   rw[hi1] at hI1
   rw[if_pos (.inl hi1)] at hres
   subst hres
   rw[encT_zero]
   refine wk (rv:=[.cell 6 31,.tmp 7]) ann14 65 Tryz.func14 ?_
   simp only[go_sem,encT_sz]
   refine aCall_intro hV ?_
   simp only[go_sem,encT_sz]
   refine aCall_intro hF ?_
   simp only[go_sem]
   refine aCall_intro hI1 ?_
   simp only[go_sem]
  |true=>
   rw[hi1] at hI1
   obtain ⟨n1,n2⟩:=hin cons hi1
   cases hi2:inB terms with
   |false=>
    rw[hi2] at hI2
    rw[if_pos (.inr (.inl hi2))] at hres
    subst hres
    rw[encT_zero]
    refine wk (rv:=[.cell 6 31,.tmp 7]) ann14 65 Tryz.func14 ?_
    simp only[go_sem,encT_sz]
    refine aCall_intro hV ?_
    simp only[go_sem,encT_sz]
    refine aCall_intro hF ?_
    simp only[go_sem]
    refine aCall_intro hI1 ?_
    simp only[go_sem]
    refine aCall_intro hI2 ?_
    simp only[go_sem]
   |true=>
    rw[hi2] at hI2
    obtain ⟨n3,n4⟩:=hin terms hi2
    have hgood:=hgood hi1 hi2
    have i1:inB cons≠false:=by rw[hi1];decide
    have i2:inB terms≠false:=by rw[hi2];decide
    -- the heads of both lists
    have tail:∀la lb,(∀x∈la,0≤x∧x≤20000)→(∀x∈lb,0≤x∧x≤20000)→Spec Tryz.prog 51 [pp (encT t)] [] (.tuple [.slice (ints la),.slice (ints lb)]) [] →
      (if inB cons=false∨inB terms=false∨headLt la cons=true∨headLt lb terms=true then (zeroT,(2:Int)) else finT r)=res →
      Spec Tryz.prog 14 [pp (encT t),ii cons,ii terms] [] (.tuple [encT res.1,.int .i64 res.2]) []:=by
     intro la lb hb1 hb2 hF hres
     have hz:(headLt la cons=true∨headLt lb terms=true)→res=(zeroT,2):=fun h=>by rw[if_pos (.inr (.inr h))] at hres;exact hres.symm
     have hn:headLt la cons=false→headLt lb terms=false→res=finT r:=fun h h'=>by
      rw[if_neg (by rintro (e|e|e|e);exact i1 e;exact i2 e;rw[h] at e;cases e;rw[h'] at e;cases e)] at hres
      exact hres.symm
     clear hres
     have n0:decide (((0:Nat):Int)>0)=false:=rfl
     have n1:∀m:Nat,decide (((m+1:Nat):Int)>0)=true:=fun m=>by first | (simp;done) | (simp;omega)
     cases la with
     |nil=>
      cases lb with
      |nil=>
       rw[hn (rfl) (rfl)]
       refine wk (rv:=[.cell 6 31,.tmp 7]) ann14 65 Tryz.func14 ?_
       simp only[go_sem,encT_sz]
       refine aCall_intro hV ?_
       simp only[go_sem,encT_sz]
       refine aCall_intro hF ?_
       simp only[go_sem]
       refine aCall_intro hI1 ?_
       simp only[go_sem]
       refine aCall_intro hI2 ?_
       simp only[go_sem,List.length_map,List.length_nil,List.length_cons,List.map_cons,List.map_nil,n0]
       refine aCall_intro hSh ?_
       simp only[go_sem,encT_sz]
       try (refine ⟨by kernel_rfl,?_⟩;try simp only[go_sem,encT_sz])
       refine aCall_intro hgood ?_
       simp only[go_sem,encT_sz]
       try (refine ⟨by kernel_rfl,?_⟩;try simp only[go_sem,encT_sz])
       refine aCall_intro hFi ?_
       simp only[go_sem,encT_sz]
       try (first|kernel_rfl | (refine ⟨by kernel_rfl,?_⟩;try simp only[go_sem,encT_sz]))
      |cons y q=>
       have hy:=hb2 y (by simp)
       have w2:IntKind.i64.wrap (y+terms)=y+terms:=wrap_id (by omega) (by omega)
       by_cases d2:y+terms<0
       ·rw[hz (.inr (decide_eq_true d2)),encT_zero]
        refine wk (rv:=[.cell 6 31,.tmp 7]) ann14 65 Tryz.func14 ?_
        simp only[go_sem,encT_sz]
        refine aCall_intro hV ?_
        simp only[go_sem,encT_sz]
        refine aCall_intro hF ?_
        simp only[go_sem]
        refine aCall_intro hI1 ?_
        simp only[go_sem]
        refine aCall_intro hI2 ?_
        simp only[go_sem,List.length_map,List.length_nil,List.length_cons,List.map_cons,List.map_nil,n0,n1,w2,decide_eq_true d2]
       ·rw[hn (rfl) (decide_eq_false d2)]
        refine wk (rv:=[.cell 6 31,.tmp 7]) ann14 65 Tryz.func14 ?_
        simp only[go_sem,encT_sz]
        refine aCall_intro hV ?_
        simp only[go_sem,encT_sz]
        refine aCall_intro hF ?_
        simp only[go_sem]
        refine aCall_intro hI1 ?_
        simp only[go_sem]
        refine aCall_intro hI2 ?_
        simp only[go_sem,List.length_map,List.length_nil,List.length_cons,List.map_cons,List.map_nil,n0,n1,w2,decide_eq_false d2]
        refine aCall_intro hSh ?_
        simp only[go_sem,encT_sz]
        try (refine ⟨by kernel_rfl,?_⟩;try simp only[go_sem,encT_sz])
        refine aCall_intro hgood ?_
        simp only[go_sem,encT_sz]
        try (refine ⟨by kernel_rfl,?_⟩;try simp only[go_sem,encT_sz])
        refine aCall_intro hFi ?_
        simp only[go_sem,encT_sz]
        try (first|kernel_rfl | (refine ⟨by kernel_rfl,?_⟩;try simp only[go_sem,encT_sz]))
     |cons x p=>
      have hx:=hb1 x (by simp)
      have w1:IntKind.i64.wrap (x+cons)=x+cons:=wrap_id (by omega) (by omega)
      by_cases d1:x+cons<0
      ·rw[hz (.inl (decide_eq_true d1)),encT_zero]
       refine wk (rv:=[.cell 6 31,.tmp 7]) ann14 65 Tryz.func14 ?_
       simp only[go_sem,encT_sz]
       refine aCall_intro hV ?_
       simp only[go_sem,encT_sz]
       refine aCall_intro hF ?_
       simp only[go_sem]
       refine aCall_intro hI1 ?_
       simp only[go_sem]
       refine aCall_intro hI2 ?_
       simp only[go_sem,List.length_map,List.length_nil,List.length_cons,List.map_cons,List.map_nil,n0,n1,w1,decide_eq_true d1]
      ·cases lb with
       |nil=>
        rw[hn (decide_eq_false d1) (rfl)]
        refine wk (rv:=[.cell 6 31,.tmp 7]) ann14 65 Tryz.func14 ?_
        simp only[go_sem,encT_sz]
        refine aCall_intro hV ?_
        simp only[go_sem,encT_sz]
        refine aCall_intro hF ?_
        simp only[go_sem]
        refine aCall_intro hI1 ?_
        simp only[go_sem]
        refine aCall_intro hI2 ?_
        simp only[go_sem,List.length_map,List.length_nil,List.length_cons,List.map_cons,List.map_nil,n0,n1,w1,decide_eq_false d1]
        refine aCall_intro hSh ?_
        simp only[go_sem,encT_sz]
        try (refine ⟨by kernel_rfl,?_⟩;try simp only[go_sem,encT_sz])
        refine aCall_intro hgood ?_
        simp only[go_sem,encT_sz]
        try (refine ⟨by kernel_rfl,?_⟩;try simp only[go_sem,encT_sz])
        refine aCall_intro hFi ?_
        simp only[go_sem,encT_sz]
        try (first|kernel_rfl | (refine ⟨by kernel_rfl,?_⟩;try simp only[go_sem,encT_sz]))
       |cons y q=>
        have hy:=hb2 y (by simp)
        have w2:IntKind.i64.wrap (y+terms)=y+terms:=wrap_id (by omega) (by omega)
        by_cases d2:y+terms<0
        ·rw[hz (.inr (decide_eq_true d2)),encT_zero]
         refine wk (rv:=[.cell 6 31,.tmp 7]) ann14 65 Tryz.func14 ?_
         simp only[go_sem,encT_sz]
         refine aCall_intro hV ?_
         simp only[go_sem,encT_sz]
         refine aCall_intro hF ?_
         simp only[go_sem]
         refine aCall_intro hI1 ?_
         simp only[go_sem]
         refine aCall_intro hI2 ?_
         simp only[go_sem,List.length_map,List.length_nil,List.length_cons,List.map_cons,List.map_nil,n0,n1,w1,w2,decide_eq_false d1,decide_eq_true d2]
        ·rw[hn (decide_eq_false d1) (decide_eq_false d2)]
         refine wk (rv:=[.cell 6 31,.tmp 7]) ann14 65 Tryz.func14 ?_
         simp only[go_sem,encT_sz]
         refine aCall_intro hV ?_
         simp only[go_sem,encT_sz]
         refine aCall_intro hF ?_
         simp only[go_sem]
         refine aCall_intro hI1 ?_
         simp only[go_sem]
         refine aCall_intro hI2 ?_
         simp only[go_sem,List.length_map,List.length_nil,List.length_cons,List.map_cons,List.map_nil,n0,n1,w1,w2,decide_eq_false d1,decide_eq_false d2]
         refine aCall_intro hSh ?_
         simp only[go_sem,encT_sz]
         try (refine ⟨by kernel_rfl,?_⟩;try simp only[go_sem,encT_sz])
         refine aCall_intro hgood ?_
         simp only[go_sem,encT_sz]
         try (refine ⟨by kernel_rfl,?_⟩;try simp only[go_sem,encT_sz])
         refine aCall_intro hFi ?_
         simp only[go_sem,encT_sz]
         try (first|kernel_rfl | (refine ⟨by kernel_rfl,?_⟩;try simp only[go_sem,encT_sz]))
    exact tail la lb hb1 hb2 hF hres
theorem sameK_0 (k:List KindT):sameK (.mk k) (.mk [])=((k.length:Int)==0):=by
 cases k with
 |nil=>rfl
 |cons x r=>
  rw[sameK,sameKs,List.length_cons]
  exact (beq_eq_false_iff_ne.2 (by omega)).symm
theorem eqL_0 (k:List ByteArray):eqL strEq k []=((k.length:Int)==0):=by
 cases k with
 |nil=>rfl
 |cons x r=>
  rw[eqL,List.length_cons]
  exact (beq_eq_false_iff_ne.2 (by omega)).symm
theorem eqCs_0 (k:List ConT):eqCs k []=((k.length:Int)==0):=by
 cases k with
 |nil=>rfl
 |cons x r=>
  rw[eqCs,List.length_cons]
  exact (beq_eq_false_iff_ne.2 (by omega)).symm
theorem NoCon_spec (c:ConT):Spec Tryz.prog 134 [pp (encC c)] [] (.bool (eqC c zeroC)) []:=by
 obtain ⟨op,n,s,k,names,l⟩:=c
 rw[zeroC,eqC,sameK_0,eqL_0,eqCs_0,strEq]
 refine wk (rv:=[.tmp 2]) ann134 35 Tryz.func134 ?_
 simp only[go_sem,encC_mk,List.length_map]
 repeat' ((first|refine condK_intro (fun _=>?_) (fun _=>?_)|refine guardK_intro (fun _=>?_) (fun _=>?_))<;>simp only[go_sem,List.length_map])
 all_goals (simp_all)
def rarityF (n:Int):Int:=if n=6∨n=11∨n=13∨n=14 then 1 else if n=1∨n=2∨n=3∨n=4∨n=5∨n=7∨n=8∨n=9∨n=10∨n=12 then 2 else 0
theorem rArity_spec (n:Int):Spec Tryz.prog 167 [ii n] [] (.int .i64 (rarityF n)) []:=by
 refine wk (rv:=[.tmp 2]) ann167 20 Tryz.func167 ?_
 simp only[go_sem]
 repeat' ((first|refine condK_intro (fun _=>?_) (fun _=>?_)|refine guardK_intro (fun _=>?_) (fun _=>?_))<;>simp only[go_sem,List.length_map])
 all_goals (simp only[rarityF];simp_all)
def rpartsT (op:Int):Int:=if op=1∨op=2∨op=3∨op=19 then 0 else if op=4∨op=6∨op=7∨op=8∨op=11∨op=12∨op=14∨op=15∨op=16 then 1 else if op=5∨op=9∨op=17 then 2 else -1
theorem rtparts_spec (op:Int):Spec Tryz.prog 132 [ii op] [] (.int .i64 (rpartsT op)) []:=by
 refine wk (rv:=[.tmp 2]) ann132 23 Tryz.func132 ?_
 simp only[go_sem]
 repeat' ((first|refine condK_intro (fun _=>?_) (fun _=>?_)|refine guardK_intro (fun _=>?_) (fun _=>?_))<;>simp only[go_sem,List.length_map])
 all_goals (simp only[rpartsT];simp_all)
theorem rtlabels_spec (l:List ByteArray) (hs:∀x∈l,x.size≤100000000):Spec Tryz.prog 131 [pp (.slice (l.map .str))] [] (.bool (labelsF l)) []:=by
 have hA:=rAscending_spec l
 rw[labelsF]
 generalize ascF l=b2 at hA
 refine wf (rv:=[.tmp 2]) ann131 23 Tryz.func131 fun hfit=>?_
 have hlen:l.length≤9223372036854775807:=by
  simp only[argsFit,SV.pv?,SC.pv?,PV.fit,List.length_map,maxLen_eq] at hfit
  exact hfit.1.1
 clear hfit
 generalize hres:(l.all labelF&&(decide ((l.length:Int)≤1000)&&b2))=res
 simp only[go_sem]
 refine aLoop_list (α:=ByteArray) (β:=Nat) (fun rest b=>⟨[(3,ii b),(0,pp (.slice (l.map .str)))],[],[]⟩)
  (fun rest b=>∃pre,l=pre++rest∧b=pre.length∧(rest.all labelF&&(decide ((l.length:Int)≤1000)&&b2))=res) ?_ ?_ l 0 _ ?_ ⟨[],rfl,rfl,hres⟩
 ·rintro m ⟨pre,g1,g2,g3⟩ K
  simp only[List.append_nil] at g1
  subst g1
  simp only[List.all_nil,Bool.true_and] at g3
  subst g3
  simp only[go_sem,g2,lt_false (Int.le_refl _),List.length_map]
  refine guardK_intro (fun hb=>?_) (fun hb=>?_)
  ·simp only[go_sem]
   refine aCall_intro hA ?_
   simp only[go_sem,hb,Bool.true_and]
  ·have hb':decide ((l.length:Int)≤1000)=false:=by simpa using hb
   simp only[go_sem,hb',Bool.false_and]
 ·rintro x rest m ⟨pre,g1,g2,g3⟩ K hK
  have hx:(l.map PV.str)[m]? = some (.str x):=by simp[g1,g2]
  have hlt:(m:Int)<l.length:=by rw[g1,g2];simp;omega
  have hll:m<l.length:=by rw[g1,g2];simp
  have hL:=rIsLabel_spec x (hs x (by simp[g1]))
  have w4:IntKind.i64.wrap ((m:Int)+1)=((m+1:Nat):Int):=by rw[wrap_id (by omega) (by omega)];simp
  rw[List.all_cons] at g3
  simp only[go_sem,List.length_map,decide_eq_true hlt,Int.toNat_natCast,Int.natCast_nonneg,hx]
  refine aCall_intro hL ?_
  cases hl:labelF x with
  |false=>
   rw[hl,Bool.false_and] at g3
   subst g3
   simp only[go_sem]
  |true=>
   rw[hl,Bool.true_and] at g3
   simp only[go_sem,w4]
   refine hK (m+1) _ ?_ ⟨pre++[x],by simp[g1],by simp[g2],g3⟩
   simp only[go_sem]
 ·simp only[go_sem,Int.natCast_zero]
def numR (op n:Int) (len:Nat):Bool:=if op=1 then decide (n≥0)&&decide (n≤20000) else if op=2 then decide (n≥-4503599627370496)&&decide (n≤4503599627370496) else if op=18 then decide (rarityF n>0)&&((len:Int)==rarityF n) else if op=19 then decide (n≥1)&&decide (n≤1000000) else n==0
theorem rtnumber_spec (op n:Int) (s:ByteArray) (con to:ConT) (k:List KindT) (names:List ByteArray) (l:List TermT):Spec Tryz.prog 129 [pp (encT (.mk op n s con to k names l))] [] (.bool (numR op n l.length)) []:=by
 have hA:=rArity_spec n
 generalize hres:numR op n l.length=res
 rw[numR] at hres
 generalize rarityF n=ar at hA hres
 refine wk (rv:=[.tmp 2]) ann129 53 Tryz.func129 ?_
 simp only[go_sem,encT_mk,List.length_map]
 repeat' ((first|refine condK_intro (fun _=>?_) (fun _=>?_)|refine guardK_intro (fun _=>?_) (fun _=>?_)|refine aCall_intro hA ?_|refine ⟨by kernel_rfl,?_⟩|fail)<;>simp only[go_sem,List.length_map])
 all_goals (clear hA;subst hres;simp_all<;>omega)
theorem rttext_spec (op n:Int) (s:ByteArray) (con to:ConT) (k:List KindT) (names:List ByteArray) (l:List TermT) (h:s.size≤100000000):Spec Tryz.prog 130 [pp (encT (.mk op n s con to k names l))] [] (.bool (textT op s)) []:=by
 have hL:=rIsLabel_spec s h
 generalize hres:textT op s=res
 rw[textT,strEq] at hres
 generalize labelF s=lb at hL hres
 refine wk (rv:=[.tmp 2]) ann130 20 Tryz.func130 ?_
 simp only[go_sem,encT_mk]
 repeat' ((first|refine condK_intro (fun _=>?_) (fun _=>?_)|refine guardK_intro (fun _=>?_) (fun _=>?_)|refine aCall_intro hL ?_)<;>simp only[go_sem,List.length_map])
 all_goals (clear hL;subst hres;simp_all)
def shapeR (op:Int) (names:List ByteArray) (len:Nat):Bool:=
 if op=10 then labelsF names&&((len:Int)==names.length) else
 if op=13 then labelsF names&&(!decide ((names.length:Int)<1)&&((len:Int)==names.length+1)) else
 if op=18 then (names.length:Int)==0 else ((names.length:Int)==0)&&((len:Int)==rpartsT op)
def kindR (op:Int) (k:List KindT):Bool:=if op=6 then kValidF k else (k.length:Int)==0
def nodeR (op n:Int) (s:ByteArray) (con to:ConT) (k:List KindT) (names:List ByteArray) (len:Nat):Bool:=
 !decide (op<1)&&(!decide (op>19)&&(numR op n len&&(textT op s&&(shapeR op names len&&(kindR op k&&(fitsC con (hasConF op)&&fitsC to (op==8)))))))
theorem kValid_nil:kValidF []=true:=by decide +kernel
theorem kindR_eq (op:Int) (k:List KindT):kindR op k=(op==6&&kValidF k||decide (k.length=0)):=by
 have e4:((k.length:Int)==0)=decide (k.length=0):=by rw[Bool.eq_iff_iff];simp
 rw[kindR,e4]
 by_cases h:op=6
 ·have h1:(op==6)=true:=by simp[h]
  rw[if_pos h,h1,Bool.true_and]
  cases k with
  |nil=>rw[kValid_nil];rfl
  |cons x r=>simp
 ·have h1:(op==6)=false:=by simp[h]
  rw[if_neg h,h1,Bool.false_and,Bool.false_or]
theorem labels_names (names:List ByteArray):labelsF names=(!decide (names.length>1000)&&(ascF names&&!names.any (fun s=>!labelF s))):=by
 have a6:names.all labelF=!(names.any fun x=>!labelF x):=by simp[List.all_eq_not_any_not]
 have a5:decide ((names.length:Int)≤1000)=!decide (names.length>1000):=by rw[Bool.eq_iff_iff];simp only[Bool.not_eq_true',decide_eq_true_iff,decide_eq_false_iff_not];omega
 rw[labelsF,a6,a5]
 cases decide (names.length>1000)<;>cases ascF names<;>cases (names.any fun x=>!labelF x)<;>rfl
theorem rarity_eq (n:Int):(rarityF n>0↔1≤n∧n≤14)∧(1≤n→n≤14→rarityF n=arityF n):=by
 rw[rarityF,arityF]
 constructor
 ·(repeat' split)<;>omega
 ·intro h1 h2
  (repeat' split)<;>omega
theorem shape_eq (op n:Int) (names:List ByteArray) (len:Nat) (h1:1≤op) (h2:op≤19):(numR op n len&&shapeR op names len)=(numT op n&&(decide ((len:Int)=partsT op n names.length)&&namesT op names)):=by
 have d1:∀a b:Int,(a==b)=decide (a=b):=fun a b=>by rw[Bool.eq_iff_iff];simp
 by_cases c1:op=10
 ·subst c1
  have p:partsT 10 n names.length=names.length:=by simp[partsT]
  have q:namesT 10 names=labelsF names:=by
   rw[labels_names,namesT,if_neg (by decide)]
   by_cases e:names.length>1000
   ·rw[if_pos (.inr e),decide_eq_true e];rfl
   ·rw[if_neg (by rintro (x|x);exact absurd x.1 (by decide);exact e x),decide_eq_false e];rfl
  rw[p,q,numR,numT,shapeR]
  simp only[Int.reduceEq,if_false,if_true,d1]
  cases decide (n=0)<;>cases labelsF names<;>simp
 ·by_cases c2:op=13
  ·subst c2
   have p:partsT 13 n names.length=names.length+1:=by simp[partsT]
   have q:namesT 13 names=(labelsF names&&!decide ((names.length:Int)<1)):=by
    rw[labels_names,namesT,if_neg (by decide)]
    by_cases e0:names.length=0
    ·rw[if_pos (.inl ⟨rfl,e0⟩),e0];simp
    ·have e0':decide ((names.length:Int)<1)=false:=by simp;omega
     rw[e0']
     by_cases e:names.length>1000
     ·rw[if_pos (.inr e),decide_eq_true e];rfl
     ·rw[if_neg (by rintro (x|x);exact e0 x.2;exact e x),decide_eq_false e];simp
   rw[p,q,numR,numT,shapeR]
   simp only[Int.reduceEq,if_false,if_true,d1]
   cases decide (n=0)<;>cases labelsF names<;>cases decide ((names.length:Int)<1)<;>simp
  ·have q:namesT op names=((names.length:Int)==0):=by
    rw[namesT,if_pos ⟨c1,c2⟩,d1,Bool.eq_iff_iff];simp
   rw[q]
   by_cases c3:op=18
   ·subst c3
    have p:partsT 18 n names.length=arityF n:=by simp[partsT]
    obtain ⟨r1,r2⟩:=rarity_eq n
    rw[p,numR,numT,shapeR]
    simp only[Int.reduceEq,if_false,if_true,d1]
    by_cases e:1≤n∧n≤14
    ·have:=r1.2 e
     rw[r2 e.1 e.2] at this ⊢
     rw[decide_eq_true this,decide_eq_true e.1,decide_eq_true e.2]
     simp
    ·have h0:¬rarityF n>0:=fun h=>e (r1.1 h)
     rw[decide_eq_false h0]
     by_cases e1:1≤n
     ·have:¬n≤14:=fun h=>e ⟨e1,h⟩
      rw[decide_eq_false this];simp
     ·have:¬n≥1:=e1
      rw[decide_eq_false this];simp
   ·have p:partsT op n names.length=rpartsT op:=by
     rw[partsT,rpartsT]
     (repeat' split)<;>omega
    have e:numR op n len=numT op n:=by rw[numR,numT,if_neg c3,if_neg c3]
    rw[p,e,shapeR,if_neg c1,if_neg c2,if_neg c3]
    simp only[d1]
    cases numT op n<;>cases decide ((names.length:Int)=0)<;>simp
theorem node_eq (op n:Int) (s:ByteArray) (con to:ConT) (k:List KindT) (names:List ByteArray) (len:Nat):nodeR op n s con to k names len=nodeT op n s con to k names len:=by
 rw[nodeR,nodeT,kindR_eq]
 have e1:decide (1≤op)=!decide (op<1):=by rw[Bool.eq_iff_iff];simp only[Bool.not_eq_true',decide_eq_true_iff,decide_eq_false_iff_not];omega
 have e2:decide (op≤19)=!decide (op>19):=by rw[Bool.eq_iff_iff];simp only[Bool.not_eq_true',decide_eq_true_iff,decide_eq_false_iff_not];omega
 rw[e1,e2]
 by_cases h1:op<1
 ·rw[decide_eq_true h1];rfl
 ·by_cases h2:op>19
  ·rw[decide_eq_true h2];simp
  ·have:=shape_eq op n names len (by omega) (by omega)
   rw[decide_eq_false h1,decide_eq_false h2]
   generalize numR op n len=a at this ⊢
   generalize shapeR op names len=b at this ⊢
   generalize numT op n=c at this ⊢
   generalize decide ((len:Int)=partsT op n names.length)=d at this ⊢
   generalize namesT op names=e at this ⊢
   generalize textT op s=f
   cases f
   ·simp
   ·have:(a&&b)=(c&&(d&&e)):=this
    simp only[Bool.not_false,Bool.true_and]
    rw[←Bool.and_assoc a b,this]
    cases c<;>cases d<;>cases e<;>rfl
theorem nodeR_in (op n:Int) (s:ByteArray) (con to:ConT) (k:List KindT) (names:List ByteArray) (len:Nat) (d1:decide (op<1)=false) (d2:decide (op>19)=false):nodeR op n s con to k names len =
  (numR op n len&&(textT op s&&(shapeR op names len&&(kindR op k&&(fitsC con (hasConF op)&&fitsC to (op==8)))))):=by rw[nodeR,d1,d2];rfl
theorem ne_of_beq_false {a b:Int}(h:(a==b)=false):¬a=b:=by simpa using h
theorem rtnode_10 (n:Int) (s:ByteArray) (con to:ConT) (k:List KindT) (names:List ByteArray) (l:List TermT) (hs:s.size≤100000000) (hc2:okS con) (ht2:okS to) (hns:∀x∈names,x.size≤100000000) (hnl0:names.length≤100000000):Spec Tryz.prog 92 [pp (encT (.mk 10 n s con to k names l))] [] (.bool (nodeR 10 n s con to k names l.length)) []:=by
 have hN:=rtnumber_spec 10 n s con to k names l
 have hT:=rttext_spec 10 n s con to k names l hs
 have hLb:=rtlabels_spec names hns
 have hP:=rtparts_spec 10
 have hH:=rHasCon_spec 10
 have hK:=rkValid_spec (.mk k)
 have hV1:=rValid_spec con hc2
 have hV2:=rValid_spec to ht2
 have hZ1:=NoCon_spec con
 have hZ2:=NoCon_spec to
 generalize hres:nodeR 10 n s con to k names l.length=res
 rw[nodeR_in 10 n s con to k names l.length (by decide) (by decide),shapeR,kindR,fitsC,fitsC,kValidF] at hres
 rw[show hasConF 10=false from rfl] at hres hH
 simp only[Int.reduceEq,Int.reduceBEq,if_true,if_false,Bool.false_eq_true,↓reduceIte] at hres
 clear hs hc2 ht2 hns
 simp only[encT_mk,encK_mk,encC_cells,ConT.cells] at hN hT hK hV1 hV2 hZ1 hZ2
 generalize numR 10 n l.length=b1 at hN hres
 generalize textT 10 s=b2 at hT hres
 generalize labelsF names=b3 at hLb hres
 generalize rpartsT 10=p at hP hres
 generalize (sizeK (.mk k) 20000 1).isSome=b5 at hK hres
 generalize validF con=b6 at hV1 hres
 generalize validF to=b7 at hV2 hres
 generalize eqC con zeroC=b8 at hZ1 hres
 generalize eqC to zeroC=b9 at hZ2 hres
 refine wk (rv:=[.tmp 2]) ann92 139 Tryz.func92 ?_
 have w1:IntKind.i64.wrap ((names.length:Int)+1)=(names.length:Int)+1:=wrap_id (by omega) (by omega)
 clear hnl0
 generalize hnl:(names.length:Int)=nl at hres w1
 generalize hkl:(k.length:Int)=kl at hres
 generalize hll:(l.length:Int)=ll at hres
 simp only[go_sem,encT_mk,List.length_map,hnl,hkl,hll,w1,Int.reduceBEq,Int.reduceLT,Int.reduceGT,Int.reduceNeg,Int.reduceLE]
 repeat' ((first|refine condK_intro (fun _=>?_) (fun _=>?_)|refine guardK_intro (fun _=>?_) (fun _=>?_)|refine aCall_intro hN ?_|refine aCall_intro hT ?_|refine aCall_intro hLb ?_|refine aCall_intro hP ?_|refine aCall_intro hH ?_|refine aCall_intro hK ?_|refine aCall_intro hV1 ?_|refine aCall_intro hV2 ?_|refine aCall_intro hZ1 ?_|refine aCall_intro hZ2 ?_|refine ⟨by kernel_rfl,?_⟩|fail)<;>simp only[go_sem,List.length_map,hnl,hkl,hll,w1,Int.reduceBEq,Int.reduceLT,Int.reduceGT,Int.reduceNeg,Int.reduceLE])
 all_goals (clear hN hT hLb hP hH hK hV1 hV2 hZ1 hZ2;subst hres;simp_all)
theorem rtnode_13 (n:Int) (s:ByteArray) (con to:ConT) (k:List KindT) (names:List ByteArray) (l:List TermT) (hs:s.size≤100000000) (hc2:okS con) (ht2:okS to) (hns:∀x∈names,x.size≤100000000) (hnl0:names.length≤100000000):Spec Tryz.prog 92 [pp (encT (.mk 13 n s con to k names l))] [] (.bool (nodeR 13 n s con to k names l.length)) []:=by
 have hN:=rtnumber_spec 13 n s con to k names l
 have hT:=rttext_spec 13 n s con to k names l hs
 have hLb:=rtlabels_spec names hns
 have hP:=rtparts_spec 13
 have hH:=rHasCon_spec 13
 have hK:=rkValid_spec (.mk k)
 have hV1:=rValid_spec con hc2
 have hV2:=rValid_spec to ht2
 have hZ1:=NoCon_spec con
 have hZ2:=NoCon_spec to
 generalize hres:nodeR 13 n s con to k names l.length=res
 rw[nodeR_in 13 n s con to k names l.length (by decide) (by decide),shapeR,kindR,fitsC,fitsC,kValidF] at hres
 rw[show hasConF 13=false from rfl] at hres hH
 simp only[Int.reduceEq,Int.reduceBEq,if_true,if_false,Bool.false_eq_true,↓reduceIte] at hres
 clear hs hc2 ht2 hns
 simp only[encT_mk,encK_mk,encC_cells,ConT.cells] at hN hT hK hV1 hV2 hZ1 hZ2
 generalize numR 13 n l.length=b1 at hN hres
 generalize textT 13 s=b2 at hT hres
 generalize labelsF names=b3 at hLb hres
 generalize rpartsT 13=p at hP hres
 generalize (sizeK (.mk k) 20000 1).isSome=b5 at hK hres
 generalize validF con=b6 at hV1 hres
 generalize validF to=b7 at hV2 hres
 generalize eqC con zeroC=b8 at hZ1 hres
 generalize eqC to zeroC=b9 at hZ2 hres
 refine wk (rv:=[.tmp 2]) ann92 139 Tryz.func92 ?_
 have w1:IntKind.i64.wrap ((names.length:Int)+1)=(names.length:Int)+1:=wrap_id (by omega) (by omega)
 clear hnl0
 generalize hnl:(names.length:Int)=nl at hres w1
 generalize hkl:(k.length:Int)=kl at hres
 generalize hll:(l.length:Int)=ll at hres
 simp only[go_sem,encT_mk,List.length_map,hnl,hkl,hll,w1,Int.reduceBEq,Int.reduceLT,Int.reduceGT,Int.reduceNeg,Int.reduceLE]
 repeat' ((first|refine condK_intro (fun _=>?_) (fun _=>?_)|refine guardK_intro (fun _=>?_) (fun _=>?_)|refine aCall_intro hN ?_|refine aCall_intro hT ?_|refine aCall_intro hLb ?_|refine aCall_intro hP ?_|refine aCall_intro hH ?_|refine aCall_intro hK ?_|refine aCall_intro hV1 ?_|refine aCall_intro hV2 ?_|refine aCall_intro hZ1 ?_|refine aCall_intro hZ2 ?_|refine ⟨by kernel_rfl,?_⟩|fail)<;>simp only[go_sem,List.length_map,hnl,hkl,hll,w1,Int.reduceBEq,Int.reduceLT,Int.reduceGT,Int.reduceNeg,Int.reduceLE])
 all_goals (clear hN hT hLb hP hH hK hV1 hV2 hZ1 hZ2;subst hres;simp_all)
theorem rtnode_18 (n:Int) (s:ByteArray) (con to:ConT) (k:List KindT) (names:List ByteArray) (l:List TermT) (hs:s.size≤100000000) (hc2:okS con) (ht2:okS to) (hns:∀x∈names,x.size≤100000000) (hnl0:names.length≤100000000):Spec Tryz.prog 92 [pp (encT (.mk 18 n s con to k names l))] [] (.bool (nodeR 18 n s con to k names l.length)) []:=by
 have hN:=rtnumber_spec 18 n s con to k names l
 have hT:=rttext_spec 18 n s con to k names l hs
 have hLb:=rtlabels_spec names hns
 have hP:=rtparts_spec 18
 have hH:=rHasCon_spec 18
 have hK:=rkValid_spec (.mk k)
 have hV1:=rValid_spec con hc2
 have hV2:=rValid_spec to ht2
 have hZ1:=NoCon_spec con
 have hZ2:=NoCon_spec to
 generalize hres:nodeR 18 n s con to k names l.length=res
 rw[nodeR_in 18 n s con to k names l.length (by decide) (by decide),shapeR,kindR,fitsC,fitsC,kValidF] at hres
 rw[show hasConF 18=false from rfl] at hres hH
 simp only[Int.reduceEq,Int.reduceBEq,if_true,if_false,Bool.false_eq_true,↓reduceIte] at hres
 clear hs hc2 ht2 hns
 simp only[encT_mk,encK_mk,encC_cells,ConT.cells] at hN hT hK hV1 hV2 hZ1 hZ2
 generalize numR 18 n l.length=b1 at hN hres
 generalize textT 18 s=b2 at hT hres
 generalize labelsF names=b3 at hLb hres
 generalize rpartsT 18=p at hP hres
 generalize (sizeK (.mk k) 20000 1).isSome=b5 at hK hres
 generalize validF con=b6 at hV1 hres
 generalize validF to=b7 at hV2 hres
 generalize eqC con zeroC=b8 at hZ1 hres
 generalize eqC to zeroC=b9 at hZ2 hres
 refine wk (rv:=[.tmp 2]) ann92 139 Tryz.func92 ?_
 have w1:IntKind.i64.wrap ((names.length:Int)+1)=(names.length:Int)+1:=wrap_id (by omega) (by omega)
 clear hnl0
 generalize hnl:(names.length:Int)=nl at hres w1
 generalize hkl:(k.length:Int)=kl at hres
 generalize hll:(l.length:Int)=ll at hres
 simp only[go_sem,encT_mk,List.length_map,hnl,hkl,hll,w1,Int.reduceBEq,Int.reduceLT,Int.reduceGT,Int.reduceNeg,Int.reduceLE]
 repeat' ((first|refine condK_intro (fun _=>?_) (fun _=>?_)|refine guardK_intro (fun _=>?_) (fun _=>?_)|refine aCall_intro hN ?_|refine aCall_intro hT ?_|refine aCall_intro hLb ?_|refine aCall_intro hP ?_|refine aCall_intro hH ?_|refine aCall_intro hK ?_|refine aCall_intro hV1 ?_|refine aCall_intro hV2 ?_|refine aCall_intro hZ1 ?_|refine aCall_intro hZ2 ?_|refine ⟨by kernel_rfl,?_⟩|fail)<;>simp only[go_sem,List.length_map,hnl,hkl,hll,w1,Int.reduceBEq,Int.reduceLT,Int.reduceGT,Int.reduceNeg,Int.reduceLE])
 all_goals (clear hN hT hLb hP hH hK hV1 hV2 hZ1 hZ2;subst hres;simp_all)
theorem rtnode_6 (n:Int) (s:ByteArray) (con to:ConT) (k:List KindT) (names:List ByteArray) (l:List TermT) (hs:s.size≤100000000) (hc2:okS con) (ht2:okS to) (hns:∀x∈names,x.size≤100000000) (hnl0:names.length≤100000000):Spec Tryz.prog 92 [pp (encT (.mk 6 n s con to k names l))] [] (.bool (nodeR 6 n s con to k names l.length)) []:=by
 have hN:=rtnumber_spec 6 n s con to k names l
 have hT:=rttext_spec 6 n s con to k names l hs
 have hLb:=rtlabels_spec names hns
 have hP:=rtparts_spec 6
 have hH:=rHasCon_spec 6
 have hK:=rkValid_spec (.mk k)
 have hV1:=rValid_spec con hc2
 have hV2:=rValid_spec to ht2
 have hZ1:=NoCon_spec con
 have hZ2:=NoCon_spec to
 generalize hres:nodeR 6 n s con to k names l.length=res
 rw[nodeR_in 6 n s con to k names l.length (by decide) (by decide),shapeR,kindR,fitsC,fitsC,kValidF] at hres
 rw[show hasConF 6=false from rfl] at hres hH
 simp only[Int.reduceEq,Int.reduceBEq,if_true,if_false,Bool.false_eq_true,↓reduceIte] at hres
 clear hs hc2 ht2 hns
 simp only[encT_mk,encK_mk,encC_cells,ConT.cells] at hN hT hK hV1 hV2 hZ1 hZ2
 generalize numR 6 n l.length=b1 at hN hres
 generalize textT 6 s=b2 at hT hres
 generalize labelsF names=b3 at hLb hres
 generalize rpartsT 6=p at hP hres
 generalize (sizeK (.mk k) 20000 1).isSome=b5 at hK hres
 generalize validF con=b6 at hV1 hres
 generalize validF to=b7 at hV2 hres
 generalize eqC con zeroC=b8 at hZ1 hres
 generalize eqC to zeroC=b9 at hZ2 hres
 refine wk (rv:=[.tmp 2]) ann92 139 Tryz.func92 ?_
 have w1:IntKind.i64.wrap ((names.length:Int)+1)=(names.length:Int)+1:=wrap_id (by omega) (by omega)
 clear hnl0
 generalize hnl:(names.length:Int)=nl at hres w1
 generalize hkl:(k.length:Int)=kl at hres
 generalize hll:(l.length:Int)=ll at hres
 simp only[go_sem,encT_mk,List.length_map,hnl,hkl,hll,w1,Int.reduceBEq,Int.reduceLT,Int.reduceGT,Int.reduceNeg,Int.reduceLE]
 repeat' ((first|refine condK_intro (fun _=>?_) (fun _=>?_)|refine guardK_intro (fun _=>?_) (fun _=>?_)|refine aCall_intro hN ?_|refine aCall_intro hT ?_|refine aCall_intro hLb ?_|refine aCall_intro hP ?_|refine aCall_intro hH ?_|refine aCall_intro hK ?_|refine aCall_intro hV1 ?_|refine aCall_intro hV2 ?_|refine aCall_intro hZ1 ?_|refine aCall_intro hZ2 ?_|refine ⟨by kernel_rfl,?_⟩|fail)<;>simp only[go_sem,List.length_map,hnl,hkl,hll,w1,Int.reduceBEq,Int.reduceLT,Int.reduceGT,Int.reduceNeg,Int.reduceLE])
 all_goals (clear hN hT hLb hP hH hK hV1 hV2 hZ1 hZ2;subst hres;simp_all)
theorem rtnode_8 (n:Int) (s:ByteArray) (con to:ConT) (k:List KindT) (names:List ByteArray) (l:List TermT) (hs:s.size≤100000000) (hc2:okS con) (ht2:okS to) (hns:∀x∈names,x.size≤100000000) (hnl0:names.length≤100000000):Spec Tryz.prog 92 [pp (encT (.mk 8 n s con to k names l))] [] (.bool (nodeR 8 n s con to k names l.length)) []:=by
 have hN:=rtnumber_spec 8 n s con to k names l
 have hT:=rttext_spec 8 n s con to k names l hs
 have hLb:=rtlabels_spec names hns
 have hP:=rtparts_spec 8
 have hH:=rHasCon_spec 8
 have hK:=rkValid_spec (.mk k)
 have hV1:=rValid_spec con hc2
 have hV2:=rValid_spec to ht2
 have hZ1:=NoCon_spec con
 have hZ2:=NoCon_spec to
 generalize hres:nodeR 8 n s con to k names l.length=res
 rw[nodeR_in 8 n s con to k names l.length (by decide) (by decide),shapeR,kindR,fitsC,fitsC,kValidF] at hres
 rw[show hasConF 8=true from rfl] at hres hH
 simp only[Int.reduceEq,Int.reduceBEq,if_true,if_false,Bool.false_eq_true,↓reduceIte] at hres
 clear hs hc2 ht2 hns
 simp only[encT_mk,encK_mk,encC_cells,ConT.cells] at hN hT hK hV1 hV2 hZ1 hZ2
 generalize numR 8 n l.length=b1 at hN hres
 generalize textT 8 s=b2 at hT hres
 generalize labelsF names=b3 at hLb hres
 generalize rpartsT 8=p at hP hres
 generalize (sizeK (.mk k) 20000 1).isSome=b5 at hK hres
 generalize validF con=b6 at hV1 hres
 generalize validF to=b7 at hV2 hres
 generalize eqC con zeroC=b8 at hZ1 hres
 generalize eqC to zeroC=b9 at hZ2 hres
 refine wk (rv:=[.tmp 2]) ann92 139 Tryz.func92 ?_
 have w1:IntKind.i64.wrap ((names.length:Int)+1)=(names.length:Int)+1:=wrap_id (by omega) (by omega)
 clear hnl0
 generalize hnl:(names.length:Int)=nl at hres w1
 generalize hkl:(k.length:Int)=kl at hres
 generalize hll:(l.length:Int)=ll at hres
 simp only[go_sem,encT_mk,List.length_map,hnl,hkl,hll,w1,Int.reduceBEq,Int.reduceLT,Int.reduceGT,Int.reduceNeg,Int.reduceLE]
 repeat' ((first|refine condK_intro (fun _=>?_) (fun _=>?_)|refine guardK_intro (fun _=>?_) (fun _=>?_)|refine aCall_intro hN ?_|refine aCall_intro hT ?_|refine aCall_intro hLb ?_|refine aCall_intro hP ?_|refine aCall_intro hH ?_|refine aCall_intro hK ?_|refine aCall_intro hV1 ?_|refine aCall_intro hV2 ?_|refine aCall_intro hZ1 ?_|refine aCall_intro hZ2 ?_|refine ⟨by kernel_rfl,?_⟩|fail)<;>simp only[go_sem,List.length_map,hnl,hkl,hll,w1,Int.reduceBEq,Int.reduceLT,Int.reduceGT,Int.reduceNeg,Int.reduceLE])
 all_goals (clear hN hT hLb hP hH hK hV1 hV2 hZ1 hZ2;subst hres;simp_all)
theorem rtnode_else (op:Int) (f6:(op==6)=false) (f8:(op==8)=false) (f10:(op==10)=false) (f13:(op==13)=false) (f18:(op==18)=false) (d1:decide (op<1)=false) (d2:decide (op>19)=false) (n:Int) (s:ByteArray) (con to:ConT) (k:List KindT) (names:List ByteArray) (l:List TermT) (hs:s.size≤100000000) (hc2:okS con) (ht2:okS to) (hns:∀x∈names,x.size≤100000000) (hnl0:names.length≤100000000):Spec Tryz.prog 92 [pp (encT (.mk op n s con to k names l))] [] (.bool (nodeR op n s con to k names l.length)) []:=by
 have hN:=rtnumber_spec op n s con to k names l
 have hT:=rttext_spec op n s con to k names l hs
 have hLb:=rtlabels_spec names hns
 have hP:=rtparts_spec op
 have hH:=rHasCon_spec op
 have hK:=rkValid_spec (.mk k)
 have hV1:=rValid_spec con hc2
 have hV2:=rValid_spec to ht2
 have hZ1:=NoCon_spec con
 have hZ2:=NoCon_spec to
 generalize hres:nodeR op n s con to k names l.length=res
 rw[nodeR_in op n s con to k names l.length d1 d2,shapeR,kindR,fitsC,fitsC,kValidF] at hres
 rw[if_neg (ne_of_beq_false f10),if_neg (ne_of_beq_false f13),if_neg (ne_of_beq_false f18),if_neg (ne_of_beq_false f6),f8] at hres
 simp only[Bool.false_eq_true,if_false] at hres
 clear hs hc2 ht2 hns
 simp only[encT_mk,encK_mk,encC_cells,ConT.cells] at hN hT hK hV1 hV2 hZ1 hZ2
 generalize numR op n l.length=b1 at hN hres
 generalize textT op s=b2 at hT hres
 generalize labelsF names=b3 at hLb hres
 generalize rpartsT op=p at hP hres
 generalize (sizeK (.mk k) 20000 1).isSome=b5 at hK hres
 generalize validF con=b6 at hV1 hres
 generalize validF to=b7 at hV2 hres
 generalize eqC con zeroC=b8 at hZ1 hres
 generalize eqC to zeroC=b9 at hZ2 hres
 generalize hasConF op=q at hH hres
 refine wk (rv:=[.tmp 2]) ann92 139 Tryz.func92 ?_
 have w1:IntKind.i64.wrap ((names.length:Int)+1)=(names.length:Int)+1:=wrap_id (by omega) (by omega)
 clear hnl0
 generalize hnl:(names.length:Int)=nl at hres w1
 generalize hkl:(k.length:Int)=kl at hres
 generalize hll:(l.length:Int)=ll at hres
 simp only[go_sem,encT_mk,List.length_map,hnl,hkl,hll,w1,f6,f8,f10,f13,f18,d1,d2,bne]
 repeat' ((first|refine condK_intro (fun _=>?_) (fun _=>?_)|refine guardK_intro (fun _=>?_) (fun _=>?_)|refine aCall_intro hN ?_|refine aCall_intro hT ?_|refine aCall_intro hLb ?_|refine aCall_intro hP ?_|refine aCall_intro hH ?_|refine aCall_intro hK ?_|refine aCall_intro hV1 ?_|refine aCall_intro hV2 ?_|refine aCall_intro hZ1 ?_|refine aCall_intro hZ2 ?_|refine ⟨by kernel_rfl,?_⟩|fail)<;>simp only[go_sem,List.length_map,hnl,hkl,hll,w1,f6,f8,f10,f13,f18,d1,d2,bne])
 all_goals (clear hN hT hLb hP hH hK hV1 hV2 hZ1 hZ2;subst hres;simp_all)
theorem rtnode_out (op n:Int) (s:ByteArray) (con to:ConT) (k:List KindT) (names:List ByteArray) (l:List TermT) (h:op<1∨op>19):Spec Tryz.prog 92 [pp (encT (.mk op n s con to k names l))] [] (.bool (nodeR op n s con to k names l.length)) []:=by
 have hres:nodeR op n s con to k names l.length=false:=by
  rw[nodeR]
  rcases h with h|h
  ·rw[decide_eq_true h];rfl
  ·rw[decide_eq_true h];simp
 rw[hres]
 refine wk (rv:=[.tmp 2]) ann92 139 Tryz.func92 ?_
 simp only[go_sem,encT_mk,List.length_map]
 rcases h with h|h
 ·simp only[go_sem,decide_eq_true h]
 ·have h1:decide (op<1)=false:=decide_eq_false (by omega)
  simp only[go_sem,decide_eq_true h,h1]
theorem rtnode_spec (op n:Int) (s:ByteArray) (con to:ConT) (k:List KindT) (names:List ByteArray) (l:List TermT) (h:okT (.mk op n s con to k names l)):Spec Tryz.prog 92 [pp (encT (.mk op n s con to k names l))] [] (.bool (nodeT op n s con to k names l.length)) []:=by
 simp only[okT] at h
 obtain ⟨hs,⟨_,hc2⟩,⟨_,ht2⟩,hk,hns,hnl,hll,_⟩:=h
 rw[←node_eq]
 by_cases h0:op<1∨op>19
 ·exact rtnode_out op n s con to k names l h0
 ·by_cases h10:op=10
  ·subst h10;exact rtnode_10 n s con to k names l hs hc2 ht2 hns hnl
  ·by_cases h13:op=13
   ·subst h13;exact rtnode_13 n s con to k names l hs hc2 ht2 hns hnl
   ·by_cases h18:op=18
    ·subst h18;exact rtnode_18 n s con to k names l hs hc2 ht2 hns hnl
    ·by_cases h6:op=6
     ·subst h6;exact rtnode_6 n s con to k names l hs hc2 ht2 hns hnl
     ·by_cases h8:op=8
      ·subst h8;exact rtnode_8 n s con to k names l hs hc2 ht2 hns hnl
      ·have f:∀m:Int,op≠m→(op==m)=false:=fun m h=>by simp[h]
       exact rtnode_else op (f 6 h6) (f 8 h8) (f 10 h10) (f 13 h13) (f 18 h18) (decide_eq_false fun h=>h0 (.inl h)) (decide_eq_false fun h=>h0 (.inr h)) n s con to k names l hs hc2 ht2 hns hnl
mutual
theorem cntT_rng:∀(t:TermT) (left depth:Int),okT t→left≤1000000000→-2000000002≤cntT t left depth∧cntT t left depth≤1000000000
 | .mk op n s con to k names l,left,depth,hok,h=>by
  simp only[okT] at hok
  rw[cntT]
  split
  ·omega
  ·rename_i hc
   have h1:¬left<1:=fun e=>hc (.inl e)
   have c1:=hok.2.1.1
   have c2:=hok.2.2.1.1
   exact cntTL_rng l _ depth hok.2.2.2.2.2.2.2 (by split<;>split<;>omega) (by split<;>split<;>omega)
theorem cntTL_rng:∀(l:List TermT) (left depth:Int),okTs l→-2000000002≤left→left≤1000000000→-2000000002≤cntTL l left depth∧cntTL l left depth≤1000000000
 | [],left,depth,_,h1,h2=>by rw[cntTL];omega
 |x::r,left,depth,hok,h1,h2=>by
  simp only[okTs] at hok
  rw[cntTL]
  split
  ·omega
  ·have:=cntT_rng x left (depth - 1) hok.1 h2
   exact cntTL_rng r _ depth hok.2 this.1 this.2
end
theorem cntTL_neg {l:List TermT}{left depth:Int}(h:left<0):cntTL l left depth=left:=by
 cases l with
 |nil=>rw[cntTL]
 |cons x r=>rw[cntTL,if_pos h]
theorem rtcount_spec (t:TermT):okT t→∀left depth:Int,-2000000002≤left→left≤1000000000→0≤depth→depth≤1000→Spec Tryz.prog 49 [pp (encT t),ii left,ii depth] [] (.int .i64 (cntT t left depth)) []:=by
 revert t
 refine TermT.ind1 fun op n s con to k names l ih=>?_
 intro hok left depth h1 h2 h3 h4
 have hN:=rtnode_spec op n s con to k names l hok
 have hH:=rHasCon_spec op
 simp only[okT] at hok
 obtain ⟨_,⟨hc1,_⟩,⟨ht1,_⟩,_,_,_,hll,hokl⟩:=hok
 have hS1:=rSize_spec con hc1
 have hS2:=rSize_spec to ht1
 generalize hres:cntT (.mk op n s con to k names l) left depth=res
 rw[cntT] at hres
 generalize nodeT op n s con to k names l.length=nd at hN hres
 by_cases hout:left<1∨depth<1∨nd=false
 ·rw[if_pos hout] at hres
  subst hres
  refine wk (rv:=[.tmp 6]) ann49 58 Tryz.func49 ?_
  simp only[go_sem,encT_sz]
  repeat' (first | (refine condK_intro (fun _=>?_) (fun _=>?_)<;>simp only[go_sem,encT_sz]) | (refine guardK_intro (fun _=>?_) (fun _=>?_)<;>simp only[go_sem,encT_sz]) | (refine aCall_intro hN ?_;simp only[go_sem]))
  all_goals (exfalso;simp_all<;>omega)
 ·rw[if_neg hout] at hres
  have d1:decide (left<1)=false:=decide_eq_false fun e=>hout (.inl e)
  have d2:decide (depth<1)=false:=decide_eq_false fun e=>hout (.inr (.inl e))
  have d3:nd=true:=by
   cases nd with
   |true=>rfl
   |false=>exact absurd (.inr (.inr rfl)) hout
  subst d3
  have hl1:1≤left:=by have:=of_decide_eq_false d1;omega
  have hd1:1≤depth:=by have:=of_decide_eq_false d2;omega
  clear hout
  have e8:(op=8)↔(op==8)=true:=by simp
  simp only[e8] at hres
  have w0:IntKind.i64.wrap (left - 1)=left - 1:=wrap_id (by omega) (by omega)
  have w1:IntKind.i64.wrap (left - 1 - (sizeF con:Int))=left - 1 - (sizeF con:Int):=wrap_id (by omega) (by omega)
  have w2:IntKind.i64.wrap (left - 1 - (sizeF con:Int) - (sizeF to:Int))=left - 1 - (sizeF con:Int) - (sizeF to:Int):=wrap_id (by omega) (by omega)
  have w3:IntKind.i64.wrap (left - 1 - (sizeF to:Int))=left - 1 - (sizeF to:Int):=wrap_id (by omega) (by omega)
  have w5:IntKind.i64.wrap (depth - 1)=depth - 1:=wrap_id (by omega) (by omega)
  have q8h:(op==8)=true→hasConF op=true:=fun e=>by rw[eq_of_beq e];decide
  simp only[encT_mk,encC_cells,ConT.cells] at hN hS1 hS2
  generalize hasConF op=q at hH hres q8h
  generalize h8:(op==8)=q8 at hres q8h
  obtain ⟨n0,hn0⟩:∃n0:Int,n0=left - 1 - (if q=true then (sizeF con:Int) else 0) - (if q8=true then (sizeF to:Int) else 0):=⟨_,rfl⟩
  rw[←hn0] at hres
  have hcase:(q=true∧q8=true)∨(q=true∧q8=false)∨(q=false∧q8=false):=by
   cases q8
   ·cases q
    ·exact .inr (.inr ⟨rfl,rfl⟩)
    ·exact .inr (.inl ⟨rfl,rfl⟩)
   ·exact .inl ⟨q8h rfl,rfl⟩
  clear e8 q8h
  have r1:-2000000002≤n0:=by rw[hn0];split<;>split<;>omega
  have r2:n0≤1000000000:=by rw[hn0];split<;>split<;>omega
  generalize sizeF con=sc at *
  generalize sizeF to=st at *
  refine wk (rv:=[.tmp 6]) ann49 58 Tryz.func49 ?_
  rcases hcase with ⟨rfl,rfl⟩|⟨rfl,rfl⟩|⟨rfl,rfl⟩
  all_goals
   simp only[Bool.false_eq_true,if_true,if_false,Int.sub_zero] at hn0
   simp only[go_sem,encT_mk,d1,d2]
   refine aCall_intro hN ?_
   simp only[go_sem,w0]
   refine aCall_intro hH ?_
   simp only[go_sem,h8]
   try (refine aCall_intro hS1 ?_;simp only[go_sem,h8,w1])
   try (refine aCall_intro hS2 ?_;simp only[go_sem,h8,w2,w3])
   simp only[←hn0]
   clear hN hH hS1 hS2 h8 w0 w1 w2 w3 hn0 d1 d2
   refine aLoop_list (α:=TermT) (β:=Nat×Int) (fun rest b=>⟨[(7,ii b.1),(2,ii depth),(1,ii b.2),(3,pp (.ep (encT (.mk op n s con to k names l)) 0))],[],[]⟩)
    (fun rest b=>∃pre,l=pre++rest∧b.1=pre.length∧-2000000002≤b.2∧b.2≤1000000000∧cntTL rest b.2 depth=res) ?_ ?_ l (0,n0) _ ?_ ⟨[],rfl,rfl,r1,r2,hres⟩
   ·rintro ⟨m,v⟩ ⟨pre,g1,g2,g3,g4,g5⟩ K
    simp only[List.append_nil] at g1 g2
    subst g1
    rw[cntTL] at g5
    subst g5
    simp only[go_sem,encT_mk,g2,lt_false (Int.le_refl _),List.length_map]
   ·rintro x rest ⟨m,v⟩ ⟨pre,g1,g2,g3,g4,g5⟩ K hK
    simp only at g2 g3 g4 g5
    have hx:(l.map encT)[m]? = some (encT x):=by simp[g1,g2]
    have hlt:(m:Int)<l.length:=by rw[g1,g2];simp;omega
    have hll2:m<l.length:=by rw[g1,g2];simp
    have hm:x∈l:=by simp[g1]
    have w4:IntKind.i64.wrap ((m:Int)+1)=((m+1:Nat):Int):=by rw[wrap_id (by omega) (by omega)];simp
    by_cases hv:v<0
    ·rw[cntTL_neg hv] at g5
     subst g5
     have hv':decide (v≥0)=false:=decide_eq_false (by omega)
     simp only[go_sem,encT_mk,List.length_map,decide_eq_true hlt,hv']
    ·have hv':decide (v≥0)=true:=decide_eq_true (by omega)
     rw[cntTL,if_neg hv] at g5
     have hI:=ih x hm (okTs_mem.1 hokl x hm) v (depth - 1) (by omega) (by omega) (by omega) (by omega)
     have hr:=cntT_rng x v (depth - 1) (okTs_mem.1 hokl x hm) g4
     generalize cntT x v (depth - 1)=y at hI hr g5
     simp only[go_sem,encT_mk,List.length_map,decide_eq_true hlt,hv',Int.toNat_natCast,Int.natCast_nonneg,hx,encT_sz,w5]
     refine aCall_intro hI ?_
     simp only[go_sem,encT_mk,w4]
     refine hK (m+1,y) _ ?_ ⟨pre++[x],by simp[g1],by simp[g2],hr.1,hr.2,g5⟩
     simp only[go_sem,encT_mk]
   ·simp only[go_sem,encT_mk,Int.natCast_zero]
theorem rtValid_spec (t:TermT) (h:okT t):Spec Tryz.prog 12 [pp (encT t)] [] (.bool (validT t)) []:=by
 have hC:=rtcount_spec t h 20000 400 (by decide) (by decide) (by decide) (by decide)
 rw[validT_cnt]
 generalize cntT t 20000 400=r at hC
 refine wk (rv:=[.tmp 2]) ann12 6 Tryz.func12 ?_
 simp only[go_sem,encT_sz]
 refine aCall_intro hC ?_
 simp only[go_sem]
mutual
def sameT:TermT→TermT→Bool
 | .mk op n s con to k names l,.mk op' n' s' con' to' k' names' l'=>op==op'&&(n==n'&&(strEq s s'&&(sameK (.mk k) (.mk k')&&(eqL strEq names names'&&(eqC con con'&&(eqC to to'&&sameTs l l'))))))
def sameTs:List TermT→List TermT→Bool
 | [],[]=>true
 |x::a,y::b=>sameT x y&&sameTs a b
 |_,_=>false
end
theorem sameTs_eq:∀a b,eqL sameT a b=sameTs a b
 | [],[]=>by rw[eqL,sameTs]
 |x::a,y::b=>by rw[eqL,sameTs,sameTs_eq a b]
 | [],_::_=>by rw[eqL,sameTs]<;>simp
 |_::_,[]=>by rw[eqL,sameTs]<;>simp
mutual
theorem sameT_refl:∀t,sameT t t=true
 | .mk op n s con to k names l=>by
  rw[sameT,beq_self_eq_true,beq_self_eq_true,strEq_refl,sameK_refl,eqL_refl strEq strEq_refl,eqC_refl,eqC_refl,sameTs_refl l];rfl
theorem sameTs_refl:∀l,sameTs l l=true
 | []=>by rw[sameTs]
 |x::r=>by rw[sameTs,sameT_refl x,sameTs_refl r];rfl
end
theorem rtSame_spec (a:TermT):∀b,Spec Tryz.prog 20 [pp (encT a),pp (encT b)] [] (.bool (sameT a b)) []:=by
 revert a
 refine TermT.ind1 fun op n0 s con to k names es ih=>?_
 rintro ⟨op',n',s',con',to',k',names',fs⟩
 have hk:=rSameK_spec (.mk k) (.mk k')
 have hn:=rSameS_spec names names'
 have hc:=rSame_spec con con'
 have ht:=rSame_spec to to'
 simp only[encK_mk,encC_cells,ConT.cells] at hk hc ht
 refine wf (rv:=[.tmp 4]) ann20 85 Tryz.func20 fun hfit=>?_
 have hlen:es.length≤9223372036854775807:=by
  simp only[argsFit,SV.pv?,SC.pv?,encT_mk,PV.fit,fitL,List.length_map,maxLen_eq] at hfit
  exact hfit.1.2.2.2.2.2.2.2.2.2.2.2.2.2.2.2.2.2.1.1
 clear hfit
 have h0:(op==op'&&(n0==n'&&(strEq s s'&&(sameK (.mk k) (.mk k')&&(eqL strEq names names'&&(eqC con con'&&(eqC to to'&&eqL sameT es fs)))))))=sameT (.mk op n0 s con to k names es) (.mk op' n' s' con' to' k' names' fs):=by rw[sameT,sameTs_eq]
 generalize sameT (.mk op n0 s con to k names es) (.mk op' n' s' con' to' k' names' fs)=res at h0
 have hle:es.length≠fs.length→eqL sameT es fs=false:=eqL_length sameT es fs
 generalize sameK (.mk k) (.mk k')=b1 at hk h0
 generalize eqL strEq names names'=b2 at hn h0
 generalize eqC con con'=b3 at hc h0
 generalize eqC to to'=b4 at ht h0
 simp only[strEq] at h0
 have hin:es.length=fs.length→(op==op')=true→(n0==n')=true→(s.toList==s'.toList)=true→b1=true→b2=true→b3=true→b4=true→eqL sameT es fs=res:=by
  intro _ e1 e2 e3 e4 e5 e6 e7
  rw[←h0,e1,e2,e3,e4,e5,e6,e7];rfl
 by_cases hl:es.length=fs.length
 case neg=>
  have hb:((es.length:Int) != (fs.length:Int))=true:=by simp;omega
  rw[hle hl] at h0
  simp only[Bool.and_false] at h0
  subst h0
  simp only[go_sem,encT_mk,List.length_map,hb]
  repeat' ((first|refine condK_intro (fun _=>?_) (fun _=>?_)|refine guardK_intro (fun _=>?_) (fun _=>?_)|refine aCall_intro hk ?_|refine aCall_intro hn ?_|refine aCall_intro hc ?_|refine aCall_intro ht ?_|refine ⟨by kernel_rfl,?_⟩|fail)<;>simp only[go_sem,List.length_map,hb])
 have hb:((es.length:Int) != (fs.length:Int))=false:=by simp;omega
 simp only[go_sem,encT_mk,List.length_map,hb]
 repeat' ((first|refine condK_intro (fun _=>?_) (fun _=>?_)|refine guardK_intro (fun _=>?_) (fun _=>?_)|refine aCall_intro hk ?_|refine aCall_intro hn ?_|refine aCall_intro hc ?_|refine aCall_intro ht ?_|refine ⟨by kernel_rfl,?_⟩|fail)<;>simp only[go_sem,List.length_map,hb])
 any_goals (clear hk hn hc ht ih hin hle;subst h0;simp_all;done)
 have h1:eqL sameT es fs=res:=by apply hin hl<;>simp_all
 clear hk hn hc ht h0 hle hin hb
 refine aLoop_list (α:=TermT) (β:=List TermT×List TermT×List TermT) (fun rest b=>⟨[(5,ii b.1.length),(3,pp (.ep (encT (.mk op' n' s' con' to' k' names' fs)) 0)),(2,pp (.ep (encT (.mk op n0 s con to k names es)) 0))],[],[]⟩) (fun rest b=>es=b.1++rest∧fs=b.2.1++b.2.2∧b.1.length=b.2.1.length∧eqL sameT rest b.2.2=res) ?_ ?_ es ([],[],fs) _ ?_ ⟨rfl,rfl,rfl,h1⟩
 ·rintro ⟨pre,pre',rest'⟩ ⟨h4,h4',h6,h5⟩ K
  simp only[List.append_nil] at h4 h4' h6
  simp only[go_sem,encT_mk,List.length_map,h4,lt_false (Int.le_refl _)]
  have:rest'=[]:=by
   have:=congrArg List.length h4'
   rw[←hl,h4] at this;simp at this
   exact List.eq_nil_of_length_eq_zero (by omega)
  rw[this] at h5
  simp only[eqL] at h5
  rw[h5]
 ·rintro x rest ⟨pre,pre',rest'⟩ ⟨h4,h4',h6,h5⟩ K hK
  simp only at h4 h4' h6 h5
  cases rest' with
  |nil=>
   exfalso
   have h7:=congrArg List.length h4'
   have h8:=congrArg List.length h4
   simp at h7 h8;omega
  |cons y rest'=>
   have hx:(es.map encT)[pre.length]? = some (encT x):=by simp[h4]
   have hy:(fs.map encT)[pre.length]? = some (encT y):=by simp[h4',h6]
   have hlt:(pre.length:Int)<es.length:=by rw[h4];simp;omega
   have hm:x∈es:=by simp[h4]
   simp only[go_sem,encT_mk,List.length_map,decide_eq_true hlt,Int.toNat_natCast,Int.natCast_nonneg,hx,hy,encT_sz]
   refine aCall_intro (ih x hm y) ?_
   simp only[go_sem,encT_mk]
   refine condK_intro (fun hb=>?_) (fun hb=>?_)
   ·have hb':sameT x y=false:=by simpa using hb
    simp only[eqL,hb',Bool.false_and] at h5
    subst h5
    simp only[go_sem,encT_mk]
   ·have hb':sameT x y=true:=by simpa using hb
    have w4:IntKind.i64.wrap ((pre.length:Int)+1)=((pre++[x]).length:Int):=by rw[wrap_id (by omega) (by omega)];simp
    simp only[eqL,hb',Bool.true_and] at h5
    simp only[go_sem,encT_mk,w4]
    refine hK (pre++[x],pre'++[y],rest') _ ?_ ⟨by simp[h4],by simp[h4'],by simp[h6],h5⟩
    simp only[go_sem,encT_mk]
 ·simp only[go_sem,encT_mk,List.length_nil,Int.natCast_zero]
/-! The law's own -/
def sameCf (c:ConT) (_uc _ut:Int):ConT×Int:=shiftF c 0 0
def subVf (by':TermT) (n uc ut:Int):TermT×Int:=if n=ut then shT uc ut by' else (varT (if n>ut then n - 1 else n),0)
def SubstT (t by':TermT):TermT×Int:=if validT t=false∨validT by'=false then (zeroT,1) else finT (chT sameCf (subVf by') t 0 0)
def capT (t:TermT):PV:=.ep (encT t) 0
theorem subst1_spec (c:ConT) (uc ut:Int) (h1:sizeF c≤1000000000) (h2:okS c):Spec Tryz.prog 56 (pp (encC c)::pp (uEnc uc ut)::([]:List PV).map pp) [] (.tuple [encC (sameCf c uc ut).1,.int .i64 (sameCf c uc ut).2]) []:=by
 have hS:=Shift_specV c 0 0 h1 h2
 rw[sameCf]
 generalize shiftF c 0 0=r at hS
 refine wk (rv:=[.cell 4 28,.tmp 5]) ann56 10 Tryz.func56 ?_
 simp only[go_sem,encC_sz,List.map_nil]
 refine aCall_intro hS ?_
 simp only[go_sem,encC_sz]
theorem subst2_spec (by':TermT) (hwf:wfT by'=true) (hok:okT by') (hd:depthT by'≤1000) (n uc ut:Int) (h1:0≤n) (h2:n≤20000) (h3:0≤ut) (h4:ut≤1000000) :
  Spec Tryz.prog 58 (ii n::pp (uEnc uc ut)::[capT by'].map pp) [] (.tuple [encT (subVf by' n uc ut).1,.int .i64 (subVf by' n uc ut).2]) []:=by
 have hC:=change_shiftV uc ut (by omega) (by omega) by' hwf hok hd
 have hSh:=shifting_spec uc ut
 rw[subVf]
 by_cases e:n=ut
 ·subst e
  rw[if_pos rfl,shT]
  generalize chT (shCf uc) (shVf n) by' 0 0=r at hC
  refine wk (rv:=[.cell 5 31,.tmp 6]) ann58 31 Tryz.func58 ?_
  simp only[go_sem,capT,List.map_cons,List.map_nil,encT_sz,beq_self_eq_true]
  refine aCall_intro hSh ?_
  simp only[go_sem,encT_sz]
  try (refine ⟨by kernel_rfl,?_⟩;try simp only[go_sem,encT_sz])
  refine aCall_intro hC ?_
  simp only[go_sem,encT_sz]
 ·have e':(n==ut)=false:=by simp[e]
  have w1:IntKind.i64.wrap (n - 1)=n - 1:=wrap_id (by omega) (by omega)
  rw[if_neg e,encT_var]
  by_cases g:n>ut
  ·rw[if_pos g]
   refine wk (rv:=[.cell 5 31,.tmp 6]) ann58 31 Tryz.func58 ?_
   simp only[go_sem,capT,List.map_cons,List.map_nil,encT_sz,e',decide_eq_true g,w1]
  ·rw[if_neg g]
   refine wk (rv:=[.cell 5 31,.tmp 6]) ann58 31 Tryz.func58 ?_
   simp only[go_sem,capT,List.map_cons,List.map_nil,encT_sz,e',decide_eq_false g]
theorem subVf_ok (by':TermT) (h1:okT by') (h2:wfT by'=true) (n uc ut:Int):okT (subVf by' n uc ut).1:=by
 rw[subVf]
 split
 ·exact shT_okV uc ut by' 0 0 h1 h2
 ·exact okT_var _
theorem subT_okV (t by':TermT) (h1:okT t) (h2:wfT t=true) (h3:okT by') (h4:wfT by'=true):okT (chT sameCf (subVf by') t 0 0).1:=
 chT_okW _ _ (fun c _ _ _ h=>shiftF_ok c 0 0 h) (fun n uc ut=>subVf_ok by' h3 h4 n uc ut) t 0 0 h1 h2
theorem tSubst_specV (t by':TermT) (hok:okT t) (hok':okT by'):Spec Tryz.prog 17 [pp (encT t),pp (encT by')] [] (.tuple [encT (SubstT t by').1,.int .i64 (SubstT t by').2]) []:=by
 have hV:=tValid_spec t hok
 have hV':=tValid_spec by' hok'
 rw[SubstT]
 cases hv:validT t with
 |false=>
  rw[hv] at hV
  rw[if_pos (.inl rfl),encT_zero]
  refine wk (rv:=[.cell 4 31,.tmp 5]) ann17 27 Tryz.func17 ?_
  simp only[go_sem,encT_sz]
  refine aCall_intro hV ?_
  simp only[go_sem]
 |true=>
  rw[hv] at hV
  cases hv':validT by' with
  |false=>
   rw[hv'] at hV'
   rw[if_pos (.inr rfl),encT_zero]
   refine wk (rv:=[.cell 4 31,.tmp 5]) ann17 27 Tryz.func17 ?_
   simp only[go_sem,encT_sz]
   refine aCall_intro hV ?_
   simp only[go_sem,encT_sz]
   refine aCall_intro hV' ?_
   simp only[go_sem]
  |true=>
   rw[hv'] at hV'
   obtain ⟨hwf,hd⟩:=valid_wf hv
   obtain ⟨hwf',hd'⟩:=valid_wf hv'
   rw[if_neg (by rintro (e|e)<;>cases e)]
   have hC:=change_spec 56 58 [] [capT by'] sameCf (subVf by') (fun c uc ut g2 _ _ g5=>subst1_spec c uc ut (sizeF_or g5) g2) (fun n uc ut g1 g2 _ _ g3 g4=>subst2_spec by' hwf' hok' (by omega) n uc ut g1 g2 g3 g4) t 0 0 hwf hok (by decide) (by omega) (by decide) (by omega)
   have hFi:=finish_spec (chT sameCf (subVf by') t 0 0) (subT_okV t by' hok hwf hok' hwf')
   generalize chT sameCf (subVf by') t 0 0=r at hC hFi
   simp only[capT] at hC
   refine wk (rv:=[.cell 4 31,.tmp 5]) ann17 27 Tryz.func17 ?_
   simp only[go_sem,encT_sz]
   refine aCall_intro hV ?_
   simp only[go_sem,encT_sz]
   refine aCall_intro hV' ?_
   simp only[go_sem,encT_sz]
   try (refine ⟨by kernel_rfl,?_⟩;try simp only[go_sem,encT_sz])
   refine aCall_intro hC ?_
   simp only[go_sem,encT_sz]
   try (refine ⟨by kernel_rfl,?_⟩;try simp only[go_sem,encT_sz])
   refine aCall_intro hFi ?_
   simp only[go_sem,encT_sz]
   try (first|kernel_rfl | (refine ⟨by kernel_rfl,?_⟩;try simp only[go_sem,encT_sz]))
def FreeT (t:TermT):List Int×List Int×Int:=if validT t=true then (sortU (consF t 0),sortU (termsF t 0),0) else ([],[],1)
theorem tFreeX_spec (t:TermT) (hok:okT t) (hwc:wcT t):Spec Tryz.prog 13 [pp (encT t)] [] (.tuple [.slice (ints (FreeT t).1),.slice (ints (FreeT t).2.1),.int .i64 (FreeT t).2.2]) []:=by
 have hV:=tValid_spec t hok
 rw[FreeT]
 cases hv:validT t with
 |false=>
  rw[hv] at hV
  rw[if_neg (by decide)]
  refine wk (rv:=[.tmp 2,.tmp 3,.tmp 4]) ann13 15 Tryz.func13 ?_
  simp only[go_sem,encT_sz]
  refine aCall_intro hV ?_
  simp only[go_sem]
  try rfl
 |true=>
  rw[hv] at hV
  obtain ⟨hwf,hd⟩:=valid_wf hv
  have hwt:=valid_wt hv
  have hl1:=consF_len t 0
  have hl2:=termsF_len t 0
  have hF:=free_spec t hwf hok hwc (by omega) (by omega) (by omega)
  rw[if_pos rfl]
  generalize sortU (consF t 0)=la at hF
  generalize sortU (termsF t 0)=lb at hF
  refine wk (rv:=[.tmp 2,.tmp 3,.tmp 4]) ann13 15 Tryz.func13 ?_
  simp only[go_sem,encT_sz]
  refine aCall_intro hV ?_
  simp only[go_sem,encT_sz]
  refine aCall_intro hF ?_
  simp only[go_sem]
theorem rsh0 {c:ConT}(h:formedF c=true) (f:Int):rShiftF c 0 f=c:=by
 rw[←shift_eq 0 f c 0 f h (by rw[Int.add_zero])]
 refine map_id (fun x b hx hf=>?_) c 0 h
 rw[shiftLeaf]
 split
 ·rename_i e
  rw[Int.add_zero]
  exact var_formed e.1 hf
 ·exact leafC_formed hx hf
theorem csh0 {c:ConT}(h:eqC c zeroC=true∨validF c=true) (f:Int):cshR c 0 f=c:=by
 rw[cshR]
 rcases h with h|h
 ·rw[if_pos h]
 ·split
  ·rfl
  ·exact rsh0 (validF_formed h) f
theorem fits_or {c:ConT}{b:Bool}(h:fitsC c b=true):eqC c zeroC=true∨validF c=true:=by
 rw[fitsC] at h
 split at h
 ·exact .inr h
 ·exact .inl h
mutual
theorem rshT_id:∀(t:TermT) (uc ut:Int),wfT t=true→rshT 0 0 t uc ut=t
 | .mk op n s con to k names l,uc,ut,h=>by
  rw[wfT,Bool.and_eq_true] at h
  obtain ⟨hn,hl⟩:=h
  obtain ⟨_,_,_,_,_,_,_,h1,h2⟩:=node_op hn
  rw[rshT,csh0 (fits_or h1),csh0 (fits_or h2),rshL_id op l 0 uc ut hl,Int.add_zero,ite_self]
theorem rshL_id (op:Int):∀(l:List TermT) (i:Nat) (uc ut:Int),wfL l=true→rshL 0 0 op l i uc ut=l
 | [],i,uc,ut,h=>by rw[rshL]
 |x::r,i,uc,ut,h=>by
  rw[wfL,Bool.and_eq_true] at h
  rw[rshL,rshT_id x _ _ h.1,rshL_id op r (i+1) uc ut h.2]
end
theorem consF_n0 (t:TermT) (uc:Int) (h:0≤uc):∀i∈consF t uc,i+0≥0:=fun i hi=>by have:=consF_n t uc h i hi;omega
theorem sh0 {t:TermT}(h:wfT t=true):shT 0 0 t=(t,0):=by
 have h1:=sh_eq 0 0 (by decide) (by decide) t 0 0 h (Int.le_refl _) (consF_n0 t 0 (Int.le_refl _))
 rw[shT]
 have h2:(chT (shCf 0) (shVf 0) t 0 0).2=0:=by
  cases Int.decEq (chT (shCf 0) (shVf 0) t 0 0).2 0 with
  |isTrue e=>exact e
  |isFalse e=>
   have:=h1.2 e
   rw[rshT_id t 0 0 h,h] at this
   cases this
 have h3:=h1.1 h2
 rw[rshT_id t 0 0 h] at h3
 exact Prod.ext h3 h2
theorem shc0 {c:ConT}(h:validF c=true):shiftF c 0 0=(c,0):=by
 rw[shift_ok h (Int.le_refl _) (by decide) (by decide) (fun i hi=>by
  obtain ⟨n,h1,h2,rfl⟩:=mem_above.1 hi
  omega),rsh0 (validF_formed h),if_pos h]
theorem fin_kept0 (t:TermT):finT (t,0)=keptT t:=by
 rw[finT,keptT]
 cases validT t
 ·rw[if_pos (.inr rfl),if_neg (by decide)]
 ·rw[if_neg (by rintro (e|e);exact e rfl;cases e),if_pos rfl]
end Go.Abs.Kon