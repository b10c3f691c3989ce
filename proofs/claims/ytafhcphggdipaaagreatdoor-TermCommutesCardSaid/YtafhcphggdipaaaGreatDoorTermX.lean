/- The reference's Valid at constructors of any size; well-formed terms are not great. -/
import Derived.Test.YtafhcphggdipaaaGreatDoorKonD
import Derived.Test.YtafhcphggdipaaaGreatDoorKonC
import Derived.Test.YtafhcphggdipaaaGreatDoorTermD
import Derived.Test.YtafhcphggdipaaaGreatDoorStepA
set_option linter.unusedSimpArgs false
set_option linter.unusedVariables false
namespace Go.Abs.Kon
open Go Go.Proofs Go.Abs
set_option maxRecDepth 100000
set_option maxHeartbeats 4000000
mutual
def okSL:ConT→Prop
 | .mk _ _ _ _ names l=>(∀x∈names,x.size≤9223372036854775807)∧okSLs l
def okSLs:List ConT→Prop
 | []=>True
 |x::r=>okSL x∧okSLs r
end
theorem okSLs_mem:∀{l:List ConT}{x:ConT},okSLs l→x∈l→okSL x
 | [],x,_,hx=>by simp at hx
 |y::r,x,h,hx=>by
   simp only[okSLs] at h
   rcases List.mem_cons.1 hx with rfl|hx
   · exact h.1
   · exact okSLs_mem h.2 hx
theorem okSLs_of:∀{l:List ConT},(∀x∈l,okSL x)→okSLs l
 | [],_=>trivial
 |x::r,h=>by simp only[okSLs];exact ⟨h x (by simp),okSLs_of fun y hy=>h y (by simp[hy])⟩
theorem ConstName_specL (s:ByteArray):Spec Tryz.prog 181 [pp (.str s)] [] (.bool (constF s)) []:=by
 by_cases h:s.size≤48
 · exact ConstName_spec s (by omega)
 · have h0:constF s=false:=by rw[constF,decide_eq_false h];simp
   have d:decide ((s.size:Int)>48)=true:=decide_eq_true (by omega)
   rw[h0]
   refine wk (rv:=[.tmp 2]) ann181 35 Tryz.func181 ?_
   simp only[go_sem,d]
theorem rlabels_specL (l:List ByteArray) (hs:∀x∈l,x.size≤9223372036854775807):Spec Tryz.prog 180 [pp (.slice (l.map .str))] [] (.bool (labelsF l)) []:=by
 refine wf (rv:=[.tmp 2]) ann180 23 Tryz.func180 fun hfit=>?_
 have hlen:l.length≤9223372036854775807:=by
   simp only[argsFit,SV.pv?,SC.pv?,PV.fit,maxLen_eq,List.length_map] at hfit
   exact hfit.1.1
 clear hfit
 generalize h0:labelsF l=res
 rw[labelsF] at h0
 have hA:=rAscending_spec l
 simp only[go_sem]
 refine aLoop_list (α:=ByteArray) (β:=List ByteArray) (fun rest pre=>⟨[(3,ii pre.length),(0,pp (.slice (l.map .str)))],[],[]⟩)
   (fun rest pre=>l=pre++rest∧(rest.all labelF&&(decide ((l.length:Int)≤1000)&&ascF l))=res) ?_ ?_ l [] _ ?_ ⟨rfl,h0⟩
 · rintro pre ⟨h4,h5⟩ K
   rw[List.append_nil] at h4
   subst h4
   rw[List.all_nil,Bool.true_and] at h5
   simp only[go_sem,List.length_map,lt_false (Int.le_refl _)]
   refine guardK_intro (fun hb=>?_) (fun hb=>?_)
   · rw[hb,Bool.true_and] at h5
     simp only[go_sem]
     refine aCall_intro hA ?_
     simp only[go_sem]
     rw[h5]
   · rw[hb] at h5
     simp only[go_sem]
     rw[←h5];rfl
 · rintro x rest pre ⟨h4,h5⟩ K hK
   have hx:(l.map PV.str)[pre.length]? = some (.str x):=by simp[h4]
   have hlt:(pre.length:Int)<l.length:=by rw[h4];simp;omega
   simp only[go_sem,List.length_map,decide_eq_true hlt,Int.toNat_natCast,Int.natCast_nonneg,hx]
   refine aCall_intro (rIsLabel_specL x (hs x (by simp[h4]))) ?_
   simp only[go_sem]
   refine condK_intro (fun hb=>?_) (fun hb=>?_)
   · have hb':labelF x=false:=by simpa using hb
     rw[List.all_cons,hb',Bool.false_and,Bool.false_and] at h5
     subst h5
     simp only[go_sem]
   · have hb':labelF x=true:=by simpa using hb
     have w4:IntKind.i64.wrap ((pre.length:Int)+1)=((pre++[x]).length:Int):=by rw[wrap_id (by omega) (by omega)];simp
     rw[List.all_cons,hb',Bool.true_and] at h5
     simp only[go_sem,w4]
     refine hK (pre++[x]) _ ?_ ⟨by simp[h4],h5⟩
     simp only[go_sem]
 · simp only[go_sem,List.length_nil,Int.natCast_zero]
theorem rnode_specL (op n:Int) (s:ByteArray) (k:List KindT) (names:List ByteArray) (l:List ConT) (hns:∀x∈names,x.size≤9223372036854775807) :
   Spec Tryz.prog 145 [pp (encC (.mk op n s k names l))] [] (.bool (nodeF op n s k names l.length)) []:=by
 have hP:=rparts_spec op
 have hB:=rBinder_spec op
 have hL:=rlabels_specL names hns
 have hK:=rkValid_spec (.mk k)
 have hCo:=ConstName_specL s
 simp only[encK_mk] at hK
 by_cases hr:op<1∨op>13
 · have h0:nodeF op n s k names l.length=false:=by
     rw[nodeF,partsF,if_pos hr,decide_eq_false (by omega)];rfl
   rw[h0]
   refine wf (rv:=[.tmp 2]) ann145 103 Tryz.func145 fun hfit=>?_
   clear hfit hP hB hL hK hCo h0
   simp only[go_sem,encC_mk]
   by_cases h1:op<1
   · simp only[go_sem,decide_eq_true h1]
   · have h2:op>13:=by omega
     simp only[go_sem,decide_eq_false h1,decide_eq_true h2]
 · have hq:∃q1 q3 q2 b lb:Bool,∃p:Int,(op==1)=q1∧(op==3)=q3∧(op==2)=q2∧(op != 2)=!q2∧isBinder op=b∧isLabelled op=lb ∧
       decide (rpartsF op≥0)=!lb∧decide (rpartsF op<0)=lb∧rpartsF op=p∧partsF op names.length=(if lb then (names.length:Int) else p) ∧
       ((q1=true∧q3=false∧q2=false∧b=false∧lb=false)∨(q1=false∧q3=true∧q2=false∧b=false∧lb=false)∨(q1=false∧q3=false∧q2=true∧b=false∧lb=false) ∨
        (q1=false∧q3=false∧q2=false∧b=true∧lb=false)∨(q1=false∧q3=false∧q2=false∧b=false∧lb=true)∨(q1=false∧q3=false∧q2=false∧b=false∧lb=false)):=by
     have hb:isLabelled op=true↔(op=7∨op=8):=by simp[isLabelled]
     have hi:isBinder op=true↔(op=9∨op=10∨op=11∨op=13):=by simp[isBinder];omega
     refine ⟨_,_,_,_,_,_,rfl,rfl,rfl,rfl,rfl,rfl,?_,?_,rfl,?_,?_⟩
     · rw[Bool.eq_iff_iff]
       simp only[decide_eq_true_iff,Bool.not_eq_true',←Bool.not_eq_true,hb,rpartsF,hi]
       (repeat' split)<;>omega
     · rw[Bool.eq_iff_iff]
       simp only[decide_eq_true_iff,hb,rpartsF,hi]
       (repeat' split)<;>omega
     · rw[partsF,if_neg hr,rpartsF]
       simp only[hb,hi]
       (repeat' split)<;>omega
     · simp only[isBinder,isLabelled,beq_iff_eq,beq_eq_false_iff_ne,Bool.or_eq_true,Bool.or_eq_false_iff]
       omega
   obtain ⟨q1,q3,q2,b,lb,p,f1,f3,f2,f2',fb,fl,g1,g2,g3,g4,hq⟩:=hq
   generalize h1:nodeF op n s k names l.length=res
   rw[nodeF,fl,fb,g4] at h1
   have e1:(op=1∨op=3)↔(q1||q3)=true:=by rw[←f1,←f3];simp
   have e2:(op=2)↔q2=true:=by rw[←f2];simp
   have a1:decide (0≤n∧n≤20000)=(!decide (n<0)&&!decide (n>20000)):=by
     rw[Bool.eq_iff_iff];simp only[Bool.and_eq_true,Bool.not_eq_true',decide_eq_true_iff,decide_eq_false_iff_not];omega
   have a2:decide (n=0)=!(n != 0):=by rw[Bool.eq_iff_iff];simp
   have a3:decide (k.length=0)=((k.length:Int)==0):=by
     rw[Bool.eq_iff_iff];simp
   have a4:decide (names.length≠0)=((names.length:Int) != 0):=by
     rw[Bool.eq_iff_iff];simp
   have a5:decide (names.length≤1000)=decide ((names.length:Int)≤1000):=by
     rw[Bool.eq_iff_iff];simp only[decide_eq_true_iff];omega
   have a8:(decide (names.length≤1000)&&(ascF names&&names.all labelF))=labelsF names:=by
     rw[a5,labelsF]
     cases names.all labelF<;>simp[Bool.and_comm]
   have a9:((names.length:Int) != 0)=true∨labelsF names=true:=by
     by_cases h:names.length=0
     · rw[List.eq_nil_of_length_eq_zero h];exact .inr rfl
     · left;rw[bne_iff_ne];omega
   have a10:∀a b:Int,decide (a=b)=!(a != b):=fun a b=>by rw[Bool.eq_iff_iff];simp
   rw[a10 l.length] at h1
   clear a10
   rw[Bool.and_assoc (!_),a8] at h1
   rw[a1,a2,a3,a4] at h1
   clear a1 a2 a3 a4 a5 a8
   simp only[e1,e2] at h1
   rw[fb] at hB
   rw[g3] at hP g1 g2
   generalize labelsF names=lf at hL h1 a9
   have hr1:decide (op<1)=false:=by simp;omega
   have hr2:decide (op>13)=false:=by simp;omega
   refine wf (rv:=[.tmp 2]) ann145 103 Tryz.func145 fun hfit=>?_
   clear hfit e1 e2 fb fl g3 g4 hr hns
   simp only[go_sem,encC_mk,hr1,hr2]
   refine aCall_intro hP ?_
   clear hP
   rcases hq with ⟨rfl,rfl,rfl,rfl,rfl⟩|⟨rfl,rfl,rfl,rfl,rfl⟩|⟨rfl,rfl,rfl,rfl,rfl⟩|⟨rfl,rfl,rfl,rfl,rfl⟩|⟨rfl,rfl,rfl,rfl,rfl⟩|⟨rfl,rfl,rfl,rfl,rfl⟩
   all_goals
     simp only[Bool.not_true,Bool.not_false] at f2' g1
     simp only[go_sem,f1,f2,f3,f2',g1,g2,List.length_map]
   all_goals
     repeat' ((first|refine condK_intro (fun _=>?_) (fun _=>?_)|refine guardK_intro (fun _=>?_) (fun _=>?_)|refine aCall_intro hB ?_|refine aCall_intro hL ?_|refine aCall_intro hK ?_|refine aCall_intro hCo ?_)<;>simp only[go_sem,List.length_map,f1,f2,f3,f2',g1,g2,empty_iff])
   all_goals
     clear hB hL hK hCo f1 f2 f3 f2' g1 g2 hr1 hr2
     subst h1
     try simp only[Bool.not_true,Bool.not_false,Bool.not_eq_true',Bool.not_eq_false'] at *
   all_goals
     generalize ((names.length:Int) != 0)=nz at *
     rcases a9 with a9|a9<;>subst a9
     all_goals first
       |contradiction
       |simp only[*,Bool.true_and,Bool.false_and,Bool.and_false,Bool.and_true,Bool.not_true,Bool.not_false,Bool.or_false,Bool.false_or,Bool.true_or,Bool.false_eq_true,or_false,false_or,or_true,true_or,if_true,if_false]
theorem rall_specL (c:ConT):okSL c→Spec Tryz.prog 112 [pp (encC c)] [] (.bool (formedF c)) []:=by
 revert c
 refine ConT.ind1 fun op n s k names l ih=>?_
 intro hok
 simp only[okSL] at hok
 have hN:=rnode_specL op n s k names l hok.1
 generalize h0:formedF (.mk op n s k names l)=res
 rw[formedF_mk] at h0
 generalize nodeF op n s k names l.length=nd at hN h0
 rw[encC_mk] at hN
 refine wf (rv:=[.tmp 2]) ann112 21 Tryz.func112 fun hfit=>?_
 have hlen:l.length≤9223372036854775807:=by
   simp only[argsFit,SV.pv?,SC.pv?,encC_mk,PV.fit,fitL,List.length_map,maxLen_eq] at hfit
   exact hfit.1.2.2.2.2.2.1.1
 clear hfit
 simp only[go_sem,encC_mk]
 refine aCall_intro hN ?_
 simp only[go_sem]
 refine condK_intro (fun hb=>?_) (fun hb=>?_)
 · have hb':nd=false:=by simpa using hb
   rw[hb'] at h0
   simp only[go_sem]
   rw[←h0];rfl
 · have hb':nd=true:=by simpa using hb
   rw[hb',Bool.true_and] at h0
   simp only[go_sem]
   refine aLoop_list (α:=ConT) (β:=List ConT) (fun rest pre=>⟨[(3,ii pre.length),(1,pp (.ep (rawC op n s k names l) 0))],[],[]⟩)
     (fun rest pre=>l=pre++rest∧rest.all formedF=res) ?_ ?_ l [] _ ?_ ⟨rfl,h0⟩
   · rintro pre ⟨h4,h5⟩ K
     rw[List.append_nil] at h4
     simp only[go_sem,List.length_map,h4,lt_false (Int.le_refl _)]
     rw[←h5];rfl
   · rintro x rest pre ⟨h4,h5⟩ K hK
     have hx:(l.map encC)[pre.length]? = some (encC x):=by simp[h4]
     have hlt:(pre.length:Int)<l.length:=by rw[h4];simp;omega
     have hm:x∈l:=by simp[h4]
     simp only[go_sem,List.length_map,decide_eq_true hlt,Int.toNat_natCast,Int.natCast_nonneg,hx,encC_sz]
     refine aCall_intro (ih x hm (okSLs_mem hok.2 hm)) ?_
     simp only[go_sem]
     refine condK_intro (fun hb=>?_) (fun hb=>?_)
     · have hb':formedF x=false:=by simpa using hb
       rw[List.all_cons,hb',Bool.false_and] at h5
       subst h5
       simp only[go_sem]
     · have hb':formedF x=true:=by simpa using hb
       have w4:IntKind.i64.wrap ((pre.length:Int)+1)=((pre++[x]).length:Int):=by rw[wrap_id (by omega) (by omega)];simp
       rw[List.all_cons,hb',Bool.true_and] at h5
       simp only[go_sem,w4]
       refine hK (pre++[x]) _ ?_ ⟨by simp[h4],h5⟩
       simp only[go_sem]
   · simp only[go_sem,List.length_nil,Int.natCast_zero]
theorem rValid_specL (c:ConT) (h2:okSL c):Spec Tryz.prog 61 [pp (encC c)] [] (.bool (validF c)) []:=by
 have hS:=rSmallC_spec c
 have hF:=rall_specL c h2
 rw[validF,←Bool.and_assoc]
 generalize (decide (sizeF c≤20000)&&decide (depthF c≤400))=a at hS
 refine wk (rv:=[.tmp 2]) ann61 9 Tryz.func61 ?_
 simp only[go_sem,encC_sz]
 refine aCall_intro hS ?_
 simp only[go_sem,encC_sz]
 cases a
 · simp only[go_sem,encC_sz]
 · simp only[go_sem,encC_sz]
   refine aCall_intro hF ?_
   simp only[go_sem]
theorem rValidAll_specL (l:List ConT) (h:∀c∈l,okSL c):Spec Tryz.prog 19 [pp (.slice (l.map encC))] [] (.bool (l.all validF)) []:=by
 refine wf (rv:=[.tmp 2]) ann19 16 Tryz.func19 fun hfit=>?_
 have hlen:l.length≤9223372036854775807:=by
   simp only[argsFit,SV.pv?,SC.pv?,PV.fit,maxLen_eq,List.length_map] at hfit
   exact hfit.1.1
 clear hfit
 generalize h0:l.all validF=res
 simp only[go_sem]
 refine aLoop_list (α:=ConT) (β:=List ConT) (fun rest pre=>⟨[(3,ii pre.length),(0,pp (.slice (l.map encC)))],[],[]⟩)
   (fun rest pre=>l=pre++rest∧rest.all validF=res) ?_ ?_ l [] _ ?_ ⟨rfl,h0⟩
 · rintro pre ⟨h4,h5⟩ K
   rw[List.append_nil] at h4
   simp only[go_sem,List.length_map,h4,lt_false (Int.le_refl _)]
   rw[←h5];rfl
 · rintro x rest pre ⟨h4,h5⟩ K hK
   have hx:(l.map encC)[pre.length]? = some (encC x):=by simp[h4]
   have hlt:(pre.length:Int)<l.length:=by rw[h4];simp;omega
   have hm:x∈l:=by simp[h4]
   simp only[go_sem,List.length_map,decide_eq_true hlt,Int.toNat_natCast,Int.natCast_nonneg,hx,encC_sz]
   refine aCall_intro (rValid_specL x (h x hm)) ?_
   simp only[go_sem]
   refine condK_intro (fun hb=>?_) (fun hb=>?_)
   · have hb':validF x=false:=by simpa using hb
     rw[List.all_cons,hb',Bool.false_and] at h5
     subst h5
     simp only[go_sem]
   · have hb':validF x=true:=by simpa using hb
     have w4:IntKind.i64.wrap ((pre.length:Int)+1)=((pre++[x]).length:Int):=by rw[wrap_id (by omega) (by omega)];simp
     rw[List.all_cons,hb',Bool.true_and] at h5
     simp only[go_sem,w4]
     refine hK (pre++[x]) _ ?_ ⟨by simp[h4],h5⟩
     simp only[go_sem]
 · simp only[go_sem,List.length_nil,Int.natCast_zero]
mutual
def okTL:TermT→Prop
 | .mk _ _ s con to _ names l=>s.size≤9223372036854775807∧okSL con∧okSL to∧(∀x∈names,x.size≤9223372036854775807)∧okTLs l
def okTLs:List TermT→Prop
 | []=>True
 |x::r=>okTL x∧okTLs r
end
theorem okTLs_mem:∀{l:List TermT},okTLs l↔∀x∈l,okTL x
 | []=>by simp[okTLs]
 |x::r=>by simp[okTLs,okTLs_mem (l:=r)]
theorem fits_size {c:ConT}{b:Bool}(h:fitsC c b=true):sizeF c≤20000:=by
 cases b with
 |true=>
   have h:validF c=true:=h
   rw[validF,Bool.and_eq_true,decide_eq_true_eq] at h
   exact h.1
 |false=>
   have h:eqC c zeroC=true:=h
   obtain ⟨op,n,s,k,names,l⟩:=c
   have hl:l=[]:=by
     rw[zeroC,eqC] at h
     simp only[Bool.and_eq_true] at h
     cases l with
     |nil=>rfl
     |cons x r=>simp[eqCs] at h
   rw[hl,sizeF,sizeL];decide
theorem node_sizes {op n:Int}{s:ByteArray}{con to:ConT}{k:List KindT}{names:List ByteArray}{len:Nat}(h:nodeT op n s con to k names len=true):sizeF con≤1000000000∧sizeF to≤1000000000∧(len:Int)≤1002:=by
 simp only[nodeT,Bool.and_eq_true] at h
 have h3:=of_decide_eq_true h.2.2.2.1
 have h4:=partsT_le op n names.length
 have h5:=h.2.2.2.2.2.1
 have h6:names.length≤1000:=by
   rw[namesT] at h5
   split at h5
   · have:=of_decide_eq_true h5;omega
   · split at h5
     · cases h5
     · rename_i g;omega
 have h1:=fits_size h.2.2.2.2.2.2.2.1
 have h2:=fits_size h.2.2.2.2.2.2.2.2
 exact ⟨by omega,by omega,by omega⟩
mutual
theorem cntT_rngL:∀(t:TermT) (left depth:Int),left≤1000000000→-2000000002≤cntT t left depth∧cntT t left depth≤1000000000
 | .mk op n s con to k names l,left,depth,h=>by
   rw[cntT]
   split
   · omega
   · rename_i hc
     have h1:¬left<1:=fun e=>hc (.inl e)
     have h2:nodeT op n s con to k names l.length=true:=by
       cases e:nodeT op n s con to k names l.length with
       |true=>rfl
       |false=>exact absurd (.inr (.inr e)) hc
     obtain ⟨c1,c2,_⟩:=node_sizes h2
     exact cntTL_rngL l _ depth (by split<;>split<;>omega) (by split<;>split<;>omega)
theorem cntTL_rngL:∀(l:List TermT) (left depth:Int),-2000000002≤left→left≤1000000000→-2000000002≤cntTL l left depth∧cntTL l left depth≤1000000000
 | [],left,depth,h1,h2=>by rw[cntTL];omega
 |x::r,left,depth,h1,h2=>by
   rw[cntTL]
   split
   · omega
   · have:=cntT_rngL x left (depth - 1) h2
     exact cntTL_rngL r _ depth this.1 this.2
end
theorem rtlabels_specL (l:List ByteArray) (hs:∀x∈l,x.size≤9223372036854775807):Spec Tryz.prog 131 [pp (.slice (l.map .str))] [] (.bool (labelsF l)) []:=by
 have hA:=rAscending_spec l
 rw[labelsF]
 generalize ascF l=b2 at hA
 refine wf (rv:=[.tmp 2]) ann131 23 Tryz.func131 fun hfit=>?_
 have hlen:l.length≤9223372036854775807:=by
   simp only[argsFit,SV.pv?,SC.pv?,PV.fit,List.length_map,maxLen_eq] at hfit
   exact hfit.1.1
 clear hfit
 generalize hres:(l.all labelF&&(decide ((l.length:Int)≤1000)&&b2))=res
 simp only[go_sem]
 refine aLoop_list (α:=ByteArray) (β:=Nat) (fun rest b=>⟨[(3,ii b),(0,pp (.slice (l.map .str)))],[],[]⟩)
   (fun rest b=>∃pre,l=pre++rest∧b=pre.length∧(rest.all labelF&&(decide ((l.length:Int)≤1000)&&b2))=res) ?_ ?_ l 0 _ ?_ ⟨[],rfl,rfl,hres⟩
 · rintro m ⟨pre,g1,g2,g3⟩ K
   simp only[List.append_nil] at g1
   subst g1
   simp only[List.all_nil,Bool.true_and] at g3
   subst g3
   simp only[go_sem,g2,lt_false (Int.le_refl _),List.length_map]
   refine guardK_intro (fun hb=>?_) (fun hb=>?_)
   · simp only[go_sem]
     refine aCall_intro hA ?_
     simp only[go_sem,hb,Bool.true_and]
   · have hb':decide ((l.length:Int)≤1000)=false:=by simpa using hb
     simp only[go_sem,hb',Bool.false_and]
 · rintro x rest m ⟨pre,g1,g2,g3⟩ K hK
   have hx:(l.map PV.str)[m]? = some (.str x):=by simp[g1,g2]
   have hlt:(m:Int)<l.length:=by rw[g1,g2];simp;omega
   have hll:m<l.length:=by rw[g1,g2];simp
   have hL:=rIsLabel_specL x (hs x (by simp[g1]))
   have w4:IntKind.i64.wrap ((m:Int)+1)=((m+1:Nat):Int):=by rw[wrap_id (by omega) (by omega)];simp
   rw[List.all_cons] at g3
   simp only[go_sem,List.length_map,decide_eq_true hlt,Int.toNat_natCast,Int.natCast_nonneg,hx]
   refine aCall_intro hL ?_
   cases hl:labelF x with
   |false=>
     rw[hl,Bool.false_and] at g3
     subst g3
     simp only[go_sem]
   |true=>
     rw[hl,Bool.true_and] at g3
     simp only[go_sem,w4]
     refine hK (m+1) _ ?_ ⟨pre++[x],by simp[g1],by simp[g2],g3⟩
     simp only[go_sem]
 · simp only[go_sem,Int.natCast_zero]
theorem rttext_specL (op n:Int) (s:ByteArray) (con to:ConT) (k:List KindT) (names:List ByteArray) (l:List TermT) (h:s.size≤9223372036854775807):Spec Tryz.prog 130 [pp (encT (.mk op n s con to k names l))] [] (.bool (textT op s)) []:=by
 have hL:=rIsLabel_specL s h
 generalize hres:textT op s=res
 rw[textT,strEq] at hres
 generalize labelF s=lb at hL hres
 refine wk (rv:=[.tmp 2]) ann130 20 Tryz.func130 ?_
 simp only[go_sem,encT_mk]
 repeat' ((first|refine condK_intro (fun _=>?_) (fun _=>?_)|refine guardK_intro (fun _=>?_) (fun _=>?_)|refine aCall_intro hL ?_)<;>simp only[go_sem,List.length_map])
 all_goals (clear hL;subst hres;simp_all)
theorem rtnode_many (op n:Int) (s:ByteArray) (con to:ConT) (k:List KindT) (names:List ByteArray) (l:List TermT) (hs:s.size≤9223372036854775807) (hc2:okSL con) (ht2:okSL to) (hns:∀x∈names,x.size≤9223372036854775807) (hnl0:1000<names.length) :
   Spec Tryz.prog 92 [pp (encT (.mk op n s con to k names l))] [] (.bool (nodeT op n s con to k names l.length)) []:=by
 have hN:=rtnumber_spec op n s con to k names l
 have hT:=rttext_specL op n s con to k names l hs
 have hLb:=rtlabels_specL names hns
 have hP:=rtparts_spec op
 have hlf:labelsF names=false:=by rw[labelsF,decide_eq_false (by omega)];simp
 have hnt:nodeT op n s con to k names l.length=false:=by
   have:namesT op names=false:=by
     rw[namesT]
     split
     · exact decide_eq_false (by omega)
     · rw[if_pos (.inr (by omega))]
   rw[nodeT,this];simp
 rw[hlf] at hLb
 rw[hnt]
 have hne:((names.length:Int)==0)=false:=by rw[beq_eq_false_iff_ne];omega
 have hnn:((names.length:Int) != 0)=true:=by rw[bne_iff_ne];omega
 simp only[encT_mk] at hN hT
 generalize numR op n l.length=b1 at hN
 generalize textT op s=b2 at hT
 generalize rpartsT op=p at hP
 refine wf (rv:=[.tmp 2]) ann92 139 Tryz.func92 fun hfit=>?_
 clear hfit hs hc2 ht2 hns
 simp only[go_sem,encT_mk,List.length_map,hne,hnn]
 repeat' ((first|refine condK_intro (fun _=>?_) (fun _=>?_)|refine guardK_intro (fun _=>?_) (fun _=>?_)|refine aCall_intro hN ?_|refine aCall_intro hT ?_|refine aCall_intro hLb ?_|refine aCall_intro hP ?_)<;>simp only[go_sem,List.length_map,hne,hnn])
 all_goals (exfalso;simp_all)
theorem rtnode_10L (n:Int) (s:ByteArray) (con to:ConT) (k:List KindT) (names:List ByteArray) (l:List TermT) (hs:s.size≤9223372036854775807) (hc2:okSL con) (ht2:okSL to) (hns:∀x∈names,x.size≤9223372036854775807) (hnl0:names.length≤9223372036854775806):Spec Tryz.prog 92 [pp (encT (.mk 10 n s con to k names l))] [] (.bool (nodeR 10 n s con to k names l.length)) []:=by
 have hN:=rtnumber_spec 10 n s con to k names l
 have hT:=rttext_specL 10 n s con to k names l hs
 have hLb:=rtlabels_specL names hns
 have hP:=rtparts_spec 10
 have hH:=rHasCon_spec 10
 have hK:=rkValid_spec (.mk k)
 have hV1:=rValid_specL con hc2
 have hV2:=rValid_specL to ht2
 have hZ1:=NoCon_spec con
 have hZ2:=NoCon_spec to
 generalize hres:nodeR 10 n s con to k names l.length=res
 rw[nodeR_in 10 n s con to k names l.length (by decide) (by decide),shapeR,kindR,fitsC,fitsC,kValidF] at hres
 rw[show hasConF 10=false from rfl] at hres hH
 simp only[Int.reduceEq,Int.reduceBEq,if_true,if_false,Bool.false_eq_true,↓reduceIte] at hres
 clear hs hc2 ht2 hns
 simp only[encT_mk,encK_mk,encC_cells,ConT.cells] at hN hT hK hV1 hV2 hZ1 hZ2
 generalize numR 10 n l.length=b1 at hN hres
 generalize textT 10 s=b2 at hT hres
 generalize labelsF names=b3 at hLb hres
 generalize rpartsT 10=p at hP hres
 generalize (sizeK (.mk k) 20000 1).isSome=b5 at hK hres
 generalize validF con=b6 at hV1 hres
 generalize validF to=b7 at hV2 hres
 generalize eqC con zeroC=b8 at hZ1 hres
 generalize eqC to zeroC=b9 at hZ2 hres
 refine wk (rv:=[.tmp 2]) ann92 139 Tryz.func92 ?_
 have w1:IntKind.i64.wrap ((names.length:Int)+1)=(names.length:Int)+1:=wrap_id (by omega) (by omega)
 clear hnl0
 generalize hnl:(names.length:Int)=nl at hres w1
 generalize hkl:(k.length:Int)=kl at hres
 generalize hll:(l.length:Int)=ll at hres
 simp only[go_sem,encT_mk,List.length_map,hnl,hkl,hll,w1,Int.reduceBEq,Int.reduceLT,Int.reduceGT,Int.reduceNeg,Int.reduceLE]
 repeat' ((first|refine condK_intro (fun _=>?_) (fun _=>?_)|refine guardK_intro (fun _=>?_) (fun _=>?_)|refine aCall_intro hN ?_|refine aCall_intro hT ?_|refine aCall_intro hLb ?_|refine aCall_intro hP ?_|refine aCall_intro hH ?_|refine aCall_intro hK ?_|refine aCall_intro hV1 ?_|refine aCall_intro hV2 ?_|refine aCall_intro hZ1 ?_|refine aCall_intro hZ2 ?_|refine ⟨by kernel_rfl,?_⟩|fail)<;>simp only[go_sem,List.length_map,hnl,hkl,hll,w1,Int.reduceBEq,Int.reduceLT,Int.reduceGT,Int.reduceNeg,Int.reduceLE])
 all_goals (clear hN hT hLb hP hH hK hV1 hV2 hZ1 hZ2;subst hres;simp_all)
theorem rtnode_13L (n:Int) (s:ByteArray) (con to:ConT) (k:List KindT) (names:List ByteArray) (l:List TermT) (hs:s.size≤9223372036854775807) (hc2:okSL con) (ht2:okSL to) (hns:∀x∈names,x.size≤9223372036854775807) (hnl0:names.length≤9223372036854775806):Spec Tryz.prog 92 [pp (encT (.mk 13 n s con to k names l))] [] (.bool (nodeR 13 n s con to k names l.length)) []:=by
 have hN:=rtnumber_spec 13 n s con to k names l
 have hT:=rttext_specL 13 n s con to k names l hs
 have hLb:=rtlabels_specL names hns
 have hP:=rtparts_spec 13
 have hH:=rHasCon_spec 13
 have hK:=rkValid_spec (.mk k)
 have hV1:=rValid_specL con hc2
 have hV2:=rValid_specL to ht2
 have hZ1:=NoCon_spec con
 have hZ2:=NoCon_spec to
 generalize hres:nodeR 13 n s con to k names l.length=res
 rw[nodeR_in 13 n s con to k names l.length (by decide) (by decide),shapeR,kindR,fitsC,fitsC,kValidF] at hres
 rw[show hasConF 13=false from rfl] at hres hH
 simp only[Int.reduceEq,Int.reduceBEq,if_true,if_false,Bool.false_eq_true,↓reduceIte] at hres
 clear hs hc2 ht2 hns
 simp only[encT_mk,encK_mk,encC_cells,ConT.cells] at hN hT hK hV1 hV2 hZ1 hZ2
 generalize numR 13 n l.length=b1 at hN hres
 generalize textT 13 s=b2 at hT hres
 generalize labelsF names=b3 at hLb hres
 generalize rpartsT 13=p at hP hres
 generalize (sizeK (.mk k) 20000 1).isSome=b5 at hK hres
 generalize validF con=b6 at hV1 hres
 generalize validF to=b7 at hV2 hres
 generalize eqC con zeroC=b8 at hZ1 hres
 generalize eqC to zeroC=b9 at hZ2 hres
 refine wk (rv:=[.tmp 2]) ann92 139 Tryz.func92 ?_
 have w1:IntKind.i64.wrap ((names.length:Int)+1)=(names.length:Int)+1:=wrap_id (by omega) (by omega)
 clear hnl0
 generalize hnl:(names.length:Int)=nl at hres w1
 generalize hkl:(k.length:Int)=kl at hres
 generalize hll:(l.length:Int)=ll at hres
 simp only[go_sem,encT_mk,List.length_map,hnl,hkl,hll,w1,Int.reduceBEq,Int.reduceLT,Int.reduceGT,Int.reduceNeg,Int.reduceLE]
 repeat' ((first|refine condK_intro (fun _=>?_) (fun _=>?_)|refine guardK_intro (fun _=>?_) (fun _=>?_)|refine aCall_intro hN ?_|refine aCall_intro hT ?_|refine aCall_intro hLb ?_|refine aCall_intro hP ?_|refine aCall_intro hH ?_|refine aCall_intro hK ?_|refine aCall_intro hV1 ?_|refine aCall_intro hV2 ?_|refine aCall_intro hZ1 ?_|refine aCall_intro hZ2 ?_|refine ⟨by kernel_rfl,?_⟩|fail)<;>simp only[go_sem,List.length_map,hnl,hkl,hll,w1,Int.reduceBEq,Int.reduceLT,Int.reduceGT,Int.reduceNeg,Int.reduceLE])
 all_goals (clear hN hT hLb hP hH hK hV1 hV2 hZ1 hZ2;subst hres;simp_all)
theorem rtnode_18L (n:Int) (s:ByteArray) (con to:ConT) (k:List KindT) (names:List ByteArray) (l:List TermT) (hs:s.size≤9223372036854775807) (hc2:okSL con) (ht2:okSL to) (hns:∀x∈names,x.size≤9223372036854775807) (hnl0:names.length≤9223372036854775806):Spec Tryz.prog 92 [pp (encT (.mk 18 n s con to k names l))] [] (.bool (nodeR 18 n s con to k names l.length)) []:=by
 have hN:=rtnumber_spec 18 n s con to k names l
 have hT:=rttext_specL 18 n s con to k names l hs
 have hLb:=rtlabels_specL names hns
 have hP:=rtparts_spec 18
 have hH:=rHasCon_spec 18
 have hK:=rkValid_spec (.mk k)
 have hV1:=rValid_specL con hc2
 have hV2:=rValid_specL to ht2
 have hZ1:=NoCon_spec con
 have hZ2:=NoCon_spec to
 generalize hres:nodeR 18 n s con to k names l.length=res
 rw[nodeR_in 18 n s con to k names l.length (by decide) (by decide),shapeR,kindR,fitsC,fitsC,kValidF] at hres
 rw[show hasConF 18=false from rfl] at hres hH
 simp only[Int.reduceEq,Int.reduceBEq,if_true,if_false,Bool.false_eq_true,↓reduceIte] at hres
 clear hs hc2 ht2 hns
 simp only[encT_mk,encK_mk,encC_cells,ConT.cells] at hN hT hK hV1 hV2 hZ1 hZ2
 generalize numR 18 n l.length=b1 at hN hres
 generalize textT 18 s=b2 at hT hres
 generalize labelsF names=b3 at hLb hres
 generalize rpartsT 18=p at hP hres
 generalize (sizeK (.mk k) 20000 1).isSome=b5 at hK hres
 generalize validF con=b6 at hV1 hres
 generalize validF to=b7 at hV2 hres
 generalize eqC con zeroC=b8 at hZ1 hres
 generalize eqC to zeroC=b9 at hZ2 hres
 refine wk (rv:=[.tmp 2]) ann92 139 Tryz.func92 ?_
 have w1:IntKind.i64.wrap ((names.length:Int)+1)=(names.length:Int)+1:=wrap_id (by omega) (by omega)
 clear hnl0
 generalize hnl:(names.length:Int)=nl at hres w1
 generalize hkl:(k.length:Int)=kl at hres
 generalize hll:(l.length:Int)=ll at hres
 simp only[go_sem,encT_mk,List.length_map,hnl,hkl,hll,w1,Int.reduceBEq,Int.reduceLT,Int.reduceGT,Int.reduceNeg,Int.reduceLE]
 repeat' ((first|refine condK_intro (fun _=>?_) (fun _=>?_)|refine guardK_intro (fun _=>?_) (fun _=>?_)|refine aCall_intro hN ?_|refine aCall_intro hT ?_|refine aCall_intro hLb ?_|refine aCall_intro hP ?_|refine aCall_intro hH ?_|refine aCall_intro hK ?_|refine aCall_intro hV1 ?_|refine aCall_intro hV2 ?_|refine aCall_intro hZ1 ?_|refine aCall_intro hZ2 ?_|refine ⟨by kernel_rfl,?_⟩|fail)<;>simp only[go_sem,List.length_map,hnl,hkl,hll,w1,Int.reduceBEq,Int.reduceLT,Int.reduceGT,Int.reduceNeg,Int.reduceLE])
 all_goals (clear hN hT hLb hP hH hK hV1 hV2 hZ1 hZ2;subst hres;simp_all)
theorem rtnode_6L (n:Int) (s:ByteArray) (con to:ConT) (k:List KindT) (names:List ByteArray) (l:List TermT) (hs:s.size≤9223372036854775807) (hc2:okSL con) (ht2:okSL to) (hns:∀x∈names,x.size≤9223372036854775807) (hnl0:names.length≤9223372036854775806):Spec Tryz.prog 92 [pp (encT (.mk 6 n s con to k names l))] [] (.bool (nodeR 6 n s con to k names l.length)) []:=by
 have hN:=rtnumber_spec 6 n s con to k names l
 have hT:=rttext_specL 6 n s con to k names l hs
 have hLb:=rtlabels_specL names hns
 have hP:=rtparts_spec 6
 have hH:=rHasCon_spec 6
 have hK:=rkValid_spec (.mk k)
 have hV1:=rValid_specL con hc2
 have hV2:=rValid_specL to ht2
 have hZ1:=NoCon_spec con
 have hZ2:=NoCon_spec to
 generalize hres:nodeR 6 n s con to k names l.length=res
 rw[nodeR_in 6 n s con to k names l.length (by decide) (by decide),shapeR,kindR,fitsC,fitsC,kValidF] at hres
 rw[show hasConF 6=false from rfl] at hres hH
 simp only[Int.reduceEq,Int.reduceBEq,if_true,if_false,Bool.false_eq_true,↓reduceIte] at hres
 clear hs hc2 ht2 hns
 simp only[encT_mk,encK_mk,encC_cells,ConT.cells] at hN hT hK hV1 hV2 hZ1 hZ2
 generalize numR 6 n l.length=b1 at hN hres
 generalize textT 6 s=b2 at hT hres
 generalize labelsF names=b3 at hLb hres
 generalize rpartsT 6=p at hP hres
 generalize (sizeK (.mk k) 20000 1).isSome=b5 at hK hres
 generalize validF con=b6 at hV1 hres
 generalize validF to=b7 at hV2 hres
 generalize eqC con zeroC=b8 at hZ1 hres
 generalize eqC to zeroC=b9 at hZ2 hres
 refine wk (rv:=[.tmp 2]) ann92 139 Tryz.func92 ?_
 have w1:IntKind.i64.wrap ((names.length:Int)+1)=(names.length:Int)+1:=wrap_id (by omega) (by omega)
 clear hnl0
 generalize hnl:(names.length:Int)=nl at hres w1
 generalize hkl:(k.length:Int)=kl at hres
 generalize hll:(l.length:Int)=ll at hres
 simp only[go_sem,encT_mk,List.length_map,hnl,hkl,hll,w1,Int.reduceBEq,Int.reduceLT,Int.reduceGT,Int.reduceNeg,Int.reduceLE]
 repeat' ((first|refine condK_intro (fun _=>?_) (fun _=>?_)|refine guardK_intro (fun _=>?_) (fun _=>?_)|refine aCall_intro hN ?_|refine aCall_intro hT ?_|refine aCall_intro hLb ?_|refine aCall_intro hP ?_|refine aCall_intro hH ?_|refine aCall_intro hK ?_|refine aCall_intro hV1 ?_|refine aCall_intro hV2 ?_|refine aCall_intro hZ1 ?_|refine aCall_intro hZ2 ?_|refine ⟨by kernel_rfl,?_⟩|fail)<;>simp only[go_sem,List.length_map,hnl,hkl,hll,w1,Int.reduceBEq,Int.reduceLT,Int.reduceGT,Int.reduceNeg,Int.reduceLE])
 all_goals (clear hN hT hLb hP hH hK hV1 hV2 hZ1 hZ2;subst hres;simp_all)
theorem rtnode_8L (n:Int) (s:ByteArray) (con to:ConT) (k:List KindT) (names:List ByteArray) (l:List TermT) (hs:s.size≤9223372036854775807) (hc2:okSL con) (ht2:okSL to) (hns:∀x∈names,x.size≤9223372036854775807) (hnl0:names.length≤9223372036854775806):Spec Tryz.prog 92 [pp (encT (.mk 8 n s con to k names l))] [] (.bool (nodeR 8 n s con to k names l.length)) []:=by
 have hN:=rtnumber_spec 8 n s con to k names l
 have hT:=rttext_specL 8 n s con to k names l hs
 have hLb:=rtlabels_specL names hns
 have hP:=rtparts_spec 8
 have hH:=rHasCon_spec 8
 have hK:=rkValid_spec (.mk k)
 have hV1:=rValid_specL con hc2
 have hV2:=rValid_specL to ht2
 have hZ1:=NoCon_spec con
 have hZ2:=NoCon_spec to
 generalize hres:nodeR 8 n s con to k names l.length=res
 rw[nodeR_in 8 n s con to k names l.length (by decide) (by decide),shapeR,kindR,fitsC,fitsC,kValidF] at hres
 rw[show hasConF 8=true from rfl] at hres hH
 simp only[Int.reduceEq,Int.reduceBEq,if_true,if_false,Bool.false_eq_true,↓reduceIte] at hres
 clear hs hc2 ht2 hns
 simp only[encT_mk,encK_mk,encC_cells,ConT.cells] at hN hT hK hV1 hV2 hZ1 hZ2
 generalize numR 8 n l.length=b1 at hN hres
 generalize textT 8 s=b2 at hT hres
 generalize labelsF names=b3 at hLb hres
 generalize rpartsT 8=p at hP hres
 generalize (sizeK (.mk k) 20000 1).isSome=b5 at hK hres
 generalize validF con=b6 at hV1 hres
 generalize validF to=b7 at hV2 hres
 generalize eqC con zeroC=b8 at hZ1 hres
 generalize eqC to zeroC=b9 at hZ2 hres
 refine wk (rv:=[.tmp 2]) ann92 139 Tryz.func92 ?_
 have w1:IntKind.i64.wrap ((names.length:Int)+1)=(names.length:Int)+1:=wrap_id (by omega) (by omega)
 clear hnl0
 generalize hnl:(names.length:Int)=nl at hres w1
 generalize hkl:(k.length:Int)=kl at hres
 generalize hll:(l.length:Int)=ll at hres
 simp only[go_sem,encT_mk,List.length_map,hnl,hkl,hll,w1,Int.reduceBEq,Int.reduceLT,Int.reduceGT,Int.reduceNeg,Int.reduceLE]
 repeat' ((first|refine condK_intro (fun _=>?_) (fun _=>?_)|refine guardK_intro (fun _=>?_) (fun _=>?_)|refine aCall_intro hN ?_|refine aCall_intro hT ?_|refine aCall_intro hLb ?_|refine aCall_intro hP ?_|refine aCall_intro hH ?_|refine aCall_intro hK ?_|refine aCall_intro hV1 ?_|refine aCall_intro hV2 ?_|refine aCall_intro hZ1 ?_|refine aCall_intro hZ2 ?_|refine ⟨by kernel_rfl,?_⟩|fail)<;>simp only[go_sem,List.length_map,hnl,hkl,hll,w1,Int.reduceBEq,Int.reduceLT,Int.reduceGT,Int.reduceNeg,Int.reduceLE])
 all_goals (clear hN hT hLb hP hH hK hV1 hV2 hZ1 hZ2;subst hres;simp_all)
theorem rtnode_elseL (op:Int) (f6:(op==6)=false) (f8:(op==8)=false) (f10:(op==10)=false) (f13:(op==13)=false) (f18:(op==18)=false) (d1:decide (op<1)=false) (d2:decide (op>19)=false) (n:Int) (s:ByteArray) (con to:ConT) (k:List KindT) (names:List ByteArray) (l:List TermT) (hs:s.size≤9223372036854775807) (hc2:okSL con) (ht2:okSL to) (hns:∀x∈names,x.size≤9223372036854775807) (hnl0:names.length≤9223372036854775806):Spec Tryz.prog 92 [pp (encT (.mk op n s con to k names l))] [] (.bool (nodeR op n s con to k names l.length)) []:=by
 have hN:=rtnumber_spec op n s con to k names l
 have hT:=rttext_specL op n s con to k names l hs
 have hLb:=rtlabels_specL names hns
 have hP:=rtparts_spec op
 have hH:=rHasCon_spec op
 have hK:=rkValid_spec (.mk k)
 have hV1:=rValid_specL con hc2
 have hV2:=rValid_specL to ht2
 have hZ1:=NoCon_spec con
 have hZ2:=NoCon_spec to
 generalize hres:nodeR op n s con to k names l.length=res
 rw[nodeR_in op n s con to k names l.length d1 d2,shapeR,kindR,fitsC,fitsC,kValidF] at hres
 rw[if_neg (ne_of_beq_false f10),if_neg (ne_of_beq_false f13),if_neg (ne_of_beq_false f18),if_neg (ne_of_beq_false f6),f8] at hres
 simp only[Bool.false_eq_true,if_false] at hres
 clear hs hc2 ht2 hns
 simp only[encT_mk,encK_mk,encC_cells,ConT.cells] at hN hT hK hV1 hV2 hZ1 hZ2
 generalize numR op n l.length=b1 at hN hres
 generalize textT op s=b2 at hT hres
 generalize labelsF names=b3 at hLb hres
 generalize rpartsT op=p at hP hres
 generalize (sizeK (.mk k) 20000 1).isSome=b5 at hK hres
 generalize validF con=b6 at hV1 hres
 generalize validF to=b7 at hV2 hres
 generalize eqC con zeroC=b8 at hZ1 hres
 generalize eqC to zeroC=b9 at hZ2 hres
 generalize hasConF op=q at hH hres
 refine wk (rv:=[.tmp 2]) ann92 139 Tryz.func92 ?_
 have w1:IntKind.i64.wrap ((names.length:Int)+1)=(names.length:Int)+1:=wrap_id (by omega) (by omega)
 clear hnl0
 generalize hnl:(names.length:Int)=nl at hres w1
 generalize hkl:(k.length:Int)=kl at hres
 generalize hll:(l.length:Int)=ll at hres
 simp only[go_sem,encT_mk,List.length_map,hnl,hkl,hll,w1,f6,f8,f10,f13,f18,d1,d2,bne]
 repeat' ((first|refine condK_intro (fun _=>?_) (fun _=>?_)|refine guardK_intro (fun _=>?_) (fun _=>?_)|refine aCall_intro hN ?_|refine aCall_intro hT ?_|refine aCall_intro hLb ?_|refine aCall_intro hP ?_|refine aCall_intro hH ?_|refine aCall_intro hK ?_|refine aCall_intro hV1 ?_|refine aCall_intro hV2 ?_|refine aCall_intro hZ1 ?_|refine aCall_intro hZ2 ?_|refine ⟨by kernel_rfl,?_⟩|fail)<;>simp only[go_sem,List.length_map,hnl,hkl,hll,w1,f6,f8,f10,f13,f18,d1,d2,bne])
 all_goals (clear hN hT hLb hP hH hK hV1 hV2 hZ1 hZ2;subst hres;simp_all)
theorem rtnode_specL (op n:Int) (s:ByteArray) (con to:ConT) (k:List KindT) (names:List ByteArray) (l:List TermT) (h:okTL (.mk op n s con to k names l)):Spec Tryz.prog 92 [pp (encT (.mk op n s con to k names l))] [] (.bool (nodeT op n s con to k names l.length)) []:=by
 simp only[okTL] at h
 obtain ⟨hs,hc2,ht2,hns,_⟩:=h
 refine (Decidable.em (names.length≤9223372036854775806)).elim (fun hnl=>?_) fun hnl=>rtnode_many op n s con to k names l hs hc2 ht2 hns (by omega)
 rw[←node_eq]
 by_cases h0:op<1∨op>19
 · exact rtnode_out op n s con to k names l h0
 · by_cases h10:op=10
   · subst h10;exact rtnode_10L n s con to k names l hs hc2 ht2 hns hnl
   · by_cases h13:op=13
     · subst h13;exact rtnode_13L n s con to k names l hs hc2 ht2 hns hnl
     · by_cases h18:op=18
       · subst h18;exact rtnode_18L n s con to k names l hs hc2 ht2 hns hnl
       · by_cases h6:op=6
         · subst h6;exact rtnode_6L n s con to k names l hs hc2 ht2 hns hnl
         · by_cases h8:op=8
           · subst h8;exact rtnode_8L n s con to k names l hs hc2 ht2 hns hnl
           · have f:∀m:Int,op≠m→(op==m)=false:=fun m h=>by simp[h]
             exact rtnode_elseL op (f 6 h6) (f 8 h8) (f 10 h10) (f 13 h13) (f 18 h18) (decide_eq_false fun h=>h0 (.inl h)) (decide_eq_false fun h=>h0 (.inr h)) n s con to k names l hs hc2 ht2 hns hnl
theorem rtcount_specL (t:TermT):okTL t→∀left depth:Int,-2000000002≤left→left≤1000000000→0≤depth→depth≤1000→Spec Tryz.prog 49 [pp (encT t),ii left,ii depth] [] (.int .i64 (cntT t left depth)) []:=by
 revert t
 refine TermT.ind1 fun op n s con to k names l ih=>?_
 intro hok left depth h1 h2 h3 h4
 have hN:=rtnode_specL op n s con to k names l hok
 have hH:=rHasCon_spec op
 simp only[okTL] at hok
 obtain ⟨_,_,_,_,hokl⟩:=hok
 have hsz:=node_sizes (op:=op) (n:=n) (s:=s) (con:=con) (to:=to) (k:=k) (names:=names) (len:=l.length)
 generalize hres:cntT (.mk op n s con to k names l) left depth=res
 rw[cntT] at hres
 generalize nodeT op n s con to k names l.length=nd at hN hres hsz
 by_cases hout:left<1∨depth<1∨nd=false
 · rw[if_pos hout] at hres
   subst hres
   refine wk (rv:=[.tmp 6]) ann49 58 Tryz.func49 ?_
   simp only[go_sem,encT_sz]
   repeat' (first | (refine condK_intro (fun _=>?_) (fun _=>?_)<;>simp only[go_sem,encT_sz]) | (refine guardK_intro (fun _=>?_) (fun _=>?_)<;>simp only[go_sem,encT_sz]) | (refine aCall_intro hN ?_;simp only[go_sem]))
   all_goals (exfalso;simp_all<;>omega)
 · rw[if_neg hout] at hres
   have d1:decide (left<1)=false:=decide_eq_false fun e=>hout (.inl e)
   have d2:decide (depth<1)=false:=decide_eq_false fun e=>hout (.inr (.inl e))
   have d3:nd=true:=by
     cases nd with
     |true=>rfl
     |false=>exact absurd (.inr (.inr rfl)) hout
   subst d3
   obtain ⟨hc1,ht1,hll⟩:=hsz rfl
   have hS1:=rSize_spec con hc1
   have hS2:=rSize_spec to ht1
   have hl1:1≤left:=by have:=of_decide_eq_false d1;omega
   have hd1:1≤depth:=by have:=of_decide_eq_false d2;omega
   clear hout
   have e8:(op=8)↔(op==8)=true:=by simp
   simp only[e8] at hres
   have w0:IntKind.i64.wrap (left - 1)=left - 1:=wrap_id (by omega) (by omega)
   have w1:IntKind.i64.wrap (left - 1 - (sizeF con:Int))=left - 1 - (sizeF con:Int):=wrap_id (by omega) (by omega)
   have w2:IntKind.i64.wrap (left - 1 - (sizeF con:Int) - (sizeF to:Int))=left - 1 - (sizeF con:Int) - (sizeF to:Int):=wrap_id (by omega) (by omega)
   have w3:IntKind.i64.wrap (left - 1 - (sizeF to:Int))=left - 1 - (sizeF to:Int):=wrap_id (by omega) (by omega)
   have w5:IntKind.i64.wrap (depth - 1)=depth - 1:=wrap_id (by omega) (by omega)
   have q8h:(op==8)=true→hasConF op=true:=fun e=>by rw[eq_of_beq e];decide
   simp only[encT_mk,encC_cells,ConT.cells] at hN hS1 hS2
   generalize hasConF op=q at hH hres q8h
   generalize h8:(op==8)=q8 at hres q8h
   obtain ⟨n0,hn0⟩:∃n0:Int,n0=left - 1 - (if q=true then (sizeF con:Int) else 0) - (if q8=true then (sizeF to:Int) else 0):=⟨_,rfl⟩
   rw[←hn0] at hres
   have hcase:(q=true∧q8=true)∨(q=true∧q8=false)∨(q=false∧q8=false):=by
     cases q8
     · cases q
       · exact .inr (.inr ⟨rfl,rfl⟩)
       · exact .inr (.inl ⟨rfl,rfl⟩)
     · exact .inl ⟨q8h rfl,rfl⟩
   clear e8 q8h
   have r1:-2000000002≤n0:=by rw[hn0];split<;>split<;>omega
   have r2:n0≤1000000000:=by rw[hn0];split<;>split<;>omega
   generalize sizeF con=sc at *
   generalize sizeF to=st at *
   refine wk (rv:=[.tmp 6]) ann49 58 Tryz.func49 ?_
   rcases hcase with ⟨rfl,rfl⟩|⟨rfl,rfl⟩|⟨rfl,rfl⟩
   all_goals
     simp only[Bool.false_eq_true,if_true,if_false,Int.sub_zero] at hn0
     simp only[go_sem,encT_mk,d1,d2]
     refine aCall_intro hN ?_
     simp only[go_sem,w0]
     refine aCall_intro hH ?_
     simp only[go_sem,h8]
     try (refine aCall_intro hS1 ?_;simp only[go_sem,h8,w1])
     try (refine aCall_intro hS2 ?_;simp only[go_sem,h8,w2,w3])
     simp only[←hn0]
     clear hN hH hS1 hS2 h8 w0 w1 w2 w3 hn0 d1 d2
     refine aLoop_list (α:=TermT) (β:=Nat×Int) (fun rest b=>⟨[(7,ii b.1),(2,ii depth),(1,ii b.2),(3,pp (.ep (encT (.mk op n s con to k names l)) 0))],[],[]⟩)
       (fun rest b=>∃pre,l=pre++rest∧b.1=pre.length∧-2000000002≤b.2∧b.2≤1000000000∧cntTL rest b.2 depth=res) ?_ ?_ l (0,n0) _ ?_ ⟨[],rfl,rfl,r1,r2,hres⟩
     · rintro ⟨m,v⟩ ⟨pre,g1,g2,g3,g4,g5⟩ K
       simp only[List.append_nil] at g1 g2
       subst g1
       rw[cntTL] at g5
       subst g5
       simp only[go_sem,encT_mk,g2,lt_false (Int.le_refl _),List.length_map]
     · rintro x rest ⟨m,v⟩ ⟨pre,g1,g2,g3,g4,g5⟩ K hK
       simp only at g2 g3 g4 g5
       have hx:(l.map encT)[m]? = some (encT x):=by simp[g1,g2]
       have hlt:(m:Int)<l.length:=by rw[g1,g2];simp;omega
       have hll2:m<l.length:=by rw[g1,g2];simp
       have hm:x∈l:=by simp[g1]
       have w4:IntKind.i64.wrap ((m:Int)+1)=((m+1:Nat):Int):=by rw[wrap_id (by omega) (by omega)];simp
       by_cases hv:v<0
       · rw[cntTL_neg hv] at g5
         subst g5
         have hv':decide (v≥0)=false:=decide_eq_false (by omega)
         simp only[go_sem,encT_mk,List.length_map,decide_eq_true hlt,hv']
       · have hv':decide (v≥0)=true:=decide_eq_true (by omega)
         rw[cntTL,if_neg hv] at g5
         have hI:=ih x hm (okTLs_mem.1 hokl x hm) v (depth - 1) (by omega) (by omega) (by omega) (by omega)
         have hr:=cntT_rngL x v (depth - 1) g4
         generalize cntT x v (depth - 1)=y at hI hr g5
         simp only[go_sem,encT_mk,List.length_map,decide_eq_true hlt,hv',Int.toNat_natCast,Int.natCast_nonneg,hx,encT_sz,w5]
         refine aCall_intro hI ?_
         simp only[go_sem,encT_mk,w4]
         refine hK (m+1,y) _ ?_ ⟨pre++[x],by simp[g1],by simp[g2],hr.1,hr.2,g5⟩
         simp only[go_sem,encT_mk]
     · simp only[go_sem,encT_mk,Int.natCast_zero]
theorem rtValid_specL (t:TermT) (h:okTL t):Spec Tryz.prog 12 [pp (encT t)] [] (.bool (validT t)) []:=by
 have hC:=rtcount_specL t h 20000 400 (by decide) (by decide) (by decide) (by decide)
 rw[validT_cnt]
 generalize cntT t 20000 400=r at hC
 refine wk (rv:=[.tmp 2]) ann12 6 Tryz.func12 ?_
 simp only[go_sem,encT_sz]
 refine aCall_intro hC ?_
 simp only[go_sem]
theorem label_size {s:ByteArray}(h:labelF s=true):s.size≤48:=by
 rw[labelF,Bool.and_eq_true,Bool.and_eq_true] at h
 exact of_decide_eq_true h.1.2
theorem const_size {s:ByteArray}(h:constF s=true):s.size≤48:=by
 rw[constF] at h
 split at h
 · rw[Bool.and_eq_true] at h
   exact of_decide_eq_true h.1
 · cases h
theorem empty_size {s:ByteArray}(h:(bytesOf s).isEmpty=true):s.size=0:=by
 rw[size_bytes s,List.isEmpty_iff.1 h];rfl
theorem strEq_size {s:ByteArray}(h:strEq s ByteArray.empty=true):s.size=0:=by
 rw[strEq,beq_iff_eq,ByteArray.toList_eq,ByteArray.toList_eq] at h
 have:=congrArg List.length h
 simpa using this
theorem okSs_ofC:∀{l:List ConT},(∀x∈l,okS x)→okSs l
 | [],_=>by simp[okSs]
 |x::r,h=>by simp only[okSs];exact ⟨h x (by simp),okSs_ofC fun y hy=>h y (List.mem_cons_of_mem _ hy)⟩
theorem formed_okS:∀c:ConT,formedF c=true→okS c:=by
 refine ConT.ind1 fun op n s k names l ih=>?_
 intro h
 rw[formedF_mk,Bool.and_eq_true] at h
 obtain ⟨h1,h2⟩:=h
 simp only[nodeF,Bool.and_eq_true] at h1
 obtain ⟨_,_,hs,_,_,_,hn⟩:=h1
 simp only[okS]
 refine ⟨?_,fun x hx=>?_,okSs_ofC fun x hx=>ih x hx (List.all_eq_true.1 h2 x hx)⟩
 · split at hs
   · have:=const_size hs;omega
   · have:=empty_size hs;omega
 · have:=label_size (List.all_eq_true.1 hn x hx);omega
theorem zero_okS {c:ConT}(h:eqC c zeroC=true):okS c:=by
 obtain ⟨op,n,s,k,names,l⟩:=c
 rw[zeroC,eqC] at h
 simp only[Bool.and_eq_true] at h
 have hl:l=[]:=by
   cases l with
   |nil=>rfl
   |cons x r=>simp[eqCs] at h
 have hn:names=[]:=by
   cases names with
   |nil=>rfl
   |cons x r=>simp[eqL] at h
 have hs:s.size=0:=by
   have:=h.2.2.1
   first|exact strEq_size this|exact strEq_size (by simpa using this)
 subst hl
 subst hn
 simp only[okS,okSs]
 exact ⟨by omega,fun x hx=>absurd hx (by simp),trivial⟩
theorem fits_okS {c:ConT}{b:Bool}(h:fitsC c b=true):sizeF c≤1000000000∧okS c:=by
 refine ⟨by have:=fits_size h;omega,?_⟩
 cases b with
 |true=>
   have h:validF c=true:=h
   rw[validF,Bool.and_eq_true,Bool.and_eq_true] at h
   exact formed_okS c h.2.2
 |false=>exact zero_okS h
theorem kind_size {k:List KindT}(h:kValidF k=true):knL k≤20001:=by
 rw[kValidF,Option.isSome_iff_exists] at h
 obtain ⟨m,hm⟩:=h
 have h1:=sizeK_kn (.mk k) 20000 1 m hm
 have h2:=sizeK_le (.mk k) 20000 1 m hm
 rw[knF] at h1
 omega
mutual
theorem wf_okT:∀t:TermT,wfT t=true→okT t
 | .mk op n s con to k names l,h=>by
   rw[wfT,Bool.and_eq_true] at h
   obtain ⟨h1,h2⟩:=h
   have hsz:=node_sizes h1
   simp only[nodeT,Bool.and_eq_true] at h1
   obtain ⟨_,_,_,_,ht,hn,hk,hc,hto⟩:=h1
   simp only[okT]
   refine ⟨?_,fits_okS hc,fits_okS hto,?_,?_,?_,by omega,wfL_okT l h2⟩
   · rw[textT] at ht
     split at ht
     · have:=of_decide_eq_true ht;omega
     · split at ht
       · have:=label_size ht;omega
       · have:=strEq_size ht;omega
   · rcases Bool.or_eq_true _ _ ▸ hk with hk|hk
     · rw[Bool.and_eq_true] at hk
       have:=kind_size hk.2
       omega
     · have:k=[]:=List.eq_nil_of_length_eq_zero (of_decide_eq_true hk)
       rw[this,knL];omega
   · intro x hx
     rw[namesT] at hn
     split at hn
     · have:names=[]:=List.eq_nil_of_length_eq_zero (of_decide_eq_true hn)
       rw[this] at hx;simp at hx
     · split at hn
       · cases hn
       · rw[Bool.and_eq_true] at hn
         have h3:names.any (fun s=>!labelF s)=false:=by simpa using hn.2
         have h4:=List.any_eq_false.1 h3 x hx
         have:=label_size (by simpa using h4)
         omega
   · rw[namesT] at hn
     split at hn
     · have:=of_decide_eq_true hn;omega
     · split at hn
       · cases hn
       · rename_i g;omega
theorem wfL_okT:∀l:List TermT,wfL l=true→okTs l
 | [],_=>trivial
 |x::r,h=>by
   rw[wfL,Bool.and_eq_true] at h
   exact ⟨wf_okT x h.1,wfL_okT r h.2⟩
end
theorem valid_okwc {t:TermT}(h:validT t=true):okT t∧wcT t:=⟨wf_okT t (valid_wf h).1,wf_wc t (valid_wf h).1⟩
theorem validF_okwc {c:ConT}(h:validF c=true):wtF c≤900000000∧okS c:=by
 refine ⟨(valid_dw h).2,?_⟩
 rw[validF,Bool.and_eq_true,Bool.and_eq_true] at h
 exact formed_okS c h.2.2
end Go.Abs.Kon
