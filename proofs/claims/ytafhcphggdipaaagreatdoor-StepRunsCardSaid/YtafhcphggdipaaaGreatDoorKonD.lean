/- Contracts of functions: well-formed constructors; validity of the program and of the reference is one function. -/
import Derived.Test.YtafhcphggdipaaaGreatDoorKonC
set_option linter.unusedSimpArgs false
namespace Go.Abs.Kon
open Go Go.Proofs Go.Abs
set_option maxRecDepth 100000
set_option maxHeartbeats 4000000
/-! Well-formed constructors -/
mutual
def okS:ConT→Prop
 | .mk _ _ s _ names l=>s.size≤100000000∧(∀x∈names,x.size≤100000000)∧okSs l
def okSs:List ConT→Prop
 | []=>True
 |x::r=>okS x∧okSs r
end
theorem okSs_mem:∀{l:List ConT}{x:ConT},okSs l→x∈l→okS x
 | [],x,_,hx=>by simp at hx
 |y::r,x,h,hx=>by
  simp only[okSs] at h
  rcases List.mem_cons.1 hx with rfl|hx
  ·exact h.1
  ·exact okSs_mem h.2 hx
def nodeF (op n:Int) (s:ByteArray) (k:List KindT) (names:List ByteArray) (len:Nat):Bool:=
 decide ((len:Int)=partsF op names.length) &&
 ((if op=1∨op=3 then decide (0≤n∧n≤20000) else decide (n=0)) &&
 ((if op=2 then constF s else (bytesOf s).isEmpty) &&
 ((if isBinder op∨op=2 then (sizeK (.mk k) 20000 1).isSome else decide (k.length=0)) &&
 (!(decide (names.length≠0)&&!isLabelled op)&&decide (names.length≤1000)&&(ascF names&&names.all labelF)))))
mutual
def formedF:ConT→Bool
 | .mk op n s k names l=>nodeF op n s k names l.length&&formedL l
def formedL:List ConT→Bool
 | []=>true
 |x::r=>formedF x&&formedL r
end
theorem formedL_all:∀l:List ConT,formedL l=l.all formedF
 | []=>rfl
 |x::r=>by rw[formedL,formedL_all r,List.all_cons]
theorem formed1_spec (s:ByteArray):Spec Tryz.prog 151 [pp (.str s)] [] (.bool (!labelF s)) []:=by
 refine wk (rv:=[.tmp 2]) ann151 6 Tryz.func151 ?_
 simp only[go_sem]
 refine aCall_intro (IsLabel_spec s) ?_
 simp only[go_sem]
theorem formed_spec (c:ConT):okS c→Spec Tryz.prog 115 [pp (encC c)] [] (.bool (formedF c)) []:=by
 revert c
 refine ConT.ind1 fun op n s k names l ih=>?_
 intro hok
 simp only[okS] at hok
 have h2:∀x∈l,Spec Tryz.prog 153 [pp (encC x)] [] (.bool (!formedF x)) []:=by
   intro x hx
   have:=ih x hx (okSs_mem hok.2.2 hx)
   refine wk (rv:=[.tmp 2]) ann153 6 Tryz.func153 ?_
   simp only[go_sem,encC_sz]
   refine aCall_intro this ?_
   simp only[go_sem]
 have hL:Spec Tryz.prog 59 [pp (.slice (l.map encC)),pp (.fn 153 [])] [] (.bool (l.any fun x=>!formedF x)) []:=
   ContainsFuncC encC l 153 [] _ (fun e _=>encC_sz e) fun x hx=>h2 x hx
 have hN:Spec Tryz.prog 45 [pp (.slice (names.map .str)),pp (.fn 151 [])] [] (.bool (names.any fun x=>!labelF x)) []:=
   ContainsFuncS PV.str names 151 [] _ (fun e _=>rfl) fun x _=>formed1_spec x
 have hP:=parts_spec (.mk op n s k names l)
 have hB:=binder_spec (.mk op n s k names l)
 have hLb:=labelled_spec (.mk op n s k names l)
 have hA:=Ascending_spec names
 have hK:=kValid_spec (.mk k)
 have hCo:=constant_spec s hok.1
 simp only[encC_mk,encK_mk,ConT.op,ConT.names] at hP hB hLb hK
 have hq:∃q1 q3 q2 b lb:Bool,(op==1)=q1∧(op==3)=q3∧(op==2)=q2∧(op != 2)=!q2∧isBinder op=b∧isLabelled op=lb ∧
     ((q1=true∧q3=false∧q2=false∧b=false∧lb=false)∨(q1=false∧q3=true∧q2=false∧b=false∧lb=false)∨(q1=false∧q3=false∧q2=true∧b=false∧lb=false) ∨
      (q1=false∧q3=false∧q2=false∧b=true∧lb=false)∨(q1=false∧q3=false∧q2=false∧b=false∧lb=true)∨(q1=false∧q3=false∧q2=false∧b=false∧lb=false)):=by
   refine ⟨_,_,_,_,_,rfl,rfl,rfl,rfl,rfl,rfl,?_⟩
   simp only[isBinder,isLabelled,beq_iff_eq,beq_eq_false_iff_ne,Bool.or_eq_true,Bool.or_eq_false_iff]
   omega
 obtain ⟨q1,q3,q2,b,lb,f1,f3,f2,f2',fb,fl,hq⟩:=hq
 generalize h1:formedF (.mk op n s k names l)=res
 rw[formedF,nodeF,formedL_all,fl,fb] at h1
 have e1:(op=1∨op=3)↔(q1||q3)=true:=by rw[←f1,←f3];simp
 have e2:(op=2)↔q2=true:=by rw[←f2];simp
 have a1:decide (0≤n∧n≤20000)=(!decide (n<0)&&!decide (n>20000)):=by
   rw[Bool.eq_iff_iff];simp only[Bool.and_eq_true,Bool.not_eq_true',decide_eq_true_iff,decide_eq_false_iff_not];omega
 have a2:decide (n=0)=!(n != 0):=by rw[Bool.eq_iff_iff];simp
 have a3:decide (k.length=0)=!decide ((k.length:Int)>0):=by
   rw[Bool.eq_iff_iff];simp only[Bool.not_eq_true',decide_eq_true_iff,decide_eq_false_iff_not];omega
 have a4:decide (names.length≠0)=decide ((names.length:Int)>0):=by
   rw[Bool.eq_iff_iff];simp only[decide_eq_true_iff];omega
 have a5:decide (names.length≤1000)=!decide ((names.length:Int)>1000):=by
   rw[Bool.eq_iff_iff];simp only[Bool.not_eq_true',decide_eq_true_iff,decide_eq_false_iff_not];omega
 have a6:names.all labelF=!(names.any fun x=>!labelF x):=by simp[List.all_eq_not_any_not]
 have a7:l.all formedF=!(l.any fun x=>!formedF x):=by simp[List.all_eq_not_any_not]
 rw[a1,a2,a3,a4,a5,a6,a7] at h1
 clear a1 a2 a3 a4 a5 a6 a7
 simp only[e1,e2] at h1
 rw[fb] at hB
 rw[fl] at hLb
 generalize partsF op names.length=ps at hP h1
 refine wf (rv:=[.tmp 2]) ann115 100 Tryz.func115 fun hfit=>?_
 clear hfit ih h2 e1 e2 fb fl
 simp only[go_sem,encC_mk]
 refine aCall_intro hP ?_
 simp only[go_sem,List.length_map]
 refine condK_intro (fun hd=>?_) (fun hd=>?_)
 · simp only[go_sem]
   have hd':¬(l.length:Int)=ps:=by simpa using hd
   rw[←h1,decide_eq_false hd'];rfl
 · have hd':(l.length:Int)=ps:=by simpa using hd
   rw[decide_eq_true hd',Bool.true_and] at h1
   clear hP
   rcases hq with ⟨rfl,rfl,rfl,rfl,rfl⟩|⟨rfl,rfl,rfl,rfl,rfl⟩|⟨rfl,rfl,rfl,rfl,rfl⟩|⟨rfl,rfl,rfl,rfl,rfl⟩|⟨rfl,rfl,rfl,rfl,rfl⟩|⟨rfl,rfl,rfl,rfl,rfl⟩
   all_goals
     simp only[go_sem,f1,f2,f3,f2']
   all_goals
     repeat' ((first|refine condK_intro (fun _=>?_) (fun _=>?_)|refine guardK_intro (fun _=>?_) (fun _=>?_)|refine aCall_intro hB ?_|refine aCall_intro hLb ?_|refine aCall_intro hA ?_|refine aCall_intro hK ?_|refine aCall_intro hCo ?_|refine aCall_intro hL ?_|refine aCall_intro hN ?_)<;>simp only[go_sem,List.length_map,f1,f2,f3,f2',empty_iff])
   all_goals
     clear hB hLb hA hK hCo hL hN hd hd' hok
     subst h1
     clear f1 f2 f3 f2'
     try simp only[Bool.not_true,Bool.not_false,Bool.not_eq_true',Bool.not_eq_false'] at *
     simp only[*,Bool.true_and,Bool.false_and,Bool.and_false,Bool.and_true,Bool.not_true,Bool.not_false,Bool.or_false,Bool.false_or,Bool.true_or,Bool.false_eq_true,or_false,false_or,or_true,true_or,if_true,if_false]
mutual
theorem sizeK_rk:∀(k:KindT) (left depth:Int),match sizeK k left depth with
  |some m=>rk k left (401 - depth)=left - m∧m≤left
  |none=>rk k left (401 - depth)<0
 | .mk l,left,depth=>by
  rw[sizeK,rk]
  by_cases h:left≤0∨depth>400∨(l.length≠0∧l.length≠2)
  ·rw[if_pos h,if_pos (by omega)]
   simp only;omega
  ·rw[if_neg h,if_neg (by omega)]
   have:=sizeKs_rk l left depth 1 (by omega)
   exact this
theorem sizeKs_rk:∀(l:List KindT) (left depth n:Int),n≤left→match sizeKs l left depth n with
  |some m=>rkL l (left - n) (401 - depth)=left - m∧m≤left
  |none=>rkL l (left - n) (401 - depth)<0
 | [],left,depth,n,h=>by
  rw[sizeKs,rkL]
  exact ⟨rfl,h⟩
 |x::r,left,depth,n,h=>by
  have hx:=sizeK_rk x (left - n) (depth+1)
  rw[sizeKs,rkL,if_pos (by omega)]
  have e:(401:Int) - depth - 1=401 - (depth+1):=by omega
  rw[e]
  cases hs:sizeK x (left - n) (depth+1) with
  |none=>
   simp only[hs] at hx ⊢
   cases r with
   |nil=>rw[rkL];exact hx
   |cons y r=>rw[rkL,if_neg (by omega)];exact hx
  |some m=>
   simp only[hs] at hx ⊢
   rw[hx.1]
   have:=sizeKs_rk r left depth (n+m) (by omega)
   have e2:left - n - m=left - (n+m):=by omega
   rw[e2];exact this
end
theorem kValid_eq (k:KindT):decide (rk k 20000 400≥0)=(sizeK k 20000 1).isSome:=by
 have:=sizeK_rk k 20000 1
 rw[show (401:Int) - 1=400 from rfl] at this
 cases h:sizeK k 20000 1 with
 |none=>simp only[h] at this;simp only[Option.isSome_none,decide_eq_false_iff_not];omega
 |some m=>simp only[h] at this;simp only[Option.isSome_some,decide_eq_true_iff];omega
theorem rkValid_spec (k:KindT):Spec Tryz.prog 133 [pp (encK k)] [] (.bool (sizeK k 20000 1).isSome) []:=by
 refine wk (rv:=[.tmp 2]) ann133 6 Tryz.func133 ?_
 simp only[go_sem,encK_sz]
 refine aCall_intro (rcount_spec k 20000 400 (by decide) (by decide) (by decide) (by decide)) ?_
 simp only[go_sem,kValid_eq]
def labelsF (names:List ByteArray):Bool:=names.all labelF&&(decide ((names.length:Int)≤1000)&&ascF names)
theorem rlabels_spec (l:List ByteArray) (hs:∀x∈l,x.size≤100000000):Spec Tryz.prog 180 [pp (.slice (l.map .str))] [] (.bool (labelsF l)) []:=by
 refine wf (rv:=[.tmp 2]) ann180 23 Tryz.func180 fun hfit=>?_
 have hlen:l.length≤9223372036854775807:=by
  simp only[argsFit,SV.pv?,SC.pv?,PV.fit,maxLen_eq,List.length_map] at hfit
  exact hfit.1.1
 clear hfit
 generalize h0:labelsF l=res
 rw[labelsF] at h0
 have hA:=rAscending_spec l
 simp only[go_sem]
 refine aLoop_list (α:=ByteArray) (β:=List ByteArray) (fun rest pre=>⟨[(3,ii pre.length),(0,pp (.slice (l.map .str)))],[],[]⟩)
  (fun rest pre=>l=pre++rest∧(rest.all labelF&&(decide ((l.length:Int)≤1000)&&ascF l))=res) ?_ ?_ l [] _ ?_ ⟨rfl,h0⟩
 ·rintro pre ⟨h4,h5⟩ K
  rw[List.append_nil] at h4
  subst h4
  rw[List.all_nil,Bool.true_and] at h5
  simp only[go_sem,List.length_map,lt_false (Int.le_refl _)]
  refine guardK_intro (fun hb=>?_) (fun hb=>?_)
  ·rw[hb,Bool.true_and] at h5
   simp only[go_sem]
   refine aCall_intro hA ?_
   simp only[go_sem]
   rw[h5]
  ·rw[hb] at h5
   simp only[go_sem]
   rw[←h5];rfl
 ·rintro x rest pre ⟨h4,h5⟩ K hK
  have hx:(l.map PV.str)[pre.length]? = some (.str x):=by simp[h4]
  have hlt:(pre.length:Int)<l.length:=by rw[h4];simp;omega
  simp only[go_sem,List.length_map,decide_eq_true hlt,Int.toNat_natCast,Int.natCast_nonneg,hx]
  refine aCall_intro (rIsLabel_spec x (hs x (by simp[h4]))) ?_
  simp only[go_sem]
  refine condK_intro (fun hb=>?_) (fun hb=>?_)
  ·have hb':labelF x=false:=by simpa using hb
   rw[List.all_cons,hb',Bool.false_and,Bool.false_and] at h5
   subst h5
   simp only[go_sem]
  ·have hb':labelF x=true:=by simpa using hb
   have w4:IntKind.i64.wrap ((pre.length:Int)+1)=((pre++[x]).length:Int):=by rw[wrap_id (by omega) (by omega)];simp
   rw[List.all_cons,hb',Bool.true_and] at h5
   simp only[go_sem,w4]
   refine hK (pre++[x]) _ ?_ ⟨by simp[h4],h5⟩
   simp only[go_sem]
 ·simp only[go_sem,List.length_nil,Int.natCast_zero]
theorem rnode_spec (op n:Int) (s:ByteArray) (k:List KindT) (names:List ByteArray) (l:List ConT) (hs:s.size≤100000000) (hns:∀x∈names,x.size≤100000000) :
   Spec Tryz.prog 145 [pp (encC (.mk op n s k names l))] [] (.bool (nodeF op n s k names l.length)) []:=by
 have hP:=rparts_spec op
 have hB:=rBinder_spec op
 have hL:=rlabels_spec names hns
 have hK:=rkValid_spec (.mk k)
 have hCo:=ConstName_spec s hs
 simp only[encK_mk] at hK
 by_cases hr:op<1∨op>13
 · have h0:nodeF op n s k names l.length=false:=by
     rw[nodeF,partsF,if_pos hr,decide_eq_false (by omega)];rfl
   rw[h0]
   refine wf (rv:=[.tmp 2]) ann145 103 Tryz.func145 fun hfit=>?_
   clear hfit hP hB hL hK hCo h0
   simp only[go_sem,encC_mk]
   by_cases h1:op<1
   · simp only[go_sem,decide_eq_true h1]
   · have h2:op>13:=by omega
     simp only[go_sem,decide_eq_false h1,decide_eq_true h2]
 · have hq:∃q1 q3 q2 b lb:Bool,∃p:Int,(op==1)=q1∧(op==3)=q3∧(op==2)=q2∧(op != 2)=!q2∧isBinder op=b∧isLabelled op=lb ∧
       decide (rpartsF op≥0)=!lb∧decide (rpartsF op<0)=lb∧rpartsF op=p∧partsF op names.length=(if lb then (names.length:Int) else p) ∧
       ((q1=true∧q3=false∧q2=false∧b=false∧lb=false)∨(q1=false∧q3=true∧q2=false∧b=false∧lb=false)∨(q1=false∧q3=false∧q2=true∧b=false∧lb=false) ∨
        (q1=false∧q3=false∧q2=false∧b=true∧lb=false)∨(q1=false∧q3=false∧q2=false∧b=false∧lb=true)∨(q1=false∧q3=false∧q2=false∧b=false∧lb=false)):=by
     have hb:isLabelled op=true↔(op=7∨op=8):=by simp[isLabelled]
     have hi:isBinder op=true↔(op=9∨op=10∨op=11∨op=13):=by simp[isBinder];omega
     refine ⟨_,_,_,_,_,_,rfl,rfl,rfl,rfl,rfl,rfl,?_,?_,rfl,?_,?_⟩
     · rw[Bool.eq_iff_iff]
       simp only[decide_eq_true_iff,Bool.not_eq_true',←Bool.not_eq_true,hb,rpartsF,hi]
       (repeat' split)<;>omega
     · rw[Bool.eq_iff_iff]
       simp only[decide_eq_true_iff,hb,rpartsF,hi]
       (repeat' split)<;>omega
     · rw[partsF,if_neg hr,rpartsF]
       simp only[hb,hi]
       (repeat' split)<;>omega
     · simp only[isBinder,isLabelled,beq_iff_eq,beq_eq_false_iff_ne,Bool.or_eq_true,Bool.or_eq_false_iff]
       omega
   obtain ⟨q1,q3,q2,b,lb,p,f1,f3,f2,f2',fb,fl,g1,g2,g3,g4,hq⟩:=hq
   generalize h1:nodeF op n s k names l.length=res
   rw[nodeF,fl,fb,g4] at h1
   have e1:(op=1∨op=3)↔(q1||q3)=true:=by rw[←f1,←f3];simp
   have e2:(op=2)↔q2=true:=by rw[←f2];simp
   have a1:decide (0≤n∧n≤20000)=(!decide (n<0)&&!decide (n>20000)):=by
     rw[Bool.eq_iff_iff];simp only[Bool.and_eq_true,Bool.not_eq_true',decide_eq_true_iff,decide_eq_false_iff_not];omega
   have a2:decide (n=0)=!(n != 0):=by rw[Bool.eq_iff_iff];simp
   have a3:decide (k.length=0)=((k.length:Int)==0):=by
     rw[Bool.eq_iff_iff];simp
   have a4:decide (names.length≠0)=((names.length:Int) != 0):=by
     rw[Bool.eq_iff_iff];simp
   have a5:decide (names.length≤1000)=decide ((names.length:Int)≤1000):=by
     rw[Bool.eq_iff_iff];simp only[decide_eq_true_iff];omega
   have a8:(decide (names.length≤1000)&&(ascF names&&names.all labelF))=labelsF names:=by
     rw[a5,labelsF]
     cases names.all labelF<;>simp[Bool.and_comm]
   have a9:((names.length:Int) != 0)=true∨labelsF names=true:=by
     by_cases h:names.length=0
     · rw[List.eq_nil_of_length_eq_zero h];exact .inr rfl
     · left;rw[bne_iff_ne];omega
   have a10:∀a b:Int,decide (a=b)=!(a != b):=fun a b=>by rw[Bool.eq_iff_iff];simp
   rw[a10 l.length] at h1
   clear a10
   rw[Bool.and_assoc (!_),a8] at h1
   rw[a1,a2,a3,a4] at h1
   clear a1 a2 a3 a4 a5 a8
   simp only[e1,e2] at h1
   rw[fb] at hB
   rw[g3] at hP g1 g2
   generalize labelsF names=lf at hL h1 a9
   have hr1:decide (op<1)=false:=by simp;omega
   have hr2:decide (op>13)=false:=by simp;omega
   refine wf (rv:=[.tmp 2]) ann145 103 Tryz.func145 fun hfit=>?_
   clear hfit e1 e2 fb fl g3 g4 hr hns hs
   simp only[go_sem,encC_mk,hr1,hr2]
   refine aCall_intro hP ?_
   clear hP
   rcases hq with ⟨rfl,rfl,rfl,rfl,rfl⟩|⟨rfl,rfl,rfl,rfl,rfl⟩|⟨rfl,rfl,rfl,rfl,rfl⟩|⟨rfl,rfl,rfl,rfl,rfl⟩|⟨rfl,rfl,rfl,rfl,rfl⟩|⟨rfl,rfl,rfl,rfl,rfl⟩
   all_goals
     simp only[Bool.not_true,Bool.not_false] at f2' g1
     simp only[go_sem,f1,f2,f3,f2',g1,g2,List.length_map]
   all_goals
     repeat' ((first|refine condK_intro (fun _=>?_) (fun _=>?_)|refine guardK_intro (fun _=>?_) (fun _=>?_)|refine aCall_intro hB ?_|refine aCall_intro hL ?_|refine aCall_intro hK ?_|refine aCall_intro hCo ?_)<;>simp only[go_sem,List.length_map,f1,f2,f3,f2',g1,g2,empty_iff])
   all_goals
     clear hB hL hK hCo f1 f2 f3 f2' g1 g2 hr1 hr2
     subst h1
     try simp only[Bool.not_true,Bool.not_false,Bool.not_eq_true',Bool.not_eq_false'] at *
   all_goals
     generalize ((names.length:Int) != 0)=nz at *
     rcases a9 with a9|a9<;>subst a9
     all_goals first
       |contradiction
       |simp only[*,Bool.true_and,Bool.false_and,Bool.and_false,Bool.and_true,Bool.not_true,Bool.not_false,Bool.or_false,Bool.false_or,Bool.true_or,Bool.false_eq_true,or_false,false_or,or_true,true_or,if_true,if_false]
theorem formedF_mk (op n:Int) (s:ByteArray) (k:List KindT) (names:List ByteArray) (l:List ConT):formedF (.mk op n s k names l)=(nodeF op n s k names l.length&&l.all formedF):=by rw[formedF,formedL_all]
theorem rall_spec (c:ConT):okS c→Spec Tryz.prog 112 [pp (encC c)] [] (.bool (formedF c)) []:=by
 revert c
 refine ConT.ind1 fun op n s k names l ih=>?_
 intro hok
 simp only[okS] at hok
 have hN:=rnode_spec op n s k names l hok.1 hok.2.1
 generalize h0:formedF (.mk op n s k names l)=res
 rw[formedF_mk] at h0
 generalize nodeF op n s k names l.length=nd at hN h0
 rw[encC_mk] at hN
 refine wf (rv:=[.tmp 2]) ann112 21 Tryz.func112 fun hfit=>?_
 have hlen:l.length≤9223372036854775807:=by
  simp only[argsFit,SV.pv?,SC.pv?,encC_mk,PV.fit,fitL,List.length_map,maxLen_eq] at hfit
  exact hfit.1.2.2.2.2.2.1.1
 clear hfit
 simp only[go_sem,encC_mk]
 refine aCall_intro hN ?_
 simp only[go_sem]
 refine condK_intro (fun hb=>?_) (fun hb=>?_)
 ·have hb':nd=false:=by simpa using hb
  rw[hb'] at h0
  simp only[go_sem]
  rw[←h0];rfl
 ·have hb':nd=true:=by simpa using hb
  rw[hb',Bool.true_and] at h0
  simp only[go_sem]
  refine aLoop_list (α:=ConT) (β:=List ConT) (fun rest pre=>⟨[(3,ii pre.length),(1,pp (.ep (rawC op n s k names l) 0))],[],[]⟩)
   (fun rest pre=>l=pre++rest∧rest.all formedF=res) ?_ ?_ l [] _ ?_ ⟨rfl,h0⟩
  ·rintro pre ⟨h4,h5⟩ K
   rw[List.append_nil] at h4
   simp only[go_sem,List.length_map,h4,lt_false (Int.le_refl _)]
   rw[←h5];rfl
  ·rintro x rest pre ⟨h4,h5⟩ K hK
   have hx:(l.map encC)[pre.length]? = some (encC x):=by simp[h4]
   have hlt:(pre.length:Int)<l.length:=by rw[h4];simp;omega
   have hm:x∈l:=by simp[h4]
   simp only[go_sem,List.length_map,decide_eq_true hlt,Int.toNat_natCast,Int.natCast_nonneg,hx,encC_sz]
   refine aCall_intro (ih x hm (okSs_mem hok.2.2 hm)) ?_
   simp only[go_sem]
   refine condK_intro (fun hb=>?_) (fun hb=>?_)
   ·have hb':formedF x=false:=by simpa using hb
    rw[List.all_cons,hb',Bool.false_and] at h5
    subst h5
    simp only[go_sem]
   ·have hb':formedF x=true:=by simpa using hb
    have w4:IntKind.i64.wrap ((pre.length:Int)+1)=((pre++[x]).length:Int):=by rw[wrap_id (by omega) (by omega)];simp
    rw[List.all_cons,hb',Bool.true_and] at h5
    simp only[go_sem,w4]
    refine hK (pre++[x]) _ ?_ ⟨by simp[h4],h5⟩
    simp only[go_sem]
  ·simp only[go_sem,List.length_nil,Int.natCast_zero]
def validF (c:ConT):Bool:=decide (sizeF c≤20000)&&(decide (depthF c≤400)&&formedF c)
theorem Valid_spec (c:ConT) (h1:sizeF c≤1000000000) (h2:okS c):Spec Tryz.prog 66 [pp (encC c)] [] (.bool (validF c)) []:=by
 have hS:=Size_spec c h1
 have hD:=depth_spec c h1
 have hF:=formed_spec c h2
 have a1:decide (sizeF c≤20000)=decide ((sizeF c:Int)≤20000):=by rw[Bool.eq_iff_iff,decide_eq_true_iff,decide_eq_true_iff];omega
 have a2:decide (depthF c≤400)=decide ((depthF c:Int)≤400):=by rw[Bool.eq_iff_iff,decide_eq_true_iff,decide_eq_true_iff];omega
 generalize h0:validF c=res
 rw[validF,a1,a2] at h0
 refine wf (rv:=[.tmp 2]) ann66 15 Tryz.func66 fun hfit=>?_
 clear hfit a1 a2
 simp only[go_sem,encC_sz]
 refine aCall_intro hS ?_
 simp only[go_sem,encC_sz]
 refine guardK_intro (fun hb=>?_) (fun hb=>?_)
 ·rw[hb,Bool.true_and] at h0
  simp only[go_sem,encC_sz]
  refine aCall_intro hD ?_
  simp only[go_sem,encC_sz]
  refine guardK_intro (fun hb=>?_) (fun hb=>?_)
  ·rw[hb,Bool.true_and] at h0
   simp only[go_sem,encC_sz]
   refine aCall_intro hF ?_
   simp only[go_sem]
   rw[h0]
  ·rw[hb] at h0
   simp only[go_sem,encC_sz]
   rw[←h0];rfl
 ·rw[hb] at h0
  simp only[go_sem,encC_sz]
  rw[←h0];rfl
theorem sizeF_pos (c:ConT):1≤sizeF c:=by cases c;rw[sizeF];omega
mutual
theorem countF_eq:∀(c:ConT) (left depth:Int),1≤left→countF c left depth=if depth - 1+depthF c≤400∧(sizeF c:Int)≤left then (sizeF c:Int) else left
 | .mk _ _ _ _ _ l,left,depth,h=>by
  rw[countF,depthF,sizeF]
  by_cases hd:depth>400
  ·rw[if_pos hd,if_neg];omega
  ·rw[if_neg hd,countL_eq l left depth 1 h (by omega)]
   (repeat' split)<;>omega
theorem countL_eq:∀(l:List ConT) (left depth n:Int),n≤left→depth≤400→countL l left depth n=if depth+depthL l≤400∧n+sizeL l≤left then n+sizeL l else left
 | [],left,depth,n,h,h'=>by rw[countL,sizeL,depthL,if_pos (by omega)];omega
 |x::r,left,depth,n,h,h'=>by
  have hp:=sizeF_pos x
  rw[countL,depthL,sizeL]
  split
  ·rw[countF_eq x (left - n) (depth+1) (by omega),countL_eq r left depth _ (by split<;>omega) h']
   (repeat' split)<;>omega
  ·rw[if_neg (by omega)];omega
end
theorem small_eq (c:ConT):decide (countF c 20001 1≤20000)=(decide (sizeF c≤20000)&&decide (depthF c≤400)):=by
 rw[countF_eq c 20001 1 (by decide),Bool.eq_iff_iff,Bool.and_eq_true,decide_eq_true_iff,decide_eq_true_iff,decide_eq_true_iff]
 split<;>omega
theorem rSmallC_spec (c:ConT):Spec Tryz.prog 111 [pp (encC c)] [] (.bool (decide (sizeF c≤20000)&&decide (depthF c≤400))) []:=by
 refine wk (rv:=[.tmp 2]) ann111 6 Tryz.func111 ?_
 simp only[go_sem,encC_sz]
 refine aCall_intro (count_spec c 20001 1 (by decide) (by decide) (by decide) (by decide)) ?_
 simp only[go_sem,small_eq]
theorem rValid_spec (c:ConT) (h2:okS c):Spec Tryz.prog 61 [pp (encC c)] [] (.bool (validF c)) []:=by
 have hS:=rSmallC_spec c
 have hF:=rall_spec c h2
 rw[validF,←Bool.and_assoc]
 generalize (decide (sizeF c≤20000)&&decide (depthF c≤400))=a at hS
 refine wk (rv:=[.tmp 2]) ann61 9 Tryz.func61 ?_
 simp only[go_sem,encC_sz]
 refine aCall_intro hS ?_
 simp only[go_sem,encC_sz]
 cases a
 ·simp only[go_sem,encC_sz]
 ·simp only[go_sem,encC_sz]
  refine aCall_intro hF ?_
  simp only[go_sem]
end Go.Abs.Kon