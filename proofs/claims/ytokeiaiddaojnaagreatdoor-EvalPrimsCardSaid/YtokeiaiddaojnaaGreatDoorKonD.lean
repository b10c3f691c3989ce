/- Contracts of functions: well-formed constructors; validity of the program and of the reference is one function. -/
import Derived.Test.YtokeiaiddaojnaaGreatDoorKonC
set_option linter.unusedSimpArgs false
namespace Go.Abs.Kon
open Go Go.Proofs Go.Abs
set_option maxRecDepth 100000
set_option maxHeartbeats 4000000
/-! Well-formed constructors -/
mutual
def okS:ConT→Prop
 | .mk _ _ s _ names l=>s.size≤100000000∧(∀x∈names,x.size≤100000000)∧okSs l
def okSs:List ConT→Prop
 | []=>True
 |x::r=>okS x∧okSs r
end
theorem okSs_mem:∀{l:List ConT}{x:ConT},okSs l→x∈l→okS x
 | [],x,_,hx=>by simp at hx
 |y::r,x,h,hx=>by
   simp only[okSs] at h
   rcases List.mem_cons.1 hx with rfl|hx
   · exact h.1
   · exact okSs_mem h.2 hx
def nodeF (op n:Int) (s:ByteArray) (k:List KindT) (names:List ByteArray) (len:Nat):Bool:=
 decide ((len:Int)=partsF op names.length) &&
 ((if op=1∨op=3 then decide (0≤n∧n≤20000) else decide (n=0)) &&
 ((if op=2 then constF s else (bytesOf s).isEmpty) &&
 ((if isBinder op∨op=2 then (sizeK (.mk k) 20000 1).isSome else decide (k.length=0)) &&
 (!(decide (names.length≠0)&&!isLabelled op)&&decide (names.length≤1000)&&(ascF names&&names.all labelF)))))
mutual
def formedF:ConT→Bool
 | .mk op n s k names l=>nodeF op n s k names l.length&&formedL l
def formedL:List ConT→Bool
 | []=>true
 |x::r=>formedF x&&formedL r
end
theorem formedL_all:∀l:List ConT,formedL l=l.all formedF
 | []=>rfl
 |x::r=>by rw[formedL,formedL_all r,List.all_cons]
theorem formed1_spec (s:ByteArray):Spec Tryz.prog 223 [pp (.str s)] [] (.bool (!labelF s)) []:=by
 refine wk (rv:=[.tmp 2]) ann223 6 Tryz.func223 ?_
 simp only[go_sem]
 refine aCall_intro (IsLabel_spec s) ?_
 simp only[go_sem]
theorem formed_spec (c:ConT):okS c→Spec Tryz.prog 196 [pp (encC c)] [] (.bool (formedF c)) []:=by
 revert c
 refine ConT.ind1 fun op n s k names l ih=>?_
 intro hok
 simp only[okS] at hok
 have h2:∀x∈l,Spec Tryz.prog 224 [pp (encC x)] [] (.bool (!formedF x)) []:=by
   intro x hx
   have:=ih x hx (okSs_mem hok.2.2 hx)
   refine wk (rv:=[.tmp 2]) ann224 6 Tryz.func224 ?_
   simp only[go_sem,encC_sz]
   refine aCall_intro this ?_
   simp only[go_sem]
 have hL:Spec Tryz.prog 112 [pp (.slice (l.map encC)),pp (.fn 224 [])] [] (.bool (l.any fun x=>!formedF x)) []:=
   ContainsFuncC encC l 224 [] _ (fun e _=>encC_sz e) fun x hx=>h2 x hx
 have hN:Spec Tryz.prog 62 [pp (.slice (names.map .str)),pp (.fn 223 [])] [] (.bool (names.any fun x=>!labelF x)) []:=
   ContainsFuncS PV.str names 223 [] _ (fun e _=>rfl) fun x _=>formed1_spec x
 have hP:=parts_spec (.mk op n s k names l)
 have hB:=binder_spec (.mk op n s k names l)
 have hLb:=labelled_spec (.mk op n s k names l)
 have hA:=Ascending_spec names
 have hK:=kValid_spec (.mk k)
 have hCo:=constant_spec s hok.1
 simp only[encC_mk,encK_mk,ConT.op,ConT.names] at hP hB hLb hK
 have hq:∃q1 q3 q2 b lb:Bool,(op==1)=q1∧(op==3)=q3∧(op==2)=q2∧(op != 2)=!q2∧isBinder op=b∧isLabelled op=lb ∧
     ((q1=true∧q3=false∧q2=false∧b=false∧lb=false)∨(q1=false∧q3=true∧q2=false∧b=false∧lb=false)∨(q1=false∧q3=false∧q2=true∧b=false∧lb=false) ∨
      (q1=false∧q3=false∧q2=false∧b=true∧lb=false)∨(q1=false∧q3=false∧q2=false∧b=false∧lb=true)∨(q1=false∧q3=false∧q2=false∧b=false∧lb=false)):=by
   refine ⟨_,_,_,_,_,rfl,rfl,rfl,rfl,rfl,rfl,?_⟩
   simp only[isBinder,isLabelled,beq_iff_eq,beq_eq_false_iff_ne,Bool.or_eq_true,Bool.or_eq_false_iff]
   omega
 obtain ⟨q1,q3,q2,b,lb,f1,f3,f2,f2',fb,fl,hq⟩:=hq
 generalize h1:formedF (.mk op n s k names l)=res
 rw[formedF,nodeF,formedL_all,fl,fb] at h1
 have e1:(op=1∨op=3)↔(q1||q3)=true:=by rw[←f1,←f3];simp
 have e2:(op=2)↔q2=true:=by rw[←f2];simp
 have a1:decide (0≤n∧n≤20000)=(!decide (n<0)&&!decide (n>20000)):=by
   rw[Bool.eq_iff_iff];simp only[Bool.and_eq_true,Bool.not_eq_true',decide_eq_true_iff,decide_eq_false_iff_not];omega
 have a2:decide (n=0)=!(n != 0):=by rw[Bool.eq_iff_iff];simp
 have a3:decide (k.length=0)=!decide ((k.length:Int)>0):=by
   rw[Bool.eq_iff_iff];simp only[Bool.not_eq_true',decide_eq_true_iff,decide_eq_false_iff_not];omega
 have a4:decide (names.length≠0)=decide ((names.length:Int)>0):=by
   rw[Bool.eq_iff_iff];simp only[decide_eq_true_iff];omega
 have a5:decide (names.length≤1000)=!decide ((names.length:Int)>1000):=by
   rw[Bool.eq_iff_iff];simp only[Bool.not_eq_true',decide_eq_true_iff,decide_eq_false_iff_not];omega
 have a6:names.all labelF=!(names.any fun x=>!labelF x):=by simp[List.all_eq_not_any_not]
 have a7:l.all formedF=!(l.any fun x=>!formedF x):=by simp[List.all_eq_not_any_not]
 rw[a1,a2,a3,a4,a5,a6,a7] at h1
 clear a1 a2 a3 a4 a5 a6 a7
 simp only[e1,e2] at h1
 rw[fb] at hB
 rw[fl] at hLb
 generalize partsF op names.length=ps at hP h1
 refine wf (rv:=[.tmp 2]) ann196 100 Tryz.func196 fun hfit=>?_
 clear hfit ih h2 e1 e2 fb fl
 simp only[go_sem,encC_mk]
 refine aCall_intro hP ?_
 simp only[go_sem,List.length_map]
 refine condK_intro (fun hd=>?_) (fun hd=>?_)
 · simp only[go_sem]
   have hd':¬(l.length:Int)=ps:=by simpa using hd
   rw[←h1,decide_eq_false hd'];rfl
 · have hd':(l.length:Int)=ps:=by simpa using hd
   rw[decide_eq_true hd',Bool.true_and] at h1
   clear hP
   rcases hq with ⟨rfl,rfl,rfl,rfl,rfl⟩|⟨rfl,rfl,rfl,rfl,rfl⟩|⟨rfl,rfl,rfl,rfl,rfl⟩|⟨rfl,rfl,rfl,rfl,rfl⟩|⟨rfl,rfl,rfl,rfl,rfl⟩|⟨rfl,rfl,rfl,rfl,rfl⟩
   all_goals
     simp only[go_sem,f1,f2,f3,f2']
   all_goals
     repeat' ((first|refine condK_intro (fun _=>?_) (fun _=>?_)|refine guardK_intro (fun _=>?_) (fun _=>?_)|refine aCall_intro hB ?_|refine aCall_intro hLb ?_|refine aCall_intro hA ?_|refine aCall_intro hK ?_|refine aCall_intro hCo ?_|refine aCall_intro hL ?_|refine aCall_intro hN ?_)<;>simp only[go_sem,List.length_map,f1,f2,f3,f2',empty_iff])
   all_goals
     clear hB hLb hA hK hCo hL hN hd hd' hok
     subst h1
     clear f1 f2 f3 f2'
     try simp only[Bool.not_true,Bool.not_false,Bool.not_eq_true',Bool.not_eq_false'] at *
     simp only[*,Bool.true_and,Bool.false_and,Bool.and_false,Bool.and_true,Bool.not_true,Bool.not_false,Bool.or_false,Bool.false_or,Bool.true_or,Bool.false_eq_true,or_false,false_or,or_true,true_or,if_true,if_false]
def labelsF (names:List ByteArray):Bool:=names.all labelF&&(decide ((names.length:Int)≤1000)&&ascF names)
def validF (c:ConT):Bool:=decide (sizeF c≤20000)&&(decide (depthF c≤400)&&formedF c)
theorem Valid_spec (c:ConT) (h1:sizeF c≤1000000000) (h2:okS c):Spec Tryz.prog 167 [pp (encC c)] [] (.bool (validF c)) []:=by
 have hS:=Size_spec c h1
 have hD:=depth_spec c h1
 have hF:=formed_spec c h2
 have a1:decide (sizeF c≤20000)=decide ((sizeF c:Int)≤20000):=by rw[Bool.eq_iff_iff,decide_eq_true_iff,decide_eq_true_iff];omega
 have a2:decide (depthF c≤400)=decide ((depthF c:Int)≤400):=by rw[Bool.eq_iff_iff,decide_eq_true_iff,decide_eq_true_iff];omega
 generalize h0:validF c=res
 rw[validF,a1,a2] at h0
 refine wf (rv:=[.tmp 2]) ann167 15 Tryz.func167 fun hfit=>?_
 clear hfit a1 a2
 simp only[go_sem,encC_sz]
 refine aCall_intro hS ?_
 simp only[go_sem,encC_sz]
 refine guardK_intro (fun hb=>?_) (fun hb=>?_)
 · rw[hb,Bool.true_and] at h0
   simp only[go_sem,encC_sz]
   refine aCall_intro hD ?_
   simp only[go_sem,encC_sz]
   refine guardK_intro (fun hb=>?_) (fun hb=>?_)
   · rw[hb,Bool.true_and] at h0
     simp only[go_sem,encC_sz]
     refine aCall_intro hF ?_
     simp only[go_sem]
     rw[h0]
   · rw[hb] at h0
     simp only[go_sem,encC_sz]
     rw[←h0];rfl
 · rw[hb] at h0
   simp only[go_sem,encC_sz]
   rw[←h0];rfl
end Go.Abs.Kon
