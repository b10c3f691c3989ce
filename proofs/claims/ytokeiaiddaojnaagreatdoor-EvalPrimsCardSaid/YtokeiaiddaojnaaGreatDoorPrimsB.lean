/- The guard of the law EvalPrims; Prim of the program. -/
import Derived.Test.YtokeiaiddaojnaaGreatDoorPrimsA
import Derived.Test.YtokeiaiddaojnaaGreatDoorRunsLaw
set_option linter.unusedSimpArgs false
set_option linter.unusedVariables false
namespace Go.Abs.Kon
open Go Go.Proofs Go.Abs
set_option maxRecDepth 100000
set_option maxHeartbeats 1000000
def fB (i:Nat):Box:=⟨.one,.one (.fn 18 [.ptr (.ref i) 0])⟩
theorem IdxW (l:List ValT) (h:∀x∈l,∀n,0≤n→n≤1000000→Spec Tryz.prog 20 [pp (encV x),.one (.ptr (.ref 0) 0),.one (.ptr (.ref 1) 0)] [fB 0,rB 2,iB n] (.bool (notW x n).1) [fB 0,rB 2,iB (notW x n).2]) (n:Int) (h0:0≤n) (h1:n≤1000000) :
   Spec Tryz.prog 47 [pp (.slice (l.map encV)),.one (.fn 20 [.ptr (.ref 0) 0,.ptr (.ref 1) 0])] [fB 0,rB 2,iB n] (.int .i64 (findN (notW) l n 0).1) [fB 0,rB 2,iB (findN (notW) l n 0).2]:=by
 refine wf (rv:=[.tmp 4]) ann47 19 Tryz.func47 fun hfit=>?_
 have hlen:l.length≤9223372036854775807:=by
   simp only[argsFit,SV.pv?,SC.pv?,PV.fit,maxLen_eq,List.length_map] at hfit
   exact hfit.1.1
 clear hfit
 generalize hr:findN (notW) l n 0=res
 obtain ⟨r1,r2⟩:=res
 simp only[rB,iB,fB]
 simp only[go_sem,List.length_map]
 refine aLoop_list (α:=ValT) (β:=List ValT×Int) (fun rest b=>⟨[(8,ii b.1.length),(0,pp (.slice (l.map encV))),(1,.one (.fn 20 [.ptr (.ref 0) 0,.ptr (.ref 1) 0])),(7,ii l.length)],[(.ref 0,fB 0),(.ref 1,rB 2),(.ref 2,iB b.2)],[]⟩) (fun rest b=>l=b.1++rest∧findN (notW) rest b.2 b.1.length=(r1,r2)∧0≤b.2∧b.2≤1000000) ?_ ?_ l ([],n) _ ?_ ⟨rfl,hr,h0,h1⟩
 · rintro ⟨pre,m⟩ ⟨h4,h5,_,_⟩ K
   rw[List.append_nil] at h4
   simp only[findN,Prod.mk.injEq] at h5
   obtain ⟨rfl,rfl⟩:=h5
   simp only[go_sem,h4,lt_false (Int.le_refl _),rB,iB,fB]
 · rintro x rest ⟨pre,m⟩ ⟨h4,h5,h6,h7⟩ K hK
   simp only at h4 h5 h6 h7
   have hx:(l.map encV)[pre.length]? = some (encV x):=by simp[h4]
   have hlt:(pre.length:Int)<l.length:=by rw[h4];simp;omega
   have hm:x∈l:=by simp[h4]
   have hS:=h x hm m h6 h7
   have hD:=notW_down l x hm m h6 h7
   simp only[rB,iB,fB] at hS
   simp only[go_sem,decide_eq_true hlt,hx,rB,iB,fB]
   refine aCall_intro hS ?_
   simp only[go_sem]
   simp only[findN] at h5
   generalize notW x m=s at hD h5 hS ⊢
   obtain ⟨s1,s2⟩:=s
   cases s1 with
   |true=>
     simp only[↓reduceIte,Prod.mk.injEq] at h5
     obtain ⟨rfl,rfl⟩:=h5
     simp only[go_sem]
   |false=>
     have w4:IntKind.i64.wrap ((pre.length:Int)+1)=((pre++[x]).length:Int):=by rw[wrap_id (by omega) (by omega)];simp
     simp only[go_sem,w4]
     refine hK (pre++[x],s2) _ ?_ ⟨by simp[h4],by simpa using h5,hD.2 rfl,by have:=hD.1;simp only at this;omega⟩
     simp only[go_sem,rB,iB,fB]
 · simp only[go_sem,List.length_nil,Int.natCast_zero,rB,iB,fB]
theorem IdxWC (l:List ValT) (h:∀x∈l,∀n,0≤n→n≤1000000→Spec Tryz.prog 20 [pp (encV x),.one (.ptr (.ref 0) 0),.one (.ptr (.ref 1) 0)] [fB 0,rB 2,iB n] (.bool (notW x n).1) [fB 0,rB 2,iB (notW x n).2]) (n:Int) (h0:0≤n) (h1:n≤1000000) :
   Spec Tryz.prog 19 [pp (.slice (l.map encV)),.one (.fn 20 [.ptr (.ref 0) 0,.ptr (.ref 1) 0])] [fB 0,rB 2,iB n] (.bool (anyN (notW) l n).1) [fB 0,rB 2,iB (anyN (notW) l n).2]:=by
 have hI:=IdxW l h n h0 h1
 obtain ⟨e1,e2⟩:=findN_any (notW) l n 0
 rw[e1] at hI
 rw[←e2]
 refine wk (rv:=[.tmp 4]) ann19 9 Tryz.func19 ?_
 simp only[rB,iB,fB] at hI ⊢
 simp only[go_sem]
 refine aCall_intro hI ?_
 simp only[go_sem]
theorem IdxV (l:List ValT) (h:∀x∈l,∀n,0≤n→n≤1000000→Spec Tryz.prog 21 [pp (encV x),.one (.ptr (.ref 0) 0),.one (.ptr (.ref 1) 0)] [fB 0,iB n] (.bool (notW x n).1) [fB 0,iB (notW x n).2]) (n:Int) (h0:0≤n) (h1:n≤1000000) :
   Spec Tryz.prog 47 [pp (.slice (l.map encV)),.one (.fn 21 [.ptr (.ref 0) 0,.ptr (.ref 1) 0])] [fB 0,iB n] (.int .i64 (findN (notW) l n 0).1) [fB 0,iB (findN (notW) l n 0).2]:=by
 refine wf (rv:=[.tmp 4]) ann47 19 Tryz.func47 fun hfit=>?_
 have hlen:l.length≤9223372036854775807:=by
   simp only[argsFit,SV.pv?,SC.pv?,PV.fit,maxLen_eq,List.length_map] at hfit
   exact hfit.1.1
 clear hfit
 generalize hr:findN (notW) l n 0=res
 obtain ⟨r1,r2⟩:=res
 simp only[rB,iB,fB]
 simp only[go_sem,List.length_map]
 refine aLoop_list (α:=ValT) (β:=List ValT×Int) (fun rest b=>⟨[(8,ii b.1.length),(0,pp (.slice (l.map encV))),(1,.one (.fn 21 [.ptr (.ref 0) 0,.ptr (.ref 1) 0])),(7,ii l.length)],[(.ref 0,fB 0),(.ref 1,iB b.2)],[]⟩) (fun rest b=>l=b.1++rest∧findN (notW) rest b.2 b.1.length=(r1,r2)∧0≤b.2∧b.2≤1000000) ?_ ?_ l ([],n) _ ?_ ⟨rfl,hr,h0,h1⟩
 · rintro ⟨pre,m⟩ ⟨h4,h5,_,_⟩ K
   rw[List.append_nil] at h4
   simp only[findN,Prod.mk.injEq] at h5
   obtain ⟨rfl,rfl⟩:=h5
   simp only[go_sem,h4,lt_false (Int.le_refl _),rB,iB,fB]
 · rintro x rest ⟨pre,m⟩ ⟨h4,h5,h6,h7⟩ K hK
   simp only at h4 h5 h6 h7
   have hx:(l.map encV)[pre.length]? = some (encV x):=by simp[h4]
   have hlt:(pre.length:Int)<l.length:=by rw[h4];simp;omega
   have hm:x∈l:=by simp[h4]
   have hS:=h x hm m h6 h7
   have hD:=notW_down l x hm m h6 h7
   simp only[rB,iB,fB] at hS
   simp only[go_sem,decide_eq_true hlt,hx,rB,iB,fB]
   refine aCall_intro hS ?_
   simp only[go_sem]
   simp only[findN] at h5
   generalize notW x m=s at hD h5 hS ⊢
   obtain ⟨s1,s2⟩:=s
   cases s1 with
   |true=>
     simp only[↓reduceIte,Prod.mk.injEq] at h5
     obtain ⟨rfl,rfl⟩:=h5
     simp only[go_sem]
   |false=>
     have w4:IntKind.i64.wrap ((pre.length:Int)+1)=((pre++[x]).length:Int):=by rw[wrap_id (by omega) (by omega)];simp
     simp only[go_sem,w4]
     refine hK (pre++[x],s2) _ ?_ ⟨by simp[h4],by simpa using h5,hD.2 rfl,by have:=hD.1;simp only at this;omega⟩
     simp only[go_sem,rB,iB,fB]
 · simp only[go_sem,List.length_nil,Int.natCast_zero,rB,iB,fB]
theorem IdxVC (l:List ValT) (h:∀x∈l,∀n,0≤n→n≤1000000→Spec Tryz.prog 21 [pp (encV x),.one (.ptr (.ref 0) 0),.one (.ptr (.ref 1) 0)] [fB 0,iB n] (.bool (notW x n).1) [fB 0,iB (notW x n).2]) (n:Int) (h0:0≤n) (h1:n≤1000000) :
   Spec Tryz.prog 19 [pp (.slice (l.map encV)),.one (.fn 21 [.ptr (.ref 0) 0,.ptr (.ref 1) 0])] [fB 0,iB n] (.bool (anyN (notW) l n).1) [fB 0,iB (anyN (notW) l n).2]:=by
 have hI:=IdxV l h n h0 h1
 obtain ⟨e1,e2⟩:=findN_any (notW) l n 0
 rw[e1] at hI
 rw[←e2]
 refine wk (rv:=[.tmp 4]) ann19 9 Tryz.func19 ?_
 simp only[rB,iB,fB] at hI ⊢
 simp only[go_sem]
 refine aCall_intro hI ?_
 simp only[go_sem]
def annPW:Ann:=⟨[3],[],ann18.live,ann18.head⟩
@[go_sem] theorem annPW_imm:annPW.imm=[3]:=rfl
@[go_sem] theorem annPW_frz:annPW.frz=[]:=rfl
@[go_sem] theorem annPW_live:annPW.live=ann18.live:=rfl
@[go_sem] theorem annPW_head:annPW.head=ann18.head:=rfl
theorem fewV_spec:∀(c:ValT) (n:Int),0≤n→n≤1000000→Spec Tryz.prog 18 [pp (encV c),.one (.ptr (.ref 0) 0),.one (.ptr (.ref 1) 0)] [iB n,fB 1] (.bool (fewV c n).1) [iB (fewV c n).2,fB 1]:=by
 refine ValT.ind1 fun op m s names l ih=>?_
 intro n h0 h1
 have w1:IntKind.i64.wrap (n - 1)=n - 1:=wrap_id (by omega) (by omega)
 rw[encV_mk,fewV]
 by_cases c1:n - 1<0
 · rw[if_pos c1]
   have f1:decide (n - 1≥0)=false:=decide_eq_false (by omega)
   refine wk (rv:=[.tmp 5]) annPW 46 Tryz.func18 ?_
   simp only[iB,fB]
   simp only[go_sem,w1,f1]
 rw[if_neg c1]
 have f1:decide (n - 1≥0)=true:=decide_eq_true (by omega)
 by_cases c2:(names.length:Int)>20
 · rw[if_pos c2]
   have f2:decide ((names.length:Int)≤20)=false:=decide_eq_false (by omega)
   refine wk (rv:=[.tmp 5]) annPW 46 Tryz.func18 ?_
   simp only[iB,fB]
   simp only[go_sem,w1,f1,List.length_map,f2]
 rw[if_neg c2]
 have f2:decide ((names.length:Int)≤20)=true:=decide_eq_true (by omega)
 cases c3:(decide ((s.size:Int)≤300)||(decide ((s.size:Int)≥16379)&&decide ((s.size:Int)≤16389))) with
 |false=>
   rw[if_pos rfl]
   refine wk (rv:=[.tmp 5]) annPW 46 Tryz.func18 ?_
   simp only[iB,fB]
   cases p1:decide ((s.size:Int)≤300)<;>cases p2:decide ((s.size:Int)≥16379)<;>cases p3:decide ((s.size:Int)≤16389)<;>rw[p1,p2,p3] at c3<;>first | (cases c3;done)|skip
   all_goals simp only[go_sem,w1,f1,List.length_map,f2,p1,p2,p3]
 |true=>
   rw[if_neg (by decide),anyW_eq]
   have hC:=IdxWC l (fun x hx n g0 g1=>by
     have hF:=ih x hx n g0 g1
     simp only[iB,fB] at hF
     generalize hN:notW x n=s
     obtain ⟨s1,s2⟩:=s
     simp only[notW,Prod.mk.injEq] at hN
     obtain ⟨rfl,rfl⟩:=hN
     refine wk (rv:=[.tmp 4]) ann20 10 Tryz.func20 ?_
     simp only[rB,iB,fB]
     simp only[go_sem]
     refine aCall_intro hF ?_
     simp only[go_sem]) (n - 1) (by omega) (by omega)
   simp only[rB,iB,fB] at hC
   refine wk (rv:=[.tmp 5]) annPW 46 Tryz.func18 ?_
   simp only[iB,fB]
   cases p1:decide ((s.size:Int)≤300)<;>cases p2:decide ((s.size:Int)≥16379)<;>cases p3:decide ((s.size:Int)≤16389)<;>rw[p1,p2,p3] at c3<;>first | (cases c3;done)|skip
   all_goals
     simp only[go_sem,w1,f1,List.length_map,f2,p1,p2,p3]
     refine aCall_intro hC ?_
     simp only[go_sem]
theorem fewVs_spec (l:List ValT) (n:Int) (h0:0≤n) (h1:n≤1000000):Spec Tryz.prog 19 [pp (.slice (l.map encV)),.one (.fn 21 [.ptr (.ref 0) 0,.ptr (.ref 1) 0])] [fB 0,iB n] (.bool (anyN notW l n).1) [fB 0,iB (anyN notW l n).2]:=
 IdxVC l (fun x hx n g0 g1=>by
   have hF:=fewV_spec x n g0 g1
   simp only[iB,fB] at hF
   generalize hN:notW x n=s
   obtain ⟨s1,s2⟩:=s
   simp only[notW,Prod.mk.injEq] at hN
   obtain ⟨rfl,rfl⟩:=hN
   refine wk (rv:=[.tmp 4]) ann21 9 Tryz.func21 ?_
   simp only[rB,iB,fB]
   simp only[go_sem]
   refine aCall_intro hF ?_
   simp only[go_sem]) n h0 h1
end Go.Abs.Kon
namespace Go.Abs.Kon
open Go Go.Proofs Go.Abs
set_option maxRecDepth 100000
set_option maxHeartbeats 1000000
theorem IndexFuncV {α:Type}(enc:α→PV) (l:List α) (f:FuncId) (caps:List PV) (p:α→Bool) (hes:∀e∈l,PV.hasSz (.agg 5) (enc e)=true) (hp:PredOn enc f caps p l):Spec Tryz.prog 47 [pp (.slice (l.map enc)),pp (.fn f caps)] [] (.int .i64 (findP p l 0)) []:=by
 refine wf (rv:=[.tmp 4]) ann47 19 Tryz.func47 fun hfit=>?_
 have hlen:l.length≤9223372036854775807:=by
   simp only[argsFit,SV.pv?,SC.pv?,PV.fit,maxLen_eq,List.length_map] at hfit
   exact hfit.1.1
 clear hfit
 generalize h0:findP p l 0=res
 simp only[go_sem,List.length_map]
 refine aLoop_list (α:=α) (β:=List α) (fun rest pre=>⟨[(8,ii pre.length),(0,pp (.slice (l.map enc))),(1,pp (.fn f caps)),(7,ii l.length)],[],[]⟩) (fun rest pre=>l=pre++rest∧findP p rest pre.length=res) ?_ ?_ l [] _ ?_ ⟨rfl,h0⟩
 · rintro pre ⟨h4,h5⟩ K
   rw[List.append_nil] at h4
   simp only[go_sem,h4,lt_false (Int.le_refl _)]
   simp only[findP] at h5
   rw[h5]
 · rintro x rest pre ⟨h4,h5⟩ K hK
   have hx:(l.map enc)[pre.length]? = some (enc x):=by simp[h4]
   have hlt:(pre.length:Int)<l.length:=by rw[h4];simp;omega
   have hm:x∈l:=by simp[h4]
   simp only[go_sem,decide_eq_true hlt,hx,hes x hm]
   refine aCall_intro (hp x hm) ?_
   simp only[go_sem]
   refine condK_intro (fun hb=>?_) (fun hb=>?_)
   · simp only[findP,hb,if_true] at h5
     simp only[go_sem,h5]
   · have w4:IntKind.i64.wrap ((pre.length:Int)+1)=((pre++[x]).length:Int):=by rw[wrap_id (by omega) (by omega)];simp
     simp only[findP,hb,Bool.false_eq_true,if_false] at h5
     simp only[go_sem,w4]
     refine hK (pre++[x]) _ ?_ ⟨by simp[h4],by simpa using h5⟩
     simp only[go_sem]
 · simp only[go_sem,List.length_nil,Int.natCast_zero]
/-! -/
theorem ContainsFuncV {α:Type}(enc:α→PV) (es:List α) (f:FuncId) (caps:List PV) (p:α→Bool) (hes:∀e∈es,PV.hasSz (.agg 5) (enc e)=true) (hp:PredOn enc f caps p es):Spec Tryz.prog 19 [pp (.slice (es.map enc)),pp (.fn f caps)] [] (.bool (es.any p)) []:=by
 refine wk (rv:=[.tmp 4]) ann19 9 Tryz.func19 ?_
 simp only[go_sem]
 refine aCall_intro (IndexFuncV enc es f caps p hes hp) ?_
 have:decide (findP p es 0≥0)=es.any p:=by
   rw[Bool.eq_iff_iff,decide_eq_true_iff];exact findP_ge p es 0
 simp only[go_sem,this]
theorem prim1_spec (v:ValT) (h:ndV v≤400):Spec Tryz.prog 49 [pp (encV v)] [] (.bool (!nodesV v)) []:=by
 have hV:=Valid14_spec v h
 refine wk (rv:=[.tmp 2]) ann49 6 Tryz.func49 ?_
 simp only[go_sem,encV_sz]
 refine aCall_intro hV ?_
 simp only[go_sem]
theorem prim2_spec (v:ValT) (k:Int):Spec Tryz.prog 51 [pp (encV v),pp (.ep (.int .i64 k) 0)] [] (.bool (v.op != k)) []:=by
 obtain ⟨op,n,s,names,l⟩:=v
 refine wk (rv:=[.tmp 3]) ann51 8 Tryz.func51 ?_
 simp only[go_sem,encV_mk,ValT.op]
theorem invalid_spec (l:List ValT) (h:∀v∈l,ndV v≤400):Spec Tryz.prog 19 [pp (.slice (l.map encV)),pp (.fn 49 [])] [] (.bool (l.any fun v=>!nodesV v)) []:=
 ContainsFuncV encV l _ _ (fun v=>!nodesV v) (fun e _=>encV_sz e) fun v hv=>prim1_spec v (h v hv)
theorem otherKind_spec (l:List ValT) (k:Int):Spec Tryz.prog 19 [pp (.slice (l.map encV)),pp (.fn 51 [.ep (.int .i64 k) 0])] [] (.bool (l.any fun v=>v.op != k)) []:=
 ContainsFuncV encV l _ _ (fun v=>v.op != k) (fun e _=>encV_sz e) fun v _=>prim2_spec v k
theorem numP_ok {n:Int}{v:Th}(h:numP n=.inr v):okH v:=by
 rw[numP] at h
 split at h
 · cases h
 · cases h;exact okH_int (by omega) (by omega)
theorem txtP_ok {s:ByteArray}{v:Th}(h:txtP s=.inr v):okH v:=by
 rw[txtP] at h
 split at h
 · cases h
 · cases h;exact okH_txt (by omega)
def goodO (r:Int ⊕ Th):Prop:=∀v,r=.inr v→okH v
theorem primP_okH (k:Int) (a b:Th):goodO (primP k a b):=by
 have num:∀n,goodO (numP n):=fun n v h=>numP_ok h
 have txt:∀s,goodO (txtP s):=fun s v h=>txtP_ok h
 have inl:∀c,goodO (.inl c):=fun c v h=>nomatch h
 have inr:∀v,okH v→goodO (.inr v):=fun v h w e=>by cases e;exact h
 have mul:∀a b,goodO (mulP a b):=fun a b=>(mulP_or a b).elim (fun e=>by rw[e];exact inl 2) fun e=>by rw[e];exact num _
 have tru:∀b,goodO (.inr (truthH b)):=fun b=>inr _ (okH_truth b)
 unfold primP
 exact ite_P (num _) (ite_P (num _) (ite_P (mul _ _) (ite_P (ite_P (inl _) (num _)) (ite_P (ite_P (inl _) (num _)) (ite_P (num _)
   (ite_P (tru _) (ite_P (tru _) (ite_P (tru _) (ite_P (txt _) (ite_P (num _) (ite_P (tru _) (ite_P (txt _) (inr _ okH_unit)))))))))))))
def encPO:Int ⊕ Th→Res
 | .inl c=>.pan (endedE 2 c) [vBox0]
 | .inr v=>.ret (.tuple []) [vBox (obsH v)]
theorem prim3_spec (k:Int) (h1:1≤k) (h2:k≤14) (l:List Th) (hl:l.length=(opsP k).1) (hv:∀v∈l,okV v) :
   SpecR Tryz.prog 52 [pp (.ep (.int .i64 k) 0),pp (.ep (.slice (l.map encH)) 0),.one (.ptr (.ref 0) 0)] [vBox0] (encPO (primP k (l.head?.getD zeroH) (lastH l))):=by
 have hs:=prim_spec k h1 h2 l hl hv
 have hok:=primP_okH k (l.head?.getD zeroH) (lastH l)
 generalize hr:primP k (l.head?.getD zeroH) (lastH l)=r at hs hok
 cases r with
 |inl c=>
   show SpecP _ _ _ _ _ _
   refine SpecP.walk (rv:=[]) ann52 8 Tryz.func52 mixed rfl rfl (by kernel_rfl) rfl rfl fun hfit=>?_
   clear hfit
   simp only[go_sem,vBox0]
   refine aCall_pan hs ?_
   simp only[go_sem]
   try exact harm_desc (by kernel_rfl)
 |inr v=>
   obtain ⟨w,hw⟩:=primP_obs hr
   have ho:=observe_spec v 20000 1 (hok v rfl) (by decide) (by decide) (by decide) (by decide)
   rw[encPO,obsH,hw]
   rw[hw] at ho
   show Spec _ _ _ _ _ _
   refine wk (rv:=[]) ann52 8 Tryz.func52 ?_
   simp only[go_sem,vBox0]
   refine aCall_intro hs ?_
   simp only[go_sem]
   refine aCall_intro (show Spec _ _ _ [leftB 20000] _ _ from ho) ?_
   simp only[go_sem,leftB,vBox]
theorem try3_spec (k:Int) (h1:1≤k) (h2:k≤14) (l:List Th) (hl:l.length=(opsP k).1) (hv:∀v∈l,okV v) :
   Spec Tryz.prog 32 [.one (.fn 52 [.pv (.ep (.int .i64 k) 0),.pv (.ep (.slice (l.map encH)) 0),.ptr (.ref 0) 0])] [vBox0]
     (match primP k (l.head?.getD zeroH) (lastH l) with | .inl c=>.agg [.int .i64 2,.int .i64 c] | .inr _=>.agg [.int .i64 0,.int .i64 0]) (match primP k (l.head?.getD zeroH) (lastH l) with | .inl _=>[vBox0] | .inr v=>[vBox (obsH v)]):=by
 have h:=prim3_spec k h1 h2 l hl hv
 generalize primP k (l.head?.getD zeroH) (lastH l)=r at h
 cases r with
 |inl c=>exact try_pan (caps:=[.pv (.ep (.int .i64 k) 0),.pv (.ep (.slice (l.map encH)) 0),.ptr (.ref 0) 0]) h
 |inr v=>exact try_ret (caps:=[.pv (.ep (.int .i64 k) 0),.pv (.ep (.slice (l.map encH)) 0),.ptr (.ref 0) 0]) h
end Go.Abs.Kon
namespace Go.Abs.Kon
open Go Go.Proofs Go.Abs
set_option maxRecDepth 100000
set_option maxHeartbeats 1000000
theorem opsP_in {k:Int}(h:(opsP k).1≠0):1≤k∧k≤14:=by
 unfold opsP at h
 split at h
 · omega
 · split at h
   · omega
   · split at h
     · omega
     · split at h
       · omega
       · exact absurd rfl h
theorem opsP_le (k:Int):(opsP k).1≤2:=by
 unfold opsP
 repeat' split
 all_goals decide
theorem encH_valH (op n:Int) (s:ByteArray) (names:List ByteArray) (l:List ValT):encH (valH (.mk op n s names l))=.ep (.agg [.int .i64 op,.int .i64 n,.str s,.slice [],.slice [],.int .i64 0,.int .i64 0,.str ByteArray.empty,.int .i64 0,.int .i64 0,.str ByteArray.empty,.slice [],.slice [],.slice [],
   .int .i64 0,.int .i64 0,.str ByteArray.empty,.slice [],.slice [],.slice [],.slice [],.slice [],.slice [],.nilp]) 0:=by
 rw[valH,encH_plain];rfl
def accT:List Th→SC
 | []=>.nilS
 |v::r=>.own 108 .one ((v::r).map encH)
theorem accT_nil:accT []=.nilS:=rfl
theorem accT_cons (v:Th) (r:List Th):accT (v::r)=.own 108 .one (encH v::r.map encH):=rfl
theorem anyV_false {α:Type}{p:α→Bool}{l:List α}(h:l.any p=false) {x:α}(hx:x∈l):p x=false:=by
 have:=List.any_eq_false.1 h x hx
 simpa using this
def annEP:Ann:=⟨[2,52],[34,2000015,6500015,4015009],ann22.live,ann22.head⟩
@[go_sem] theorem annEP_imm:annEP.imm=[2,52]:=rfl
@[go_sem] theorem annEP_frz:annEP.frz=[34,2000015,6500015,4015009]:=rfl
@[go_sem] theorem annEP_live:annEP.live=ann22.live:=rfl
@[go_sem] theorem annEP_head:annEP.head=ann22.head:=rfl
theorem primO_0 {k:Int}(l:List ValT) (h:(opsP k).1=0):primO k l=(zeroV,0,2):=by rw[primO,if_pos h]
theorem primO_1 {k:Int}{l:List ValT}(h:(opsP k).1≠0) (h1:(l.any fun v=>!nodesV v)=true):primO k l=(zeroV,0,1):=by rw[primO,if_neg h,if_pos h1]
theorem primO_2 {k:Int}{l:List ValT}(h:(opsP k).1≠0) (h1:(l.any fun v=>!nodesV v)=false) (h2:l.length≠(opsP k).1∨(l.any fun v=>v.op != (opsP k).2)=true):primO k l=(zeroV,0,12):=by
 rw[primO,if_neg h,if_neg (by rw[h1];decide),if_pos h2]
theorem primO_3 {k:Int}{l:List ValT}(h:(opsP k).1≠0) (h1:(l.any fun v=>!nodesV v)=false) (h2:l.length=(opsP k).1) (h3:(l.any fun v=>v.op != (opsP k).2)=false) :
   primO k l=match primP k ((l.map valH).head?.getD zeroH) (lastH (l.map valH)) with | .inl c=>(zeroV,c,0) | .inr v=>(obsH v,0,0):=by
 have hn:¬(l.length≠(opsP k).1∨(l.any fun v=>v.op != (opsP k).2)=true):=by
   rintro (e|e)
   · exact e h2
   · rw[h3] at e;cases e
 rw[primO,if_neg h,if_neg (by rw[h1];decide),if_neg hn]
 rfl
theorem vals_ok {k:Int}{l:List ValT}(h:(opsP k).1≠0) (h1:(l.any fun v=>!nodesV v)=false) (h3:(l.any fun v=>v.op != (opsP k).2)=false):∀v∈l.map valH,okV v:=by
 intro v hv
 obtain ⟨x,hx,rfl⟩:=List.mem_map.1 hv
 have h4:x.op=(opsP k).2:=by simpa using anyV_false h3 hx
 have hk:=opsP_in h
 have h5:=opsP_kind hk.1 hk.2
 refine valH_ok (by simpa using anyV_false h1 hx) ?_
 rw[h4,h5]
 exact kindP_or k
theorem ePrim_spec (k:Int) (l:List ValT) (h:∀v∈l,ndV v≤400):Spec Tryz.prog 22 [ii k,pp (.slice (l.map encV))] [] (.tuple [encV (primO k l).1,.int .i64 (primO k l).2.1,.int .i64 (primO k l).2.2]) []:=by
 have hO:=operands_spec k
 by_cases c0:(opsP k).1=0
 · rw[primO_0 l c0]
   rw[c0] at hO
   refine wk (rv:=[.cell 4 36,.tmp 5,.tmp 6]) annEP 65 Tryz.func22 ?_
   simp only[go_sem]
   refine aCall_intro hO ?_
   simp only[go_sem,Int.natCast_zero,zeroV,encV_mk,List.map_nil]
 have d0:((((opsP k).1:Nat):Int)==0)=false:=by rw[beq_eq_false_iff_ne];omega
 have hI:=invalid_spec l h
 cases c1:l.any fun v=>!nodesV v with
 |true=>
   rw[c1] at hI
   rw[primO_1 c0 c1]
   refine wk (rv:=[.cell 4 36,.tmp 5,.tmp 6]) annEP 65 Tryz.func22 ?_
   simp only[go_sem]
   refine aCall_intro hO ?_
   simp only[go_sem,d0]
   refine aCall_intro hI ?_
   simp only[go_sem,zeroV,encV_mk,List.map_nil]
 |false=>
 rw[c1] at hI
 by_cases c2:l.length=(opsP k).1
 · have d2:((l.length:Int) != (((opsP k).1:Nat):Int))=false:=by rw[c2];simp
   have hK:=otherKind_spec l (opsP k).2
   cases c3:l.any fun v=>v.op != (opsP k).2 with
   |true=>
     rw[c3] at hK
     rw[primO_2 c0 c1 (.inr c3)]
     refine wk (rv:=[.cell 4 36,.tmp 5,.tmp 6]) annEP 65 Tryz.func22 ?_
     simp only[go_sem]
     refine aCall_intro hO ?_
     simp only[go_sem,d0]
     refine aCall_intro hI ?_
     simp only[go_sem,d2,List.length_map]
     refine aCall_intro hK ?_
     simp only[go_sem,zeroV,encV_mk,List.map_nil]
   |false=>
     rw[c3] at hK
     rw[primO_3 c0 c1 c2 c3]
     have hk:=opsP_in c0
     have hle:=opsP_le k
     have ht:=try3_spec k hk.1 hk.2 (l.map valH) (by rw[List.length_map];exact c2) (vals_ok c0 c1 c3)
     have hcd:=primP_good k ((l.map valH).head?.getD zeroH) (lastH (l.map valH))
     generalize primP k ((l.map valH).head?.getD zeroH) (lastH (l.map valH))=r at ht hcd ⊢
     generalize hR:(match r with | .inl c=>(zeroV,c,0) | .inr v=>(obsH v,0,0):ValT×Int×Int)=R
     refine wk (rv:=[.cell 4 36,.tmp 5,.tmp 6]) annEP 65 Tryz.func22 ?_
     simp only[go_sem]
     refine aCall_intro hO ?_
     simp only[go_sem,d0]
     refine aCall_intro hI ?_
     simp only[go_sem,d2,List.length_map]
     refine aCall_intro hK ?_
     simp only[go_sem,List.length_map]
     refine aLoop_list (α:=ValT) (β:=List ValT) (fun rest b=>⟨[(40,ii b.length),(9,.one (.ptr (.loc 9) 0)),(38,pp (.slice (l.map encV))),(4,.one (.ptr (.loc 4) 0)),(2,pp (.ep (.int .i64 k) 0)),(39,ii l.length)],
         [(.loc 4,⟨.agg 5,.agg [.pv (.int .i64 0),.pv (.int .i64 0),.pv (.str ByteArray.empty),.nilS,.nilS]⟩),(.loc 9,⟨.one,.one (accT (b.map valH))⟩)],[]⟩)
       (fun rest b=>l=b++rest) ?_ ?_ l [] _ ?_ rfl
     · rintro b g K
       rw[List.append_nil] at g
       subst g
       have d3:decide ((l.length:Int)<(l.length:Int))=false:=lt_false (Int.le_refl _)
       subst hR
       obtain ⟨x,xr,rfl⟩:∃x xr,l=x::xr:=by
         cases l with
         |nil=>exact absurd c2.symm c0
         |cons x xr=>exact ⟨x,xr,rfl⟩
       simp only[List.length_cons] at d3
       simp only[List.map_cons,accT_cons] at ht ⊢
       cases r with
       |inl c=>
         have d4:((2:Int) != 0)=true:=rfl
         simp only[vBox0] at ht
         simp only[go_sem,d3]
         refine aFlipOr_ops ?_
         simp only[go_sem,Nat.reduceLT,Nat.reduceAdd,ne_eq,List.map_cons]
         refine aCall_intro ht ?_
         simp only[go_sem,d4,zeroV,encV_mk,List.map_nil]
         repeat' (first | (show anc _ _ _ _=true;kernel_rfl) | (refine And.intro ?_ ?_))
         all_goals try simp only[go_sem,d4,zeroV,encV_mk,List.map_nil]
       |inr v=>
         have d4:((0:Int) != 0)=false:=rfl
         simp only[vBox0] at ht
         rcases hw:obsH v with ⟨wop,wn,ws,wnames,wl⟩
         simp only[vBox,hw,encV_mk] at ht
         simp only[go_sem,d3]
         refine aFlipOr_ops ?_
         simp only[go_sem,Nat.reduceLT,Nat.reduceAdd,ne_eq,List.map_cons]
         refine aCall_intro ht ?_
         simp only[go_sem,d4,hw,encV_mk]
         repeat' (first | (show anc _ _ _ _=true;kernel_rfl) | (refine And.intro ?_ ?_))
         all_goals try simp only[go_sem,d4,hw,encV_mk]
     · rintro x rest b g K hK
       have hx:(l.map encV)[b.length]? = some (encV x):=by simp[g]
       have hlt:decide ((b.length:Int)<(l.length:Int))=true:=decide_eq_true (by rw[g];simp;omega)
       have hll:b.length<l.length:=by rw[g];simp
       have w4:IntKind.i64.wrap ((b.length:Int)+1)=((b.length+1:Nat):Int):=by rw[wrapI (by omega) (by omega)];simp
       obtain ⟨xop,xn,xs,xnames,xl⟩:=x
       have eH:=encH_valH xop xn xs xnames xl
       rw[encV_mk] at hx
       cases b with
       |nil=>
         simp only[List.length_nil] at hx hlt w4
         simp only[go_sem,hlt,hx,accT_nil,List.map_nil,List.length_nil,le_mx,w4]
         iterate 8 (try (refine ⟨by kernel_rfl,?_⟩))
         try simp only[go_sem,le_mx,w4]
         refine hK [.mk xop xn xs xnames xl] _ ?_ (by simpa using g)
         simp only[go_sem,List.map_cons,List.map_nil,accT_cons,eH,List.length_cons,List.length_nil]
       |cons b0 br=>
         simp only[List.length_cons] at hx hlt w4 hll
         have e1:((br.length+1+1)*8≤140737488355328)=True:=by simp;omega
         have e2:(br.length+1+1≤maxLen)=True:=by rw[maxLen_eq];simp;omega
         simp only[go_sem,hlt,hx,List.map_cons,accT_cons,List.length_cons,List.length_map,e1,e2,w4]
         iterate 8 (try (refine ⟨by kernel_rfl,?_⟩))
         try simp only[go_sem,e1,e2,w4]
         refine hK (b0::br++[.mk xop xn xs xnames xl]) _ ?_ (by simp[g])
         simp only[go_sem,List.map_append,List.cons_append,List.map_cons,List.map_nil,accT_cons,eH,List.length_append,List.length_cons,List.length_nil]
     · simp only[go_sem,accT_nil,List.map_nil,List.length_nil,Int.natCast_zero]
 · have d2:((l.length:Int) != (((opsP k).1:Nat):Int))=true:=by rw[bne_iff_ne];omega
   rw[primO_2 c0 c1 (.inl c2)]
   refine wk (rv:=[.cell 4 36,.tmp 5,.tmp 6]) annEP 65 Tryz.func22 ?_
   simp only[go_sem]
   refine aCall_intro hO ?_
   simp only[go_sem,d0]
   refine aCall_intro hI ?_
   simp only[go_sem,d2,List.length_map,zeroV,encV_mk,List.map_nil]
end Go.Abs.Kon
