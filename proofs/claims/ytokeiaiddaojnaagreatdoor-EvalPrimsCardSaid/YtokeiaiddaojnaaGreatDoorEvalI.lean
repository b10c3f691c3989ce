/- Evaluation: the reference's observing, Run, and comparing. -/
import Derived.Test.YtokeiaiddaojnaaGreatDoorEvalH
set_option linter.unusedSimpArgs false
set_option linter.unusedVariables false
namespace Go.Abs.Kon
open Go Go.Proofs Go.Abs
set_option maxRecDepth 100000
set_option maxHeartbeats 1000000
mutual
def fH:Th→Prop
 | .mk op n s names l _ env _=>(op=7→n=0∧s=ByteArray.empty∧names=[]∧l=[])∧fHs l∧fHs env
def fHs:List Th→Prop
 | []=>True
 |v::r=>fH v∧fHs r
end
theorem fHs_mem:∀{l:List Th},fHs l↔∀x∈l,fH x
 | []=>by simp[fHs]
 |x::r=>by simp[fHs,fHs_mem (l:=r)]
theorem fH_mk {op n:Int}{s:ByteArray}{names:List ByteArray}{l:List Th}{part:TermT}{env:List Th}{fix:Bool}:fH (.mk op n s names l part env fix)↔(op=7→n=0∧s=ByteArray.empty∧names=[]∧l=[])∧fHs l∧fHs env:=by rw[fH]
theorem fH_simple {op n:Int}{s:ByteArray}{names:List ByteArray}{l:List Th}{part:TermT}(ho:op≠7) (hl:fHs l):fH (.mk op n s names l part [] false):=fH_mk.2 ⟨fun e=>absurd e ho,hl,trivial⟩
theorem fH_int (n:Int):fH (intH n):=by rw[intH];exact fH_simple (by decide) trivial
theorem fH_txt (s:ByteArray):fH (txtH s):=by rw[txtH];exact fH_simple (by decide) trivial
theorem fH_rec {names:List ByteArray}{l:List Th}(h:fHs l):fH (recH names l):=by rw[recH];exact fH_simple (by decide) h
theorem fH_one {v:Th}(h:fH v):fHs [v]:=⟨h,trivial⟩
theorem fH_inj {s:ByteArray}{v:Th}(h:fH v):fH (injH s v):=by rw[injH];exact fH_simple (by decide) (fH_one h)
theorem fH_roll {v:Th}(h:fH v):fH (rollH v):=by rw[rollH];exact fH_simple (by decide) (fH_one h)
theorem fH_unit:fH unitH:=fH_rec trivial
theorem fH_truth (b:Bool):fH (truthH b):=by rw[truthH];exact fH_roll (fH_inj fH_unit)
/-! What the reference observes -/
def obsR:Int ⊕ (ValT×Int)→PV
 | .inl _=>.tuple [encV zeroV,.int .i64 (-1)]
 | .inr r=>.tuple [encV r.1,.int .i64 r.2]
def accR:List ValT→SC
 | []=>.nilS
 |v::r=>.own 122 (.agg 5) ((v::r).map encV)
theorem accR_nil:accR []=.nilS:=rfl
theorem accR_cons (v:ValT) (r:List ValT):accR (v::r)=.own 122 (.agg 5) (encV v::r.map encV):=rfl
theorem robserve_spec:∀(v:Th) (left depth:Int),fH v→0≤left→left≤20000→1≤depth→depth≤401→Spec Tryz.prog 39 [pp (encW v),ii left,ii (401 - depth)] [] (obsR (obsT v left depth)) []:=by
 refine Th.ind1 fun op n s names l part env fix ih1 ih2=>?_
 intro left depth hok h1 h2 h3 h4
 have w1:IntKind.i64.wrap (left - 1)=left - 1:=wrapI (by omega) (by omega)
 by_cases hb:left - 1<0∨depth>400
 · rw[obsT,if_pos hb,obsR]
   refine wk (rv:=[.cell 6 36,.tmp 7]) ann39 66 Tryz.func39 ?_
   by_cases hl:left≤0
   · have d1:decide (left≤0)=true:=decide_eq_true hl
     simp only[go_sem,d1,zeroV,encV_mk,List.map_nil]
   · have d1:decide (left≤0)=false:=decide_eq_false hl
     have d2:decide (401 - depth≤0)=true:=decide_eq_true (by omega)
     simp only[go_sem,d1,d2,zeroV,encV_mk,List.map_nil]
 · have hT:obsT (.mk op n s names l part env fix) left depth=obsK op n s names [] (obsL l (left - 1) (depth+1)):=by
     rw[obsT,if_neg hb];cases obsL l (left - 1) (depth+1)<;>rfl
   rw[hT]
   have d1:decide (left≤0)=false:=decide_eq_false (by omega)
   have d2:decide (401 - depth≤0)=false:=decide_eq_false (by omega)
   obtain ⟨hf7,hfl,_⟩:=fH_mk.1 hok
   by_cases h7:op=7
   · obtain ⟨rfl,rfl,rfl,rfl⟩:=hf7 h7
     subst h7
     rw[obsL,obsK]
     refine wk (rv:=[.cell 6 36,.tmp 7]) ann39 66 Tryz.func39 ?_
     simp only[go_sem,d1,d2,w1,encW_mk,obsR,encV_mk,List.map_nil]
   · have d7:(op==7)=false:=by rw[beq_eq_false_iff_ne];exact h7
     generalize hR:obsK op n s names [] (obsL l (left - 1) (depth+1))=R
     refine wf (rv:=[.cell 6 36,.tmp 7]) ann39 66 Tryz.func39 fun hfit=>?_
     have hlen:l.length≤9223372036854775807:=by
       simp only[argsFit,SV.pv?,SC.pv?,encW_mk,PV.fit,fitL,maxLen_eq,List.length_map] at hfit
       exact hfit.1.2.2.2.2.1.1
     clear hfit
     have w2:IntKind.i64.wrap (401 - depth - 1)=401 - (depth+1):=by rw[wrapI (by omega) (by omega)];omega
     simp only[go_sem,d1,d2,d7,w1,encW_mk]
     refine aLoop_list (α:=Th) (β:=List ValT×Int) (fun rest b=>⟨[(6,.one (.ptr (.loc 6) 0)),(9,ii b.1.length),(8,.one (.ptr (.loc 8) 0)),(2,ii (401 - depth)),(1,ii b.2),(3,pp (.ep (encW (.mk op n s names l part env fix)) 0))],
         [(.loc 6,⟨.agg 5,.agg [.pv (.int .i64 0),.pv (.int .i64 0),.pv (.str ByteArray.empty),.nilS,.nilS]⟩),(.loc 8,⟨.agg 5,.agg [.pv (.int .i64 op),.pv (.int .i64 n),.pv (.str s),.pv (.slice (names.map .str)),accR b.1]⟩)],[]⟩)
       (fun rest b=>obsK op n s names b.1 (obsL rest b.2 (depth+1))=R∧(∃pre,l=pre++rest∧b.1.length=pre.length)∧0≤b.2∧b.1.length+b.2≤20000) ?_ ?_ l ([],left - 1) _ ?_ ⟨hR,⟨[],rfl,rfl⟩,by show 0≤left - 1;omega,by show ((0:Nat):Int)+(left - 1)≤20000;omega⟩
     · rintro ⟨ws,lf⟩ ⟨g1,⟨pre,g2,g3⟩,g5,g6⟩ K
       simp only at g1 g3 g5 g6
       rw[List.append_nil] at g2
       subst g2
       rw[obsL] at g1
       have d0:decide ((ws.length:Int)<(l.length:Int))=false:=by rw[g3];exact lt_false (Int.le_refl _)
       simp only[obsK,List.append_nil] at g1
       subst g1
       cases ws with
       |nil=>
         simp only[List.length_nil] at d0
         simp only[go_sem,encW_mk,List.length_map,List.length_nil,d0,accR_nil,obsR,encV_mk,List.map_nil]
       |cons w0 wr=>
         simp only[List.length_cons] at d0
         simp only[go_sem,encW_mk,List.length_map,List.length_cons,d0,accR_cons,obsR,encV_mk,List.map_cons]
     · rintro x rest ⟨ws,lf⟩ ⟨g1,⟨pre,g2,g3⟩,g5,g6⟩ K hK
       simp only at g1 g3 g5 g6
       have hx:(l.map encW)[ws.length]? = some (encW x):=by rw[g2,g3];simp
       have hlt:decide ((ws.length:Int)<(l.length:Int))=true:=decide_eq_true (by rw[g2,g3];simp;omega)
       have hvl:ws.length<l.length:=by rw[g2,g3];simp
       have w4:IntKind.i64.wrap ((ws.length:Int)+1)=((ws.length+1:Nat):Int):=by rw[wrapI (by omega) (by omega)];simp
       have hxm:x∈l:=by rw[g2];simp
       rw[obsL] at g1
       have hsp:=ih1 x hxm lf (depth+1) (fHs_mem.1 hfl x hxm) g5 (by omega) (by omega) (by omega)
       generalize hr1:obsT x lf (depth+1)=r1 at hsp g1
       have e1:((ws.length+1)*80≤140737488355328)=True:=by simp;omega
       have e2:(ws.length+1≤maxLen)=True:=by rw[maxLen_eq];simp;omega
       cases ws with
       |nil=>
         simp only[List.length_nil] at hx hlt w4 g6
         simp only[go_sem,encW_mk,List.length_map,List.length_nil,hlt,hx,accR_nil,w2]
         refine aCall_intro hsp ?_
         cases r1 with
         |inl e=>
           subst g1
           simp only[go_sem,obsR,obsK,zeroV,encV_mk,List.map_nil]
         |inr r=>
           obtain ⟨w,lf1⟩:=r
           have hle:=obsT_le x lf (depth+1) w lf1 hr1
           have d3:decide (lf1<0)=false:=decide_eq_false (by omega)
           have g1:=(obsK_cons op n s names w _ (obsL rest lf1 (depth+1))).symm.trans g1
           simp only[go_sem,obsR,d3,le_mx,w4]
           refine hK ([w],lf1) _ ?_ ⟨g1,⟨pre++[x],by rw[g2];simp,by rw[List.length_append,←g3];rfl⟩,hle.1,by show ((1:Nat):Int)+lf1≤20000;omega⟩
           simp only[go_sem,encW_mk,accR_cons,List.length_cons,List.length_nil,List.map_nil]
       |cons w0 wr=>
         simp only[List.length_cons] at hx hlt w4 g6 e1 e2
         simp only[go_sem,encW_mk,List.length_map,List.length_cons,hlt,hx,accR_cons,w2]
         refine aCall_intro hsp ?_
         cases r1 with
         |inl e=>
           subst g1
           simp only[go_sem,obsR,obsK,zeroV,encV_mk,List.map_nil]
         |inr r=>
           obtain ⟨w,lf1⟩:=r
           have hle:=obsT_le x lf (depth+1) w lf1 hr1
           have d3:decide (lf1<0)=false:=decide_eq_false (by omega)
           have g1:=(obsK_cons op n s names w _ (obsL rest lf1 (depth+1))).symm.trans g1
           simp only[go_sem,obsR,d3,e1,e2,List.length_map,w4]
           refine hK (w0::wr++[w],lf1) _ ?_ ⟨g1,⟨pre++[x],by rw[g2];simp,by simp at g3 ⊢;omega⟩,hle.1,by simp only[List.length_append,List.length_cons,List.length_nil];omega⟩
           simp only[go_sem,encW_mk,accR_cons,List.map_append,List.length_append,List.cons_append,List.length_cons,List.length_nil,List.map_cons,List.map_nil]
     · simp only[go_sem,accR_nil,encW_mk,List.length_nil,Int.natCast_zero]
end Go.Abs.Kon
namespace Go.Abs.Kon
open Go Go.Proofs Go.Abs
set_option maxRecDepth 100000
set_option maxHeartbeats 1000000
def annRR:Ann:=⟨[2],[2000006,6900006,4006029],ann11.live,ann11.head⟩
@[go_sem] theorem annRR_imm:annRR.imm=[2]:=rfl
@[go_sem] theorem annRR_frz:annRR.frz=[2000006,6900006,4006029]:=rfl
@[go_sem] theorem annRR_live:annRR.live=ann11.live:=rfl
@[go_sem] theorem annRR_head:annRR.head=ann11.head:=rfl
end Go.Abs.Kon
namespace Go.Abs.Kon
open Go Go.Proofs Go.Abs
set_option maxRecDepth 100000
set_option maxHeartbeats 1000000
mutual
theorem ValT.ind1 {M:ValT→Prop}(h:∀op n s names l,(∀x∈l,M x)→M (.mk op n s names l)):∀c,M c
 | .mk op n s names l=>h op n s names l (ValT.ind2 h l)
theorem ValT.ind2 {M:ValT→Prop}(h:∀op n s names l,(∀x∈l,M x)→M (.mk op n s names l)):∀l:List ValT,∀x∈l,M x
 | [],_,hx=>absurd hx (by simp)
 |c::l,x,hx=>(List.mem_cons.1 hx).elim (fun e=>e ▸ ValT.ind1 h c) (fun hx=>ValT.ind2 h l x hx)
end
theorem SameAll_refl (l:List ValT) (h:∀x∈l,Spec Tryz.prog 16 [pp (encV x),pp (encV x)] [] (.bool true) []):Spec Tryz.prog 46 [pp (.slice (l.map encV)),pp (.slice (l.map encV))] [] (.bool true) []:=by
 refine wf (rv:=[.tmp 4]) ann46 27 Tryz.func46 fun hfit=>?_
 have hlen:l.length≤9223372036854775807:=by
   simp only[argsFit,SV.pv?,SC.pv?,PV.fit,maxLen_eq,List.length_map] at hfit
   exact hfit.1.1
 clear hfit
 have d1:((l.length:Int) != (l.length:Int))=false:=by simp
 simp only[go_sem,List.length_map,d1]
 refine aLoop_list (α:=ValT) (β:=Nat) (fun rest m=>⟨[(5,ii m),(1,pp (.slice (l.map encV))),(0,pp (.slice (l.map encV)))],[],[]⟩) (fun rest m=>∃pre,l=pre++rest∧m=pre.length) ?_ ?_ l 0 _ ?_ ⟨[],rfl,rfl⟩
 · rintro m ⟨pre,g1,g2⟩ K
   simp only[List.append_nil] at g1
   subst g1
   simp only[go_sem,g2,lt_false (Int.le_refl _),List.length_map]
 · rintro x rest m ⟨pre,g1,g2⟩ K hK
   have hx:(l.map encV)[m]? = some (encV x):=by simp[g1,g2]
   have hlt:decide ((m:Int)<(l.length:Int))=true:=decide_eq_true (by rw[g1,g2];simp;omega)
   have hll:m<l.length:=by rw[g1,g2];simp
   have w4:IntKind.i64.wrap ((m:Int)+1)=((m+1:Nat):Int):=by rw[wrapI (by omega) (by omega)];simp
   simp only[go_sem,hlt,hx,List.length_map]
   iterate 8 (try (refine ⟨by kernel_rfl,?_⟩))
   refine aCall_intro (h x (by rw[g1];simp)) ?_
   simp only[go_sem,w4]
   refine hK (m+1) _ ?_ ⟨pre++[x],by simp[g1],by simp[g2]⟩
   simp only[go_sem]
 · simp only[go_sem,Int.natCast_zero]
theorem Same14_refl:∀v:ValT,Spec Tryz.prog 16 [pp (encV v),pp (encV v)] [] (.bool true) []:=by
 refine ValT.ind1 fun op n s names l ih=>?_
 have hS:=SameAll_refl l ih
 rw[encV_mk]
 refine wf (rv:=[.tmp 4]) ann16 66 Tryz.func16 fun hfit=>?_
 have hlen:names.length≤9223372036854775807:=by
   simp only[argsFit,SV.pv?,SC.pv?,PV.fit,fitL,maxLen_eq,List.length_map] at hfit
   exact hfit.1.2.2.2.1.1
 clear hfit
 have d1:(op != op)=false:=by simp
 have d2:(n != n)=false:=by simp
 have d3:(s.toList==s.toList)=true:=by rw[beq_iff_eq]
 have d4:((names.length:Int) != (names.length:Int))=false:=by simp
 have d5:((l.length:Int) != (l.length:Int))=false:=by simp
 simp only[go_sem,List.length_map,d1,d2,d3,d4,d5]
 refine aLoop_list (α:=ByteArray) (β:=Nat) (fun rest m=>⟨[(5,ii m),(3,pp (.ep (.agg [.int .i64 op,.int .i64 n,.str s,.slice (names.map .str),.slice (l.map encV)]) 0)),(2,pp (.ep (.agg [.int .i64 op,.int .i64 n,.str s,.slice (names.map .str),.slice (l.map encV)]) 0))],[],[]⟩) (fun rest m=>∃pre,names=pre++rest∧m=pre.length) ?_ ?_ names 0 _ ?_ ⟨[],rfl,rfl⟩
 · rintro m ⟨pre,g1,g2⟩ K
   simp only[List.append_nil] at g1
   subst g1
   simp only[go_sem,g2,lt_false (Int.le_refl _),List.length_map]
   iterate 8 (try (refine ⟨by kernel_rfl,?_⟩))
   refine aCall_intro hS ?_
   simp only[go_sem]
 · rintro x rest m ⟨pre,g1,g2⟩ K hK
   have hx:(names.map PV.str)[m]? = some (.str x):=by simp[g1,g2]
   have hlt:decide ((m:Int)<(names.length:Int))=true:=decide_eq_true (by rw[g1,g2];simp;omega)
   have hll:m<names.length:=by rw[g1,g2];simp
   have w4:IntKind.i64.wrap ((m:Int)+1)=((m+1:Nat):Int):=by rw[wrapI (by omega) (by omega)];simp
   have d6:(x.toList==x.toList)=true:=by rw[beq_iff_eq]
   simp only[go_sem,hlt,hx,List.length_map,d6,w4]
   iterate 8 (try (refine ⟨by kernel_rfl,?_⟩))
   try simp only[go_sem,hlt,hx,List.length_map,d6,w4]
   refine hK (m+1) _ ?_ ⟨pre++[x],by simp[g1],by simp[g2]⟩
   simp only[go_sem]
 · simp only[go_sem,Int.natCast_zero]
end Go.Abs.Kon
