/- Prim of the reference. -/
import Derived.Test.YtokeiaiddaojnaaGreatDoorPrimsB
import Derived.Test.YtokeiaiddaojnaaGreatDoorPrimsA
set_option linter.unusedSimpArgs false
set_option linter.unusedVariables false
namespace Go.Abs.Kon
open Go Go.Proofs Go.Abs
set_option maxRecDepth 100000
set_option maxHeartbeats 1000000
def numTxt (v:ValT):Bool:=v.op==1||v.op==2
theorem back_spec (v:ValT):Spec Tryz.prog 55 [pp (encV v)] [] (.tuple [encW (valH v),.bool (numTxt v)]) []:=by
 obtain ⟨op,n,s,names,l⟩:=v
 have e:encW (valH (.mk op n s names l))=.agg [.int .i64 op,.int .i64 n,.str s,.slice [],.slice [],.int .i64 0,.int .i64 0,.str ByteArray.empty,.int .i64 0,.int .i64 0,.str ByteArray.empty,.slice [],.slice [],.slice [],
     .int .i64 0,.int .i64 0,.str ByteArray.empty,.slice [],.slice [],.slice [],.slice [],.slice [],.slice [],.slice [],.bool false]:=encW_simple op n s [] []
 rw[e,numTxt]
 show Spec _ _ _ _ (.tuple [_,.bool (op==1||op==2)]) _
 refine wk (rv:=[.cell 2 83,.tmp 3]) ann55 19 Tryz.func55 ?_
 cases h1:op==1<;>cases h2:op==2
 all_goals simp only[go_sem,encV_mk,h1,h2,Bool.true_or,Bool.false_or]
 all_goals repeat' (first | (show anc _ _ _ _=true;kernel_rfl) | (refine And.intro ?_ ?_))
 all_goals try simp only[go_sem,encV_mk,h1,h2,Bool.true_or,Bool.false_or]
theorem Fit_no (k:Int) (l:List Th) (hlen:l.length≤1000) (hl:(l.length:Int)≠(if k=6∨k=11∨k=13∨k=14 then (1:Int) else 2)):Spec Tryz.prog 56 [ii k,pp (.slice (l.map encW))] [] (.bool false) []:=by
 have ht:=texts_spec k
 have ha:=arity_spec k
 generalize (if k=6∨k=11∨k=13∨k=14 then (1:Int) else 2)=ar at ha hl
 have d2:((l.length:Int)==ar)=false:=by rw[beq_eq_false_iff_ne];exact hl
 generalize hw:(if kindP k=2 then (2:Int) else 1)=w
 have key:∀(m:Nat) (rest:List Th),True:=fun _ _=>trivial
 cases hk:(kindP k==2) with
 |false=>
   rw[hk] at ht
   refine wk (rv:=[.tmp 4]) ann56 27 Tryz.func56 ?_
   simp only[go_sem]
   refine aCall_intro ht ?_
   simp only[go_sem]
   refine aLoop_list (α:=Th) (β:=Nat) (fun rest m=>⟨[(6,ii m),(5,ii 1),(1,pp (.slice (l.map encW))),(0,ii k)],[],[]⟩) (fun rest m=>(∃pre,l=pre++rest∧m=pre.length)) ?_ ?_ l 0 _ ?_ ⟨[],rfl,rfl⟩
   · rintro m ⟨pre,g1,g2⟩ K
     simp only[List.append_nil] at g1
     subst g1
     simp only[go_sem,g2,lt_false (Int.le_refl _),List.length_map]
     refine aCall_intro ha ?_
     simp only[go_sem,d2,List.length_map]
   · rintro x rest m ⟨pre,g1,g2⟩ K hK
     have hx:(l.map encW)[m]? = some (encW x):=by simp[g1,g2]
     have hlt:decide ((m:Int)<(l.length:Int))=true:=decide_eq_true (by rw[g1,g2];simp;omega)
     have hll:m<l.length:=by rw[g1,g2];simp
     have w4:IntKind.i64.wrap ((m:Int)+1)=((m+1:Nat):Int):=by rw[wrapI (by omega) (by omega)];simp
     cases x with
     |mk op1 n1 s1 names1 l1 part1 env1 fix1=>
       cases hb:(op1 != 1) with
       |true=>simp only[go_sem,hlt,hx,encW_mk,hb,List.length_map]
       |false=>
         simp only[go_sem,hlt,hx,encW_mk,hb,w4,List.length_map]
         refine hK (m+1) _ ?_ ⟨pre++[Th.mk op1 n1 s1 names1 l1 part1 env1 fix1],by simp[g1],by simp[g2]⟩
         simp only[go_sem]
   · simp only[go_sem,Int.natCast_zero]
 |true=>
   rw[hk] at ht
   refine wk (rv:=[.tmp 4]) ann56 27 Tryz.func56 ?_
   simp only[go_sem]
   refine aCall_intro ht ?_
   simp only[go_sem]
   refine aLoop_list (α:=Th) (β:=Nat) (fun rest m=>⟨[(6,ii m),(5,ii 2),(1,pp (.slice (l.map encW))),(0,ii k)],[],[]⟩) (fun rest m=>(∃pre,l=pre++rest∧m=pre.length)) ?_ ?_ l 0 _ ?_ ⟨[],rfl,rfl⟩
   · rintro m ⟨pre,g1,g2⟩ K
     simp only[List.append_nil] at g1
     subst g1
     simp only[go_sem,g2,lt_false (Int.le_refl _),List.length_map]
     refine aCall_intro ha ?_
     simp only[go_sem,d2,List.length_map]
   · rintro x rest m ⟨pre,g1,g2⟩ K hK
     have hx:(l.map encW)[m]? = some (encW x):=by simp[g1,g2]
     have hlt:decide ((m:Int)<(l.length:Int))=true:=decide_eq_true (by rw[g1,g2];simp;omega)
     have hll:m<l.length:=by rw[g1,g2];simp
     have w4:IntKind.i64.wrap ((m:Int)+1)=((m+1:Nat):Int):=by rw[wrapI (by omega) (by omega)];simp
     cases x with
     |mk op1 n1 s1 names1 l1 part1 env1 fix1=>
       cases hb:(op1 != 2) with
       |true=>simp only[go_sem,hlt,hx,encW_mk,hb,List.length_map]
       |false=>
         simp only[go_sem,hlt,hx,encW_mk,hb,w4,List.length_map]
         refine hK (m+1) _ ?_ ⟨pre++[Th.mk op1 n1 s1 names1 l1 part1 env1 fix1],by simp[g1],by simp[g2]⟩
         simp only[go_sem]
   · simp only[go_sem,Int.natCast_zero]
theorem numP_fH {n:Int}{v:Th}(h:numP n=.inr v):fH v:=by
 rw[numP] at h
 split at h
 · cases h
 · cases h;exact fH_int _
theorem txtP_fH {s:ByteArray}{v:Th}(h:txtP s=.inr v):fH v:=by
 rw[txtP] at h
 split at h
 · cases h
 · cases h;exact fH_txt _
def goodF (r:Int ⊕ Th):Prop:=∀v,r=.inr v→fH v
theorem primP_fH (k:Int) (a b:Th):goodF (primP k a b):=by
 have num:∀n,goodF (numP n):=fun n v h=>numP_fH h
 have txt:∀s,goodF (txtP s):=fun s v h=>txtP_fH h
 have inl:∀c,goodF (.inl c):=fun c v h=>nomatch h
 have inr:∀v,fH v→goodF (.inr v):=fun v h w e=>by cases e;exact h
 have mul:∀a b,goodF (mulP a b):=fun a b=>(mulP_or a b).elim (fun e=>by rw[e];exact inl 2) fun e=>by rw[e];exact num _
 have tru:∀b,goodF (.inr (truthH b)):=fun b=>inr _ (fH_truth b)
 unfold primP
 exact ite_P (num _) (ite_P (num _) (ite_P (mul _ _) (ite_P (ite_P (inl _) (num _)) (ite_P (ite_P (inl _) (num _)) (ite_P (num _)
   (ite_P (tru _) (ite_P (tru _) (ite_P (tru _) (ite_P (txt _) (ite_P (num _) (ite_P (tru _) (ite_P (txt _) (inr _ fH_unit)))))))))))))
theorem primS_P (k:Int) (l:List Th):(∀c,primP k (l.head?.getD zeroH) (lastH l)=.inl c→primS k l 0 []=.bad 2 c 0 [])∧∀v,primP k (l.head?.getD zeroH) (lastH l)=.inr v→∃out,primS k l 0 []=.ok v 0 out:=by
 by_cases h:k=14
 · subst h
   have e:primP 14 (l.head?.getD zeroH) (lastH l)=.inr unitH:=rfl
   rw[e]
   refine ⟨fun c h=>(nomatch h),fun v h=>⟨[]++[(l.head?.getD zeroH).s],?_⟩⟩
   cases h
   rw[primS,if_pos rfl,if_neg (by decide)]
 · rw[primS,if_neg h]
   exact ⟨fun c e=>by rw[e];rfl,fun v e=>⟨[],by rw[e];rfl⟩⟩
end Go.Abs.Kon
namespace Go.Abs.Kon
open Go Go.Proofs Go.Abs
set_option maxRecDepth 100000
set_option maxHeartbeats 1000000
def accP:List Th→SC
 | []=>.nilS
 |v::r=>.own 112 (.agg 25) ((v::r).map encW)
theorem accP_nil:accP []=.nilS:=rfl
theorem accP_cons (v:Th) (r:List Th):accP (v::r)=.own 112 (.agg 25) (encW v::r.map encW):=rfl
def annRP2:Ann:=⟨[],[2000019,6900019,4019063],ann23.live,ann23.head⟩
@[go_sem] theorem annRP2_imm:annRP2.imm=[]:=rfl
@[go_sem] theorem annRP2_frz:annRP2.frz=[2000019,6900019,4019063]:=rfl
@[go_sem] theorem annRP2_live:annRP2.live=ann23.live:=rfl
@[go_sem] theorem annRP2_head:annRP2.head=ann23.head:=rfl
theorem opsP_out {k:Int}:(opsP k).1=0↔k<1∨k>14:=by
 refine ⟨fun h=>?_,fun h=>?_⟩
 · unfold opsP at h
   split at h
   · cases h
   · split at h
     · cases h
     · split at h
       · cases h
       · split at h
         · cases h
         · omega
 · unfold opsP
   rw[if_neg (by omega),if_neg (by omega),if_neg (by omega),if_neg (by omega)]
def vz:Box:=⟨.agg 5,.agg [.pv (.int .i64 0),.pv (.int .i64 0),.pv (.str ByteArray.empty),.nilS,.nilS]⟩
theorem arity_ops {k:Int}(h:(opsP k).1≠0):(((opsP k).1:Nat):Int)=if k=6∨k=11∨k=13∨k=14 then (1:Int) else 2:=by
 have hk:=opsP_in h
 have hk:k=1∨k=2∨k=3∨k=4∨k=5∨k=6∨k=7∨k=8∨k=9∨k=10∨k=11∨k=12∨k=13∨k=14:=by omega
 rcases hk with rfl|rfl|rfl|rfl|rfl|rfl|rfl|rfl|rfl|rfl|rfl|rfl|rfl|rfl<;>rfl
theorem Fit_all (k:Int) (l:List ValT) (h:(opsP k).1≠0) (hlen:l.length≤1000):Spec Tryz.prog 56 [ii k,pp (.slice ((l.map valH).map encW))] []
   (.bool (decide (l.length=(opsP k).1)&&!(l.any fun v=>v.op != (opsP k).2))) []:=by
 have hk:=opsP_in h
 by_cases hl:l.length=(opsP k).1
 · have:=Fit_spec k hk.1 hk.2 (l.map valH) (by rw[List.length_map];exact hl)
   have e:((l.map valH).any fun v=>v.op != kindP k)=l.any fun v=>v.op != (opsP k).2:=by
     rw[List.any_map,opsP_kind hk.1 hk.2];rfl
   rw[e] at this
   rw[decide_eq_true hl,Bool.true_and]
   exact this
 · rw[decide_eq_false hl,Bool.false_and]
   refine Fit_no k (l.map valH) (by rw[List.length_map];exact hlen) ?_
   rw[←arity_ops h,List.length_map]
   omega
theorem rPrim_spec (k:Int) (l:List ValT) (hlen:l.length≤3) (h:∀v∈l,okW v∧sizedV v∧ndV v≤400):Spec Tryz.prog 23 [ii k,pp (.slice (l.map encV))] [] (.tuple [encV (primO k l).1,.int .i64 (primO k l).2.1,.int .i64 (primO k l).2.2]) []:=by
 by_cases c0:(opsP k).1=0
 · rw[primO_0 l c0]
   have hk:=opsP_out.1 c0
   refine wk (rv:=[.cell 4 36,.tmp 5,.tmp 6]) annRP2 84 Tryz.func23 ?_
   by_cases k1:k<1
   · simp only[go_sem,decide_eq_true k1,zeroV,encV_mk,List.map_nil]
   · simp only[go_sem,decide_eq_false k1,decide_eq_true (hk.resolve_left k1),zeroV,encV_mk,List.map_nil]
 have hk:=opsP_in c0
 have k1:decide (k<1)=false:=decide_eq_false (by omega)
 have k2:decide (k>14)=false:=decide_eq_false (by omega)
 cases c1:l.any fun v=>!nodesV v with
 |true=>
   rw[primO_1 c0 c1]
   refine wk (rv:=[.cell 4 36,.tmp 5,.tmp 6]) annRP2 84 Tryz.func23 ?_
   simp only[go_sem,k1,k2]
   refine aLoop_list (α:=ValT) (β:=Nat) (fun rest m=>⟨[(4,.one (.ptr (.loc 4) 0)),(7,ii m),(1,pp (.slice (l.map encV))),(0,ii k)],[(.loc 4,vz)],[]⟩)
     (fun rest m=>(∃pre,l=pre++rest∧m=pre.length)∧(rest.any fun v=>!nodesV v)=true) ?_ ?_ l 0 _ ?_ ⟨⟨[],rfl,rfl⟩,c1⟩
   · rintro m ⟨_,g3⟩ K
     rw[List.any_nil] at g3
     cases g3
   · rintro x rest m ⟨⟨pre,g1,g2⟩,g3⟩ K hK
     have hx:(l.map encV)[m]? = some (encV x):=by simp[g1,g2]
     have hlt:decide ((m:Int)<(l.length:Int))=true:=decide_eq_true (by rw[g1,g2];simp;omega)
     have hll:m<l.length:=by rw[g1,g2];simp
     have w4:IntKind.i64.wrap ((m:Int)+1)=((m+1:Nat):Int):=by rw[wrapI (by omega) (by omega)];simp
     obtain ⟨q1,q2,q3⟩:=h x (by simp[g1])
     have hV:=rValid14_spec x q1 q2 q3
     rw[List.any_cons] at g3
     cases hn:nodesV x with
     |false=>
       rw[hn] at hV
       simp only[go_sem,hlt,hx,List.length_map,vz,encV_sz]
       refine aCall_intro hV ?_
       simp only[go_sem,zeroV,encV_mk,List.map_nil]
     |true=>
       rw[hn] at hV g3
       rw[Bool.not_true,Bool.false_or] at g3
       simp only[go_sem,hlt,hx,List.length_map,vz,encV_sz]
       refine aCall_intro hV ?_
       simp only[go_sem,w4]
       refine hK (m+1) _ ?_ ⟨⟨pre++[x],by simp[g1],by simp[g2]⟩,g3⟩
       simp only[go_sem,vz]
   · simp only[go_sem,vz,Int.natCast_zero]
 |false=>
 have hF:=Fit_all k l c0 (by omega)
 generalize hR:primO k l=R
 refine wk (rv:=[.cell 4 36,.tmp 5,.tmp 6]) annRP2 84 Tryz.func23 ?_
 simp only[go_sem,k1,k2]
 refine aLoop_list (α:=ValT) (β:=Nat) (fun rest m=>⟨[(4,.one (.ptr (.loc 4) 0)),(7,ii m),(1,pp (.slice (l.map encV))),(0,ii k)],[(.loc 4,vz)],[]⟩)
   (fun rest m=>(∃pre,l=pre++rest∧m=pre.length)) ?_ ?_ l 0 _ ?_ ⟨[],rfl,rfl⟩
 · rintro m ⟨pre,g1,g2⟩ K
   simp only[List.append_nil] at g1
   subst g1
   simp only[go_sem,g2,lt_false (Int.le_refl _),List.length_map,vz]
   cases cT:l.any fun v=>!numTxt v with
   |true=>
     have hP2:primO k l=(zeroV,0,12):=by
       refine primO_2 c0 c1 (.inr ?_)
       rw[List.any_eq_true] at cT ⊢
       obtain ⟨x,hx,hn⟩:=cT
       refine ⟨x,hx,?_⟩
       have h5:=opsP_kind hk.1 hk.2
       have h6:=kindP_or k
       rw[bne_iff_ne]
       intro e
       rw[numTxt,e,h5] at hn
       rcases h6 with h6|h6<;>rw[h6] at hn<;>cases hn
     rw[hP2] at hR
     subst hR
     refine aLoop_list (α:=ValT) (β:=List ValT) (fun rest b=>⟨[(4,.one (.ptr (.loc 4) 0)),(9,ii b.length),(8,.one (accP (b.map valH))),(1,pp (.slice (l.map encV))),(0,ii k)],[(.loc 4,vz)],[]⟩)
       (fun rest b=>l=b++rest∧(rest.any fun v=>!numTxt v)=true) ?_ ?_ l [] _ ?_ ⟨rfl,cT⟩
     · rintro b ⟨_,g3⟩ K
       rw[List.any_nil] at g3
       cases g3
     · rintro x rest b ⟨g1,g3⟩ K hK
       have hx:(l.map encV)[b.length]? = some (encV x):=by simp[g1]
       have hlt:decide ((b.length:Int)<(l.length:Int))=true:=decide_eq_true (by rw[g1];simp;omega)
       have hll:b.length<l.length:=by rw[g1];simp
       have w4:IntKind.i64.wrap ((b.length:Int)+1)=((b.length+1:Nat):Int):=by rw[wrapI (by omega) (by omega)];simp
       have hB:=back_spec x
       rw[List.any_cons] at g3
       cases hn:numTxt x with
       |false=>
         rw[hn] at hB
         simp only[go_sem,hlt,hx,List.length_map,vz,encV_sz]
         refine aCall_intro hB ?_
         simp only[go_sem,zeroV,encV_mk,List.map_nil]
       |true=>
         rw[hn] at hB g3
         rw[Bool.not_true,Bool.false_or] at g3
         cases b with
         |nil=>
           simp only[List.length_nil] at hx hlt w4
           simp only[go_sem,hlt,hx,List.length_map,List.length_nil,List.map_nil,accP_nil,vz,encV_sz]
           refine aCall_intro hB ?_
           simp only[go_sem,le_mx,w4]
           iterate 8 (try (refine ⟨by kernel_rfl,?_⟩))
           try simp only[go_sem,le_mx,w4]
           refine hK [x] _ ?_ ⟨by simpa using g1,g3⟩
           simp only[go_sem,vz,List.map_cons,List.map_nil,accP_cons,List.length_cons,List.length_nil]
         |cons b0 br=>
           simp only[List.length_cons] at hx hlt w4 hll
           have e1:((br.length+1+1)*424≤140737488355328)=True:=by simp;omega
           have e2:(br.length+1+1≤maxLen)=True:=by rw[maxLen_eq];simp;omega
           simp only[go_sem,hlt,hx,List.length_map,List.length_cons,List.map_cons,accP_cons,vz,encV_sz]
           refine aCall_intro hB ?_
           simp only[go_sem,e1,e2,List.length_map,w4]
           iterate 8 (try (refine ⟨by kernel_rfl,?_⟩))
           try simp only[go_sem,e1,e2,List.length_map,w4]
           refine hK (b0::br++[x]) _ ?_ ⟨by simp[g1],g3⟩
           simp only[go_sem,vz,List.map_append,List.cons_append,List.map_cons,List.map_nil,accP_cons,List.length_append,List.length_cons,List.length_nil]
     · simp only[go_sem,vz,accP_nil,List.map_nil,List.length_nil,Int.natCast_zero]
   |false=>
     refine aLoop_list (α:=ValT) (β:=List ValT) (fun rest b=>⟨[(4,.one (.ptr (.loc 4) 0)),(9,ii b.length),(8,.one (accP (b.map valH))),(1,pp (.slice (l.map encV))),(0,ii k)],[(.loc 4,vz)],[]⟩)
       (fun rest b=>l=b++rest) ?_ ?_ l [] _ ?_ rfl
     · rintro b g1 K
       rw[List.append_nil] at g1
       subst g1
       by_cases cL:l.length=(opsP k).1
       · cases cO:l.any fun v=>v.op != (opsP k).2 with
         |true=>
           rw[primO_2 c0 c1 (.inr cO)] at hR
           subst hR
           rw[cO,Bool.not_true,Bool.and_false] at hF
           obtain ⟨x,xr,rfl⟩:∃x xr,l=x::xr:=by
             cases l with
             |nil=>exact absurd cL.symm c0
             |cons x xr=>exact ⟨x,xr,rfl⟩
           have d3:decide ((((x::xr).length:Nat):Int)<(((x::xr).length:Nat):Int))=false:=lt_false (Int.le_refl _)
           simp only[List.length_cons] at d3
           simp only[List.map_cons] at hF
           simp only[go_sem,d3,List.length_map,List.length_cons,List.map_cons,accP_cons,vz]
           refine aCall_intro hF ?_
           simp only[go_sem,zeroV,encV_mk,List.map_nil]
         |false=>
           rw[primO_3 c0 c1 cL cO] at hR
           rw[cO,decide_eq_true cL,Bool.not_false,Bool.and_true] at hF
           have hP:=fun T=>rprimS_spec T 0 0 [] k (l.map valH) hk.1 hk.2 (by rw[List.length_map];exact cL) (vals_ok c0 c1 cO) (Nat.zero_le _) 0
           obtain ⟨p1,p2⟩:=primS_P k (l.map valH)
           have hfH:=primP_fH k ((l.map valH).head?.getD zeroH) (lastH (l.map valH))
           generalize hr:primP k ((l.map valH).head?.getD zeroH) (lastH (l.map valH))=r at hR p1 p2 hfH
           obtain ⟨x,xr,rfl⟩:∃x xr,l=x::xr:=by
             cases l with
             |nil=>exact absurd cL.symm c0
             |cons x xr=>exact ⟨x,xr,rfl⟩
           have d3:decide ((((x::xr).length:Nat):Int)<(((x::xr).length:Nat):Int))=false:=lt_false (Int.le_refl _)
           simp only[List.length_cons] at d3
           simp only[List.map_cons] at hF hP p1 p2
           subst hR
           cases r with
           |inl c=>
             have d4:((2:Int) != 0)=true:=rfl
             rw[p1 c rfl] at hP
             simp only[go_sem,d3,List.length_map,List.length_cons,List.map_cons,accP_cons,vz]
             refine aCall_intro hF ?_
             simp only[go_sem]
             refine aFlipOr_ops ?_
             simp only[go_sem,Nat.reduceLT,Nat.reduceAdd,ne_eq,List.map_cons]
             refine aCall_res (hP _) ?_
             simp only[go_sem,stB,encS_bad,encW_z,encW_simple,d4,zeroV,encV_mk,List.map_nil,strs]
             repeat' (first | (show anc _ _ _ _=true;kernel_rfl) | (refine And.intro ?_ ?_))
             all_goals try simp only[go_sem,stB,encS_bad,encW_z,encW_simple,d4,zeroV,encV_mk,List.map_nil,strs]
           |inr v=>
             have d4:((0:Int) != 0)=false:=rfl
             obtain ⟨out,ho⟩:=p2 v rfl
             rw[ho] at hP
             obtain ⟨w,hw⟩:=primP_obs hr
             have hob:Spec Tryz.prog 39 [pp (encW v),ii 20000,ii 400] [] (obsR (obsT v 20000 1)) []:=robserve_spec v 20000 1 (hfH v rfl) (by decide) (by decide) (by decide) (by decide)
             rw[hw] at hob
             have hO:obsH v=w.1:=by rw[obsH,hw]
             rcases hw1:w.1 with ⟨wop,wn,ws,wnames,wl⟩
             simp only[obsR,hw1,encV_mk] at hob
             rw[hw1] at hO
             simp only[go_sem,d3,List.length_map,List.length_cons,List.map_cons,accP_cons,vz]
             refine aCall_intro hF ?_
             simp only[go_sem]
             refine aFlipOr_ops ?_
             simp only[go_sem,Nat.reduceLT,Nat.reduceAdd,ne_eq,List.map_cons]
             refine aCall_res (hP _) ?_
             simp only[go_sem,stB,encS_ok,d4]
             iterate 8 (try (refine ⟨by kernel_rfl,?_⟩))
             try simp only[go_sem,stB,encS_ok,d4]
             refine aCall_intro hob ?_
             simp only[go_sem,hO,encV_mk]
             repeat' (first | (show anc _ _ _ _=true;kernel_rfl) | (refine And.intro ?_ ?_))
             all_goals try simp only[go_sem,hO,encV_mk]
       · rw[primO_2 c0 c1 (.inl cL)] at hR
         subst hR
         rw[decide_eq_false cL,Bool.false_and] at hF
         cases l with
         |nil=>
           have d3:decide (((0:Nat):Int)<((0:Nat):Int))=false:=by decide
           simp only[List.map_nil] at hF
           simp only[go_sem,d3,List.length_map,List.length_nil,List.map_nil,accP_nil,vz]
           refine aCall_intro hF ?_
           simp only[go_sem,zeroV,encV_mk,List.map_nil]
         |cons x xr=>
           have d3:decide ((((x::xr).length:Nat):Int)<(((x::xr).length:Nat):Int))=false:=lt_false (Int.le_refl _)
           simp only[List.length_cons] at d3
           simp only[List.map_cons] at hF
           simp only[go_sem,d3,List.length_map,List.length_cons,List.map_cons,accP_cons,vz]
           refine aCall_intro hF ?_
           simp only[go_sem,zeroV,encV_mk,List.map_nil]
     · rintro x rest b g1 K hK
       have hx:(l.map encV)[b.length]? = some (encV x):=by simp[g1]
       have hlt:decide ((b.length:Int)<(l.length:Int))=true:=decide_eq_true (by rw[g1];simp;omega)
       have hll:b.length<l.length:=by rw[g1];simp
       have w4:IntKind.i64.wrap ((b.length:Int)+1)=((b.length+1:Nat):Int):=by rw[wrapI (by omega) (by omega)];simp
       have hB:=back_spec x
       have hn:numTxt x=true:=by simpa using anyV_false cT (show x∈l by simp[g1])
       rw[hn] at hB
       cases b with
       |nil=>
         simp only[List.length_nil] at hx hlt w4
         simp only[go_sem,hlt,hx,List.length_map,List.length_nil,List.map_nil,accP_nil,vz,encV_sz]
         refine aCall_intro hB ?_
         simp only[go_sem,le_mx,w4]
         iterate 8 (try (refine ⟨by kernel_rfl,?_⟩))
         try simp only[go_sem,le_mx,w4]
         refine hK [x] _ ?_ (by simpa using g1)
         simp only[go_sem,vz,List.map_cons,List.map_nil,accP_cons,List.length_cons,List.length_nil]
       |cons b0 br=>
         simp only[List.length_cons] at hx hlt w4 hll
         have e1:((br.length+1+1)*424≤140737488355328)=True:=by simp;omega
         have e2:(br.length+1+1≤maxLen)=True:=by rw[maxLen_eq];simp;omega
         simp only[go_sem,hlt,hx,List.length_map,List.length_cons,List.map_cons,accP_cons,vz,encV_sz]
         refine aCall_intro hB ?_
         simp only[go_sem,e1,e2,List.length_map,w4]
         iterate 8 (try (refine ⟨by kernel_rfl,?_⟩))
         try simp only[go_sem,e1,e2,List.length_map,w4]
         refine hK (b0::br++[x]) _ ?_ (by simp[g1])
         simp only[go_sem,vz,List.map_append,List.cons_append,List.map_cons,List.map_nil,accP_cons,List.length_append,List.length_cons,List.length_nil]
     · simp only[go_sem,vz,accP_nil,List.map_nil,List.length_nil,Int.natCast_zero]
 · rintro x rest m ⟨pre,g1,g2⟩ K hK
   have hx:(l.map encV)[m]? = some (encV x):=by simp[g1,g2]
   have hlt:decide ((m:Int)<(l.length:Int))=true:=decide_eq_true (by rw[g1,g2];simp;omega)
   have hll:m<l.length:=by rw[g1,g2];simp
   have w4:IntKind.i64.wrap ((m:Int)+1)=((m+1:Nat):Int):=by rw[wrapI (by omega) (by omega)];simp
   have hxm:x∈l:=by simp[g1]
   obtain ⟨q1,q2,q3⟩:=h x hxm
   have hV:=rValid14_spec x q1 q2 q3
   have hn:nodesV x=true:=by simpa using anyV_false c1 hxm
   rw[hn] at hV
   simp only[go_sem,hlt,hx,List.length_map,vz,encV_sz]
   refine aCall_intro hV ?_
   simp only[go_sem,w4]
   refine hK (m+1) _ ?_ ⟨pre++[x],by simp[g1],by simp[g2]⟩
   simp only[go_sem,vz]
 · simp only[go_sem,vz,Int.natCast_zero]
end Go.Abs.Kon
