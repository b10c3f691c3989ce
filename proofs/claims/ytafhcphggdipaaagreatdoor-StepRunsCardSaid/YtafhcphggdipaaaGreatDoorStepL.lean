/- Small steps. -/
import Derived.Test.YtafhcphggdipaaaGreatDoorStepY
import Derived.Test.YtafhcphggdipaaaGreatDoorTermD
import Derived.Test.YtafhcphggdipaaaGreatDoorStepZ
set_option linter.unusedSimpArgs false
set_option linter.unusedVariables false
namespace Go.Abs.Kon
open Go Go.Proofs Go.Abs
set_option maxRecDepth 100000
set_option maxHeartbeats 4000000
theorem nextL_take (t:TermT):∀(l:List TermT) (a:Nat),nextL l a t=nextL (l.take a) (l.take a).length t
 | [],a=>by rw[List.take_nil];rw[nextL,nextL]
 |x::r,0=>by rw[List.take_zero];rw[nextL,nextL]
 |x::r,a+1=>by rw[List.take_succ_cons,List.length_cons,nextL,nextL,nextL_take t r a]
theorem take_get {l:List TermT}{a m:Nat}{pre:List TermT}{x:TermT}{rest:List TermT}(hle:a≤l.length) (g1:l.take a=pre++x::rest) (g2:m=pre.length):m<a∧l[m]? = some x:=by
 have hla:(l.take a).length=a:=by rw[List.length_take];omega
 have h1:m<a:=by have:=congrArg List.length g1;rw[hla,List.length_append,List.length_cons] at this;omega
 refine ⟨h1,?_⟩
 have:(l.take a)[m]? = some x:=by rw[g1];simp[g2]
 rwa [List.getElem?_take_of_lt h1] at this
theorem Next_spec (t:TermT):wfT t=true→Spec Tryz.prog 86 [pp (encT t)] [] (encT (nextT t)) []:=by
 revert t
 refine TermT.ind1 fun op n s con to k names l ih=>?_
 intro hwf
 rw[wfT,Bool.and_eq_true] at hwf
 have hA:=ract_spec op n s con to k names l
 have hle:=act_le hwf.1
 have hwl:=wfL_mem.1 hwf.2
 rw[nextT]
 generalize actT op l.length=a at hA hle ⊢
 rw[nextL_take]
 generalize hres:nextL (l.take a) (l.take a).length (.mk op n s con to k names l)=res
 have hla:(l.take a).length=a:=by rw[List.length_take];omega
 simp only[encT_mk] at hA
 refine wf (rv:=[.cell 2 31]) ann86 24 Tryz.func86 fun hfit=>?_
 have hlen:l.length≤9223372036854775807:=by
  simp only[argsFit,SV.pv?,SC.pv?,encT_mk,PV.fit,fitL,List.length_map,maxLen_eq] at hfit
  exact hfit.1.2.2.2.2.2.2.2.2.2.2.2.2.2.2.2.2.2.1.1
 clear hfit
 simp only[go_sem,encT_sz]
 refine aLoop_list (α:=TermT) (β:=Nat) (fun rest m=>⟨[(2,.one (.ptr (.loc 2) 0)),(3,ii m),(1,pp (.ep (encT (.mk op n s con to k names l)) 0))],[(.loc 2,zboxT)],[]⟩)
  (fun rest m=>∃pre,l.take a=pre++rest∧m=pre.length∧nextL rest rest.length (.mk op n s con to k names l)=res) ?_ ?_ (l.take a) 0 _ ?_ ⟨[],rfl,rfl,hres⟩
 ·rintro m ⟨pre,g1,g2,g3⟩ K
  simp only[List.append_nil] at g1
  have e:m=a:=by rw[g2,←g1,hla]
  rw[nextL] at g3
  subst g3
  simp only[go_sem,encT_mk,zboxT]
  refine aCall_intro hA ?_
  simp only[go_sem,e,lt_false (Int.le_refl _),encT_mk,zboxT]
 ·rintro x rest m ⟨pre,g1,g2,g3⟩ K hK
  obtain ⟨hlt',hxl⟩:=take_get hle g1 g2
  have hlt:(m:Int)<a:=by omega
  have hx:(l.map encT)[m]? = some (encT x):=by simp[hxl]
  have hm:=List.mem_of_getElem? hxl
  have w4:IntKind.i64.wrap ((m:Int)+1)=((m+1:Nat):Int):=by rw[wrap_id (by omega) (by omega)];simp
  have hR:=form_spec x (hwl x hm)
  have hI:=ih x hm (hwl x hm)
  rw[List.length_cons,nextL] at g3
  simp only[go_sem,encT_mk,zboxT]
  refine aCall_intro hA ?_
  cases hb:resT x with
  |false=>
   rw[hb] at hR
   rw[if_neg (by rw[hb];decide)] at g3
   subst g3
   simp only[go_sem,decide_eq_true hlt,Int.toNat_natCast,Int.natCast_nonneg,hx,encT_sz,encT_mk,zboxT]
   refine aCall_intro hR ?_
   simp only[go_sem,Int.toNat_natCast,Int.natCast_nonneg,hx,encT_sz,encT_mk]
   refine aCall_intro hI ?_
   simp only[go_sem,encT_sz]
  |true=>
   rw[hb] at hR
   rw[if_pos hb] at g3
   simp only[go_sem,decide_eq_true hlt,Int.toNat_natCast,Int.natCast_nonneg,hx,encT_sz,encT_mk,zboxT]
   refine aCall_intro hR ?_
   simp only[go_sem,w4]
   refine hK (m+1) _ ?_ ⟨pre++[x],by simp[g1],by simp[g2],g3⟩
   simp only[go_sem,encT_mk,zboxT]
 ·simp only[go_sem,Int.natCast_zero,encT_mk,zboxT]
theorem rFails_spec (t:TermT) (hv:validT t=true) (hok:okT t):Spec Tryz.prog 35 [pp (encT t)] [] (.int .i64 (failN t)) []:=by
 have hwf:=(valid_wf hv).1
 have hF:=form_spec t hwf
 have hN:=Next_spec t hwf
 rw[failN]
 cases hr:resT t with
 |true=>
  rw[hr] at hF
  rw[if_pos rfl]
  refine wk (rv:=[.tmp 2]) ann35 13 Tryz.func35 ?_
  simp only[go_sem,encT_sz]
  refine aCall_intro hF ?_
  simp only[go_sem]
 |false=>
  rw[hr] at hF
  rw[if_neg (by decide)]
  generalize nextT t=x at hN ⊢
  by_cases h:x.op=19
  ·rw[if_pos h]
   obtain ⟨op2,n2,s2,con2,to2,k2,names2,l2⟩:=x
   simp only[TermT.op] at h
   have h':(op2==19)=true:=by simpa using h
   simp only[TermT.n]
   refine wk (rv:=[.tmp 2]) ann35 13 Tryz.func35 ?_
   simp only[go_sem,encT_sz]
   refine aCall_intro hF ?_
   simp only[go_sem,encT_sz]
   refine aCall_intro hN ?_
   simp only[go_sem,encT_sz,encT_mk,h']
  ·rw[if_neg h]
   obtain ⟨op2,n2,s2,con2,to2,k2,names2,l2⟩:=x
   simp only[TermT.op] at h
   have h':(op2==19)=false:=by simpa using h
   refine wk (rv:=[.tmp 2]) ann35 13 Tryz.func35 ?_
   simp only[go_sem,encT_sz]
   refine aCall_intro hF ?_
   simp only[go_sem,encT_sz]
   refine aCall_intro hN ?_
   simp only[go_sem,encT_sz,encT_mk,h']
@[go_sem] theorem z18:((0:Nat)<18)=True:=eq_true (by decide)
theorem rb_spec (b:TermT) (t:TermT):wfT t=true→okT t→Spec Tryz.prog 89 [pp (encT t),pp (encT b)] [] (encT (rbT b t)) []:=by
 revert t
 refine TermT.ind1 fun op n s con to k names l ih=>?_
 intro hwf hok
 rw[wfT,Bool.and_eq_true] at hwf
 have hA:=ract_spec op n s con to k names l
 have hle:=act_le hwf.1
 have hwl:=wfL_mem.1 hwf.2
 obtain ⟨_,_,hl9,hol⟩:=okT_con hok
 have hol:=okTs_mem.1 hol
 have hsplit:((∀x∈l.take (actT op l.length),resT x=true)∧rbT b (.mk op n s con to k names l)=b)∨∃pre0 x0 post,l=pre0++x0::post∧resT x0=false∧pre0.length<actT op l.length∧(∀y∈pre0,resT y=true)∧rbT b (.mk op n s con to k names l)=.mk op n s con to k names (pre0++rbT b x0::post):=by
  rcases inn_split l (actT op l.length) 0 with ⟨_,_,_,h4,h5⟩|⟨pre0,x0,post,h1,_,h3,h4,h5,_,_,h8⟩
  ·refine .inl ⟨h5,?_⟩
   rw[rbT]
   simp only[h4]
  ·refine .inr ⟨pre0,x0,post,h1,h3,h4,h5,?_⟩
   rw[rbT]
   simp only[h8]
 generalize hrb:rbT b (.mk op n s con to k names l)=res at hsplit ⊢
 clear hrb
 generalize actT op l.length=a at hA hle hsplit
 have hla:(l.take a).length=a:=by rw[List.length_take];omega
 simp only[encT_mk] at hA
 rcases hsplit with ⟨h5,hrb⟩|⟨pre0,x0,post,h1,h3,h4,h5,hrb⟩
 ·rw[hrb]
  refine wk (rv:=[.cell 4 31]) ann89 39 Tryz.func89 ?_
  simp only[go_sem,encT_sz]
  refine aLoop_list (α:=TermT) (β:=Nat) (fun rest m=>⟨[(4,.one (.ptr (.loc 4) 0)),(3,pp (.ep (encT b) 0)),(5,ii m),(2,pp (.ep (encT (.mk op n s con to k names l)) 0))],[(.loc 4,zboxT)],[]⟩)
   (fun rest m=>∃pre,l.take a=pre++rest∧m=pre.length) ?_ ?_ (l.take a) 0 _ ?_ ⟨[],rfl,rfl⟩
  ·rintro m ⟨pre,g1,g2⟩ K
   simp only[List.append_nil] at g1
   have e:m=a:=by rw[g2,←g1,hla]
   simp only[go_sem,encT_mk,zboxT]
   refine aCall_intro hA ?_
   simp only[go_sem,e,lt_false (Int.le_refl _),encT_mk,encT_sz,zboxT]
  ·rintro x rest m ⟨pre,g1,g2⟩ K hK
   obtain ⟨hlt',hxl⟩:=take_get hle g1 g2
   have hlt:(m:Int)<a:=by omega
   have hx:(l.map encT)[m]? = some (encT x):=by simp[hxl]
   have hm:=List.mem_of_getElem? hxl
   have w4:IntKind.i64.wrap ((m:Int)+1)=((m+1:Nat):Int):=by rw[wrap_id (by omega) (by omega)];simp
   have hR:=form_spec x (hwl x hm)
   rw[h5 x (by rw[g1];simp)] at hR
   simp only[go_sem,encT_mk,zboxT]
   refine aCall_intro hA ?_
   simp only[go_sem,decide_eq_true hlt,Int.toNat_natCast,Int.natCast_nonneg,hx,encT_sz,encT_mk,zboxT]
   refine aCall_intro hR ?_
   simp only[go_sem,w4]
   refine hK (m+1) _ ?_ ⟨pre++[x],by simp[g1],by simp[g2]⟩
   simp only[go_sem,encT_mk,zboxT]
  ·simp only[go_sem,Int.natCast_zero,encT_mk,zboxT]
 ·have hx0:l[pre0.length]? = some x0:=by rw[h1];simp
  have hm0:x0∈l:=by rw[h1];simp
  have hI:=ih x0 hm0 (hwl x0 hm0) (hol x0 hm0)
  have hR0:=form_spec x0 (hwl x0 hm0)
  rw[h3] at hR0
  have hset:(l.map encT).set pre0.length (encT (rbT b x0))=(pre0++rbT b x0::post).map encT:=by
   rw[h1,List.map_append,List.map_cons,List.map_append,List.map_cons]
   rw[List.set_append_right _ _ (by simp)]
   simp
  have hb1:l.length*312≤140737488355328:=by omega
  have hb2:l.length≤maxLen:=by rw[maxLen_eq];omega
  have hne:(l.map encT).isEmpty=false:=by rw[h1];simp
  have hall:((l.map encT).all fun x=>PV.hasSz (.agg 18) x)=true:=by
   rw[List.all_eq_true]
   intro y hy
   obtain ⟨z,_,rfl⟩:=List.mem_map.1 hy
   exact encT_sz z
  have hmlt:(pre0.length:Int)<(l.length:Int):=by rw[h1];simp;omega
  have hmlt':pre0.length<l.length:=by omega
  have hfin:encT res=.agg [.int .i64 op,.int .i64 n,.str s,.int .i64 con.op,.int .i64 con.n,.str con.s,.slice (con.k.map encK),.slice (con.names.map .str),.slice (con.l.map encC),.int .i64 to.op,.int .i64 to.n,.str to.s,.slice (to.k.map encK),.slice (to.names.map .str),.slice (to.l.map encC),.slice (k.map encK),.slice (names.map .str),.slice ((l.map encT).set pre0.length (encT (rbT b x0)))]:=by rw[hrb,encT_mk,hset]
  rw[hfin]
  clear hfin hrb
  generalize rbT b x0=y at hI hset ⊢
  refine wk (rv:=[.cell 4 31]) ann89 39 Tryz.func89 ?_
  simp only[go_sem,encT_sz]
  refine aLoop_list (α:=TermT) (β:=Nat) (fun rest m=>⟨[(4,.one (.ptr (.loc 4) 0)),(3,pp (.ep (encT b) 0)),(5,ii m),(2,pp (.ep (encT (.mk op n s con to k names l)) 0))],[(.loc 4,zboxT)],[]⟩)
   (fun rest m=>∃pre,pre0=pre++rest∧m=pre.length) ?_ ?_ pre0 0 _ ?_ ⟨[],rfl,rfl⟩
  ·rintro m ⟨pre,g1,g2⟩ K
   simp only[List.append_nil] at g1
   have e:m=pre0.length:=by rw[g2,←g1]
   have hlt:(m:Int)<a:=by omega
   have hx:(l.map encT)[m]? = some (encT x0):=by simp[e,hx0]
   clear hset h1 hx0
   rw[←e] at hmlt hmlt' ⊢
   simp only[go_sem,encT_mk,zboxT]
   refine aCall_intro hA ?_
   simp only[go_sem,decide_eq_true hlt,Int.toNat_natCast,Int.natCast_nonneg,hx,encT_sz,encT_mk,zboxT]
   refine aCall_intro hR0 ?_
   simp only[go_sem,encT_sz,encT_mk,hne,hall,hb1,hb2,List.length_map]
   refine aFlipOr_ops ?_
   simp only[go_sem,encT_sz,encT_mk,Int.toNat_natCast,Int.natCast_nonneg,hx,hmlt,hmlt',List.length_map]
   refine aCall_intro hI ?_
   simp only[go_sem,encT_sz,encT_mk,Int.toNat_natCast,Int.natCast_nonneg,hx,hmlt,hmlt',List.length_map,List.length_set]
   repeat (refine ⟨by kernel_rfl,?_⟩;try simp only[go_sem,encT_sz,encT_mk,Int.toNat_natCast,Int.natCast_nonneg,hx,hmlt,hmlt',List.length_map,List.length_set])
   refine aFlipOr_ops ?_
   simp only[go_sem,encT_sz,encT_mk,Int.toNat_natCast,Int.natCast_nonneg,hx,hmlt,hmlt',List.length_map,List.length_set]
  ·rintro x rest m ⟨pre,g1,g2⟩ K hK
   have hmp:m<pre0.length:=by rw[g1,g2];simp
   have hlt:(m:Int)<a:=by omega
   have hxl:l[m]? = some x:=by rw[h1,g1,g2];simp
   have hx:(l.map encT)[m]? = some (encT x):=by simp[hxl]
   have hm:=List.mem_of_getElem? hxl
   have w4:IntKind.i64.wrap ((m:Int)+1)=((m+1:Nat):Int):=by rw[wrap_id (by omega) (by omega)];simp
   have hR:=form_spec x (hwl x hm)
   rw[h5 x (by rw[g1];simp)] at hR
   simp only[go_sem,encT_mk,zboxT]
   refine aCall_intro hA ?_
   simp only[go_sem,decide_eq_true hlt,Int.toNat_natCast,Int.natCast_nonneg,hx,encT_sz,encT_mk,zboxT]
   refine aCall_intro hR ?_
   simp only[go_sem,w4]
   refine hK (m+1) _ ?_ ⟨pre++[x],by simp[g1],by simp[g2]⟩
   simp only[go_sem,encT_mk,zboxT]
  ·simp only[go_sem,Int.natCast_zero,encT_mk,zboxT]
def annCl:Ann:=⟨[],[1000007],[(3,[2]),(2,[2]),(1,[0,4]),(0,[0])],[]⟩
@[go_sem] theorem annCl_imm:annCl.imm=[]:=rfl
@[go_sem] theorem annCl_frz:annCl.frz=[1000007]:=rfl
@[go_sem] theorem annCl_live:annCl.live=[(3,[2]),(2,[2]),(1,[0,4]),(0,[0])]:=rfl
@[go_sem] theorem annCl_head:annCl.head=[]:=rfl
theorem CloneX_spec (x:TermT) (l:List TermT) (hl:l.length≤1000000000):SpecX Tryz.prog 124 [pp (.slice ((x::l).map encT))] (.agg 18) ((x::l).map encT):=by
 have hall:((x::l).map encT).all (fun x=>PV.hasSz (.agg 18) x)=true:=by
  rw[List.all_eq_true]
  intro y hy
  obtain ⟨z,_,rfl⟩:=List.mem_map.1 hy
  exact encT_sz z
 refine SpecX.of (rv:=[.tmp 2]) annCl 8 Tryz.func124 mixed rfl rfl (by kernel_rfl) (fun e he=>List.all_eq_true.1 hall e he) ?_
 simp only[List.map_cons] at hall ⊢
 have hb1:(l.length+1)*312≤140737488355328:=by omega
 have hb2:l.length+1≤maxLen:=by rw[maxLen_eq];omega
 simp only[List.all_cons,encT_sz,Bool.true_and] at hall
 simp only[go_sem,encT_sz,hall,hb1,hb2,List.length_map,List.length_cons]
 exact exOf_intro rfl
mutual
def pathT:TermT→List TermT
 | .mk op _ _ _ _ _ _ l=>pathL l (actT op l.length)
def pathL:List TermT→Nat→List TermT
 | [],_=>[]
 |_::_,0=>[]
 |x::r,a+1=>if resT x=true then pathL r a else x::pathT x
end
theorem path_nil:∀(l:List TermT) (a:Nat),(∀x∈l.take a,resT x=true)→pathL l a=[]
 | [],a,_=>by rw[pathL]
 |x::r,0,_=>by rw[pathL]
 |x::r,a+1,h=>by
  rw[List.take_succ_cons] at h
  rw[pathL,if_pos (h x (by simp))]
  exact path_nil r a fun y hy=>h y (List.mem_cons_of_mem _ hy)
theorem path_in (x:TermT) (post:List TermT) (hx:resT x=false):∀(pre:List TermT) (a:Nat),(∀y∈pre,resT y=true)→pre.length<a→pathL (pre++x::post) a=x::pathT x
 | [],0,_,h=>absurd h (by simp)
 | [],a+1,_,_=>by rw[List.nil_append,pathL,if_neg (by rw[hx];decide)]
 |y::pre,0,_,h=>by simp at h
 |y::pre,a+1,h,hl=>by
  rw[List.cons_append,pathL,if_pos (h y (by simp))]
  exact path_in x post hx pre a (fun z hz=>h z (List.mem_cons_of_mem _ hz)) (by simpa using hl)
def failP (t:TermT):Int:=if closedT t=true then failN t else 0
theorem Fails_spec (t:TermT) (hok:okT t) (hwc:True):Spec Tryz.prog 34 [pp (encT t)] [] (.tuple [.int .i64 (failP t),.bool (decide (failP t>0))]) []:=by
 have hC:=closed_spec t hok hwc
 cases hc:closedT t with
 |false=>
  rw[hc] at hC
  rw[failP,if_neg (by rw[hc];decide)]
  refine wk (rv:=[.tmp 2,.tmp 3]) ann34 26 Tryz.func34 ?_
  simp only[go_sem,encT_sz]
  refine aCall_intro hC ?_
  simp only[go_sem]
  try kernel_rfl
 |true=>
  have hv:=closed_valid hc
  have hR:=result_spec t (valid_wf hv).1
  rw[hc] at hC
  cases hr:resT t with
  |true=>
   rw[hr] at hR
   rw[failP,if_pos hc,failN,if_pos hr]
   refine wk (rv:=[.tmp 2,.tmp 3]) ann34 26 Tryz.func34 ?_
   simp only[go_sem,encT_sz]
   refine aCall_intro hC ?_
   simp only[go_sem,encT_sz]
   refine aCall_intro hR ?_
   simp only[go_sem]
   try kernel_rfl
  |false=>
   rw[hr] at hR
   have hp:=fail_pos hv hok hr
   have hf:failP t=if (nextT t).op=19 then (nextT t).n else 0:=by rw[failP,if_pos hc,failN,if_neg (by rw[hr];decide)]
   have hft:failP t=failN t:=by rw[failP,if_pos hc]
   rw[←hft] at hp
   generalize failP t=fv at hp hf ⊢
   generalize hnx:nextT t=nx at hp hf
   refine wk (rv:=[.tmp 2,.tmp 3]) ann34 26 Tryz.func34 ?_
   simp only[go_sem,encT_sz]
   refine aCall_intro hC ?_
   simp only[go_sem,encT_sz]
   refine aCall_intro hR ?_
   simp only[go_sem]
   refine aLoop_list (α:=TermT) (β:=TermT) (fun rest x=>⟨[(1,.one (.ptr (.loc 1) 0))],[(.loc 1,⟨.agg 18,pp (encT x)⟩)],[]⟩)
    (fun rest x=>pathT x=rest∧validT x=true∧nextT x=nx) ?_ ?_ (pathT t) t _ ?_ ⟨rfl,hv,hnx⟩
   ·rintro x ⟨g1,g2,g3⟩ K
    have hI:=inner_spec x (valid_wf g2).1
    obtain ⟨op,n,s,con,to,k,names,l⟩:=x
    simp only[TermT.l,TermT.op] at hI
    rw[pathT] at g1
    rw[nextT] at g3
    rcases inn_split l (actT op l.length) 0 with ⟨h1,_,h3,_,_⟩|⟨pre,y,post,h1,_,h3,h4,h5,_,h7,_⟩
    ·rw[h3] at g3
     subst g3
     rw[h1] at hI
     simp only[TermT.op,TermT.n] at hp hf
     simp only[go_sem,encT_sz]
     refine aCall_intro hI ?_
     have hm1:decide ((-1:Int)≥0)=false:=by decide
     by_cases h19:op=19
     ·replace hf:=hf.trans (if_pos h19)
      have e19:(op != 19)=false:=by simp[h19]
      have hpos:decide (fv>0)=true:=decide_eq_true (hp ▸ h19)
      subst hf
      simp only[go_sem,encT_mk,e19,hpos,hm1]
     ·replace hf:=hf.trans (if_neg h19)
      have e19:(op != 19)=true:=by simpa using h19
      subst hf
      have h00:decide ((0:Int)>0)=false:=by decide
      simp only[go_sem,encT_mk,e19,hm1,h00]
      try kernel_rfl
    ·rw[h1,path_in y post h3 pre _ h5 (by rw[←h1];exact h4)] at g1
     cases g1
   ·rintro z rest x ⟨g1,g2,g3⟩ K hK
    have hI:=inner_spec x (valid_wf g2).1
    obtain ⟨op,n,s,con,to,k,names,l⟩:=x
    simp only[TermT.l,TermT.op] at hI
    rw[pathT] at g1
    rw[nextT] at g3
    rcases inn_split l (actT op l.length) 0 with ⟨h1,_,h3,_,h5⟩|⟨pre,y,post,h1,h2,h3,h4,h5,_,h7,_⟩
    ·rw[path_nil l _ h5] at g1
     cases g1
    ·have hy:(l.map encT)[pre.length]? = some (encT y):=by rw[h1];simp
     have g1':pathL l (actT op l.length)=y::pathT y:=by
      have:=path_in y post h3 pre (actT op l.length) h5 h4
      rwa [←h1] at this
     rw[g1'] at g1
     simp only[List.cons.injEq] at g1
     rw[h7] at g3
     rw[h2,Int.zero_add] at hI
     have hge:decide ((pre.length:Int)≥0)=true:=decide_eq_true (by omega)
     have hyv:=valid_parts_T g2 y (by rw[h1];simp)
     simp only[go_sem,encT_sz]
     refine aCall_intro hI ?_
     simp only[go_sem,hge,encT_mk,Int.toNat_natCast,Int.natCast_nonneg,hy,encT_sz]
     refine hK y _ ?_ ⟨g1.2,hyv,g3⟩
     simp only[go_sem]
   ·simp only[go_sem]
theorem shift00 {t:TermT}(h:validT t=true):ShiftT t 0 0=(t,0):=by
 have hwf:=(valid_wf h).1
 have h1:headLt (sortU (consF t 0)) 0=false:=head_nonneg fun i hi=>by have:=consF_n t 0 (by decide) i ((sortU_mem _).1 hi);omega
 have h2:headLt (sortU (termsF t 0)) 0=false:=head_nonneg fun i hi=>by have:=termsF_n t 0 hwf (by decide) i ((sortU_mem _).1 hi);omega
 rw[ShiftT,if_neg (by rw[h];decide),if_neg (by rintro (e|e|e|e);exact absurd e (by decide);exact absurd e (by decide);rw[h1] at e;cases e;rw[h2] at e;cases e),sh0 hwf,fin_kept0,keptT,if_pos h]
theorem copied_spec16 (t:TermT) (hv:validT t=true) (hok:okT t):Spec Tryz.prog 79 [pp (encT t)] [] (encT t) []:=by
 have hS:=tShift_spec t 0 0 hok (wf_wc t (valid_wf hv).1)
 rw[shift00 hv] at hS
 simp only at hS
 refine wk (rv:=[.cell 2 31]) ann79 11 Tryz.func79 ?_
 simp only[go_sem,encT_sz]
 refine aCall_intro hS ?_
 simp only[go_sem,encT_sz]
theorem adv_spec (t:TermT):validT t=true→okT t→resT t=false→Spec Tryz.prog 87 [pp (encT t)] [] (encR (advT t)) []:=by
 revert t
 refine TermT.ind1 fun op n s con to k names l ih=>?_
 intro hv hok hr
 have hI:=inner_spec (.mk op n s con to k names l) (valid_wf hv).1
 simp only[TermT.l,TermT.op] at hI
 rcases inn_split l (actT op l.length) 0 with ⟨h1,h2,_,_,_⟩|⟨pre,x,post,h1,h2,h3,h4,h5,h6,_,_⟩
 ·rw[h1] at hI
  rw[advT,h2]
  simp only
  by_cases h19:op=19
  ·subst h19
   rw[if_pos rfl,encR_mk,encT_zero]
   simp only[encT_mk] at hI
   refine wk (rv:=[.cell 2 31,.tmp 3,.tmp 4]) ann87 46 Tryz.func87 ?_
   simp only[go_sem,encT_mk]
   refine aCall_intro hI ?_
   simp only[go_sem,encT_mk,Int.reduceBEq,List.map_nil]
  ·rw[if_neg h19]
   have hP:=contr_spec (.mk op n s con to k names l) hv hok
   have e19:(op==19)=false:=by simpa using h19
   generalize contrT (.mk op n s con to k names l)=r at hP ⊢
   obtain ⟨r1,r2,r3⟩:=r
   simp only[encT_mk,encR] at hI hP ⊢
   refine wk (rv:=[.cell 2 31,.tmp 3,.tmp 4]) ann87 46 Tryz.func87 ?_
   simp only[go_sem,encT_mk]
   refine aCall_intro hI ?_
   simp only[go_sem,encT_mk,e19]
   refine aCall_intro hP ?_
   simp only[go_sem,encT_sz]
 ·rw[h2,Int.zero_add] at hI
  have hm:x∈l:=by rw[h1];simp
  have hX:=ih x hm (valid_parts_T hv x hm) (okTs_mem.1 (okT_con hok).2.2.2 x hm) h3
  have hx:(l.map encT)[pre.length]? = some (encT x):=by rw[h1];simp
  have hlt:decide ((pre.length:Int)<0)=false:=decide_eq_false (by omega)
  rw[advT,h6]
  simp only
  simp only[encT_mk] at hI
  by_cases he:(advT x).2.2=0
  ·have hl9:=(okT_con hok).2.2.1
   obtain ⟨c0,cr,hcl⟩:∃c0 cr,l=c0::cr:=by
    cases l with
    |nil=>simp at h1
    |cons a b=>exact ⟨a,b,rfl⟩
   have hCl:=CloneX_spec c0 cr (by rw[hcl] at hl9;simp at hl9;omega)
   rw[←hcl] at hCl
   have hset:(l.map encT).set pre.length (encT (advT x).1)=(pre++(advT x).1::post).map encT:=by
    rw[h1,List.map_append,List.map_cons,List.map_append,List.map_cons]
    rw[List.set_append_right _ _ (by simp)]
    simp
   have hmlt:(pre.length:Int)<(l.length:Int):=by rw[h1];simp;omega
   have hmlt':pre.length<l.length:=by omega
   rw[if_neg (fun h=>h he),encR_mk]
   simp only[encT_mk]
   rw[←hset]
   generalize advT x=r at hX he hset ⊢
   obtain ⟨y,o,e⟩:=r
   simp only at he hset ⊢
   subst he
   simp only[encR] at hX
   clear hset hcl h1 h6 ih hv hok hr h5
   generalize pre.length=m at *
   refine wk (rv:=[.cell 2 31,.tmp 3,.tmp 4]) ann87 46 Tryz.func87 ?_
   simp only[go_sem,encT_mk]
   refine aCall_intro hI ?_
   simp only[go_sem,encT_mk,hlt,hx,Int.toNat_natCast,Int.natCast_nonneg,encT_sz]
   refine aCall_intro hX ?_
   simp only[go_sem,encT_mk,encT_sz,Int.reduceBNe]
   refine aCallX_intro hCl ?_
   simp only[go_sem,encT_mk,encT_sz]
   refine aFlipOr_ops ?_
   simp only[go_sem,encT_sz,encT_mk,Int.toNat_natCast,Int.natCast_nonneg,hmlt,hmlt',List.length_map]
   repeat (refine ⟨by kernel_rfl,?_⟩;try simp only[go_sem,encT_sz,encT_mk,Int.toNat_natCast,Int.natCast_nonneg,hx,hmlt,hmlt',List.length_map,List.length_set])
   refine aFlipOr_ops ?_
   simp only[go_sem,encT_sz,encT_mk,Int.toNat_natCast,Int.natCast_nonneg,hx,hmlt,hmlt',List.length_map,List.length_set]
  ·rw[if_pos he,encR_mk,encT_zero]
   generalize advT x=r at hX he ⊢
   obtain ⟨y,o,e⟩:=r
   simp only at he ⊢
   simp only[encR] at hX
   have hne:(e != 0)=true:=by simpa using he
   refine wk (rv:=[.cell 2 31,.tmp 3,.tmp 4]) ann87 46 Tryz.func87 ?_
   simp only[go_sem,encT_mk]
   refine aCall_intro hI ?_
   simp only[go_sem,encT_mk,hlt,hx,Int.toNat_natCast,Int.natCast_nonneg,encT_sz]
   refine aCall_intro hX ?_
   simp only[go_sem,encT_mk,encT_sz,hne,List.map_nil]
theorem Step_spec (t:TermT) (hok:okT t) (hwc:True):Spec Tryz.prog 38 [pp (encT t)] [] (encR (stepT t)) []:=by
 have hC:=closed_spec t hok hwc
 have hse:=step_eq hok
 have hok3:=fun (hv:validT t=true)=>okT_rstep hv hok
 rw[stepT]
 cases hc:closedT t with
 |false=>
  rw[hc] at hC
  rw[if_pos rfl,encR_mk,encT_zero]
  refine wk (rv:=[.cell 2 31,.tmp 3,.tmp 4]) ann38 34 Tryz.func38 ?_
  simp only[go_sem,encT_sz]
  refine aCall_intro hC ?_
  simp only[go_sem,List.map_nil]
 |true=>
  have hv:=closed_valid hc
  have hR:=result_spec t (valid_wf hv).1
  rw[hc] at hC
  rw[if_neg (by decide)]
  cases hr:resT t with
  |true=>
   rw[hr] at hR
   rw[if_pos rfl,encR_mk,encT_zero]
   refine wk (rv:=[.cell 2 31,.tmp 3,.tmp 4]) ann38 34 Tryz.func38 ?_
   simp only[go_sem,encT_sz]
   refine aCall_intro hC ?_
   simp only[go_sem,encT_sz]
   refine aCall_intro hR ?_
   simp only[go_sem,List.map_nil]
  |false=>
   rw[hr] at hR
   have hA:=adv_spec t hv hok hr
   rw[if_neg (by decide),stepR]
   have hoky:(advT t).2.2=0→okT (advT t).1:=fun e=>by
    obtain ⟨a1,a2⟩:=adv_next t
    rw[a2 e]
    obtain ⟨hn,hnok⟩:=next_valid t hv hok
    rcases contr_both hn with ⟨b1,b2⟩|⟨b1,b2⟩|⟨b1,b2,b3⟩
    ·rw[a1] at e
     split at e
     ·cases e
     ·rw[b2] at e;cases e
    ·rw[b2];exact okT_rstep hv hok
    ·rw[a1] at e
     split at e
     ·cases e
     ·rw[b2] at e;cases e
   generalize advT t=r at hA hoky ⊢
   obtain ⟨y,o,e⟩:=r
   simp only[encR] at hA hoky ⊢
   by_cases he:e=0
   ·subst he
    have hV:=tValid_spec y (hoky rfl)
    rw[if_neg (fun h=>h rfl)]
    cases hvy:validT y with
    |false=>
     rw[hvy] at hV
     rw[if_pos rfl,encT_zero]
     refine wk (rv:=[.cell 2 31,.tmp 3,.tmp 4]) ann38 34 Tryz.func38 ?_
     simp only[go_sem,encT_sz]
     refine aCall_intro hC ?_
     simp only[go_sem,encT_sz]
     refine aCall_intro hR ?_
     simp only[go_sem,encT_sz]
     refine aCall_intro hA ?_
     simp only[go_sem,encT_sz,Int.reduceBEq]
     refine aCall_intro hV ?_
     simp only[go_sem,List.map_nil,Int.reduceBNe]
    |true=>
     have hCo:=copied_spec16 y hvy (hoky rfl)
     rw[hvy] at hV
     rw[if_neg (by decide)]
     refine wk (rv:=[.cell 2 31,.tmp 3,.tmp 4]) ann38 34 Tryz.func38 ?_
     simp only[go_sem,encT_sz]
     refine aCall_intro hC ?_
     simp only[go_sem,encT_sz]
     refine aCall_intro hR ?_
     simp only[go_sem,encT_sz]
     refine aCall_intro hA ?_
     simp only[go_sem,encT_sz,Int.reduceBEq]
     refine aCall_intro hV ?_
     simp only[go_sem,encT_sz,Int.reduceBNe]
     refine aCall_intro hCo ?_
     simp only[go_sem,encT_sz]
   ·rw[if_pos he,encT_zero]
    have h1:(e==0)=false:=by simpa using he
    have h2:(e != 0)=true:=by simpa using he
    refine wk (rv:=[.cell 2 31,.tmp 3,.tmp 4]) ann38 34 Tryz.func38 ?_
    simp only[go_sem,encT_sz]
    refine aCall_intro hC ?_
    simp only[go_sem,encT_sz]
    refine aCall_intro hR ?_
    simp only[go_sem,encT_sz]
    refine aCall_intro hA ?_
    simp only[go_sem,encT_sz,h1,h2,List.map_nil]
theorem rStep_spec (t:TermT) (hok:okT t):Spec Tryz.prog 39 [pp (encT t)] [] (encR (rstepT t)) []:=by
 have hC:=Whole_spec t hok
 rw[rstepT]
 cases hc:closedT t with
 |false=>
  rw[hc] at hC
  rw[if_pos rfl,encR_mk,encT_zero]
  refine wk (rv:=[.cell 2 31,.tmp 3,.tmp 4]) ann39 45 Tryz.func39 ?_
  simp only[go_sem,encT_sz]
  refine aCall_intro hC ?_
  simp only[go_sem,List.map_nil]
 |true=>
  have hv:=closed_valid hc
  have hF:=form_spec t (valid_wf hv).1
  rw[hc] at hC
  rw[if_neg (by decide)]
  cases hr:resT t with
  |true=>
   rw[hr] at hF
   rw[if_pos (.inl rfl),encR_mk,encT_zero]
   refine wk (rv:=[.cell 2 31,.tmp 3,.tmp 4]) ann39 45 Tryz.func39 ?_
   simp only[go_sem,encT_sz]
   refine aCall_intro hC ?_
   simp only[go_sem,encT_sz]
   refine aCall_intro hF ?_
   simp only[go_sem,List.map_nil]
  |false=>
   have hFa:=rFails_spec t hv hok
   rw[hr] at hF
   by_cases hfp:failN t>0
   ·have hfp':=decide_eq_true hfp
    rw[if_pos (.inr hfp),encR_mk,encT_zero]
    generalize failN t=fv at hFa hfp'
    refine wk (rv:=[.cell 2 31,.tmp 3,.tmp 4]) ann39 45 Tryz.func39 ?_
    simp only[go_sem,encT_sz]
    refine aCall_intro hC ?_
    simp only[go_sem,encT_sz]
    refine aCall_intro hF ?_
    simp only[go_sem,encT_sz]
    refine aCall_intro hFa ?_
    simp only[go_sem,hfp',List.map_nil]
   ·have hfp':=decide_eq_false hfp
    obtain ⟨hn,hno⟩:=next_valid t hv hok
    have hN:=Next_spec t (valid_wf hv).1
    have hP:=rcontr_spec (nextT t) hn hno
    have hB:=rb_spec (rcontrT (nextT t)).1 t (valid_wf hv).1 hok
    have hV:=rtValid_spec _ (okT_rstep hv hok)
    rw[if_neg (by rintro (e|e);cases e;exact hfp e)]
    generalize failN t=fv at hFa hfp'
    generalize rcontrT (nextT t)=r at hP hB hV ⊢
    obtain ⟨r1,r2,r3,r4⟩:=r
    simp only[encQ] at hP hB hV ⊢
    generalize nextT t=x at hN hP
    generalize rbT r1 t=y at hB hV ⊢
    cases r4 with
    |false=>
     rw[if_pos rfl,encR_mk,encT_zero]
     refine wk (rv:=[.cell 2 31,.tmp 3,.tmp 4]) ann39 45 Tryz.func39 ?_
     simp only[go_sem,encT_sz]
     refine aCall_intro hC ?_
     simp only[go_sem,encT_sz]
     refine aCall_intro hF ?_
     simp only[go_sem,encT_sz]
     refine aCall_intro hFa ?_
     simp only[go_sem,hfp',encT_sz]
     refine aCall_intro hN ?_
     simp only[go_sem,encT_sz]
     refine aCall_intro hP ?_
     simp only[go_sem,encT_sz,List.map_nil]
    |true=>
     rw[if_neg (by decide)]
     cases hvy:validT y with
     |false=>
      rw[hvy] at hV
      rw[if_pos rfl,encR_mk,encT_zero]
      refine wk (rv:=[.cell 2 31,.tmp 3,.tmp 4]) ann39 45 Tryz.func39 ?_
      simp only[go_sem,encT_sz]
      refine aCall_intro hC ?_
      simp only[go_sem,encT_sz]
      refine aCall_intro hF ?_
      simp only[go_sem,encT_sz]
      refine aCall_intro hFa ?_
      simp only[go_sem,hfp',encT_sz]
      refine aCall_intro hN ?_
      simp only[go_sem,encT_sz]
      refine aCall_intro hP ?_
      simp only[go_sem,encT_sz]
      refine aCall_intro hB ?_
      simp only[go_sem,encT_sz]
      refine aCall_intro hV ?_
      simp only[go_sem,encT_sz,List.map_nil]
     |true=>
      rw[hvy] at hV
      rw[if_neg (by decide),encR_mk]
      cases r3 with
      |true=>
       rw[if_pos rfl,List.map_cons,List.map_nil]
       refine wk (rv:=[.cell 2 31,.tmp 3,.tmp 4]) ann39 45 Tryz.func39 ?_
       simp only[go_sem,encT_sz]
       refine aCall_intro hC ?_
       simp only[go_sem,encT_sz]
       refine aCall_intro hF ?_
       simp only[go_sem,encT_sz]
       refine aCall_intro hFa ?_
       simp only[go_sem,hfp',encT_sz]
       refine aCall_intro hN ?_
       simp only[go_sem,encT_sz]
       refine aCall_intro hP ?_
       simp only[go_sem,encT_sz]
       refine aCall_intro hB ?_
       simp only[go_sem,encT_sz]
       refine aCall_intro hV ?_
       simp only[go_sem,encT_sz]
      |false=>
       rw[if_neg (by decide),List.map_nil]
       refine wk (rv:=[.cell 2 31,.tmp 3,.tmp 4]) ann39 45 Tryz.func39 ?_
       simp only[go_sem,encT_sz]
       refine aCall_intro hC ?_
       simp only[go_sem,encT_sz]
       refine aCall_intro hF ?_
       simp only[go_sem,encT_sz]
       refine aCall_intro hFa ?_
       simp only[go_sem,hfp',encT_sz]
       refine aCall_intro hN ?_
       simp only[go_sem,encT_sz]
       refine aCall_intro hP ?_
       simp only[go_sem,encT_sz]
       refine aCall_intro hB ?_
       simp only[go_sem,encT_sz]
       refine aCall_intro hV ?_
       simp only[go_sem,encT_sz]
end Go.Abs.Kon