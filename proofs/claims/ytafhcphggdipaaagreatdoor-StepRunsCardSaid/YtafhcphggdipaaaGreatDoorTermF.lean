/- Terms. -/
import Derived.Test.YtafhcphggdipaaaGreatDoorTermE
import Derived.Test.YtafhcphggdipaaaGreatDoorTermC
import Derived.Test.YtafhcphggdipaaaGreatDoorTermD
set_option linter.unusedSimpArgs false
set_option linter.unusedVariables false
namespace Go.Abs.Kon
open Go Go.Proofs Go.Abs
set_option maxRecDepth 100000
set_option maxHeartbeats 4000000
theorem rFree_zero:Spec Tryz.prog 189 [pp (encC zeroC)] [] (.slice (ints [])) []:=by
 have hF:Spec Tryz.prog 219 [pp (.slice []),pp (encC zeroC),ii 0] [] (.slice []) []:=by
  have e1:((0:Int)==1)=false:=rfl
  refine wk (rv:=[.tmp 6]) ann219 41 Tryz.func219 ?_
  simp only[go_sem,zeroC,encC_mk,e1,List.map_nil]
  refine ⟨1,?_⟩
  rw[aLoop_succ]
  simp only[go_sem,List.map_nil,List.length_nil,Int.natCast_zero,lt_false (Int.le_refl _)]
 refine wk (rv:=[.tmp 2]) ann189 5 Tryz.func189 ?_
 simp only[go_sem,encC_sz,List.map_nil]
 refine aCall_intro hF ?_
 simp only[go_sem]
theorem rFree_n (c:ConT) (h:eqC c zeroC=true∨formedF c=true):∀x∈sortU (freeL c),0≤x∧x≤20000:=by
 intro i hi
 rw[sortU_mem] at hi
 obtain ⟨x,b,h1,h2,h3,rfl⟩:=mem_freeL.1 hi
 obtain ⟨_,_,g3,g4,_⟩:=leaves_mem c 0 x b h1
 rcases h with h|h
 ·rw[eqC_zero h] at h1
  rw[zeroC,leaves] at h1
  rw[if_neg (by decide),leavesL] at h1
  cases h1
 ·have:=formed_n (g3 h)
  omega
theorem rFree_any (c:ConT) (h:eqC c zeroC=true∨formedF c=true) (h2:wtF c≤900000000) (hd:depthF c≤100000000):Spec Tryz.prog 189 [pp (encC c)] [] (.slice (ints (sortU (freeL c)))) []∧(∀x∈sortU (freeL c),0≤x∧x≤20000)∧(sortU (freeL c)).length≤20001:=by
 have hb:=rFree_n c h
 refine ⟨?_,hb,?_⟩
 ·rcases h with h|h
  ·rw[eqC_zero h,freeL_zero,sortU_nil]
   exact rFree_zero
  ·exact rFree_spec c h hd (by omega)
 ·have:=asc_len _ 0 20000 (sortU_asc (freeL c)) hb
  omega
def accOk (l:List Int):Prop:=l.Pairwise (· < ·)∧∀x∈l,0≤x∧x≤20000
theorem accOk_len {l:List Int}(h:accOk l):l.length≤20001:=by
 have:=asc_len l 0 20000 h.1 h.2
 omega
theorem accOk_ins {l m:List Int}(h:accOk l) (hm:∀x∈m,0≤x∧x≤20000):accOk (insAll l m):=
 ⟨insAll_asc m l h.1,fun x hx=>((foldU_mem m l).1 hx).elim (h.2 x) (hm x)⟩
theorem above_n {l:List Int}{u:Int}(hu:0≤u) (h:∀x∈l,0≤x∧x≤20000):∀x∈above l u,0≤x∧x≤20000:=by
 intro x hx
 obtain ⟨n,h1,h2,rfl⟩:=mem_above.1 hx
 have:=h n h1
 omega
theorem fit_or {c:ConT}{b:Bool}(h:fitsC c b=true):eqC c zeroC=true∨formedF c=true:=by
 rw[fitsC] at h
 split at h
 ·exact .inr (validF_formed h)
 ·exact .inl h
theorem fit_depth {c:ConT}{b:Bool}(h:fitsC c b=true):depthF c≤100000000:=by
 rw[fitsC] at h
 split at h
 ·have:=(valid_dw h).1;omega
 ·rw[eqC_zero h];decide
theorem consR_nn (op:Int) (i:Nat):0≤consR op i∧consR op i≤1:=by rw[consR];split<;>omega
theorem termsR_nn (op:Int) (i:Nat):0≤termsR op i∧termsR op i≤1:=by rw[termsR];(repeat' split)<;>omega
mutual
theorem consRF_n:∀(t:TermT) (uc:Int),wfT t=true→wcT t→0≤uc→∀x∈consRF t uc,0≤x∧x≤20000
 | .mk op n s con to k names l,uc,hwf,hwc,h,x,hx=>by
  rw[wfT,Bool.and_eq_true] at hwf
  simp only[wcT] at hwc
  obtain ⟨_,_,_,_,_,_,_,f1,f2⟩:=node_op hwf.1
  rw[consRF] at hx
  rcases List.mem_append.1 hx with hx|hx
  ·exact above_n h (rFree_n con (fit_or f1))  x hx
  ·rcases List.mem_append.1 hx with hx|hx
   ·exact above_n h (rFree_n to (fit_or f2))  x hx
   ·exact consRL_n op l 0 uc hwf.2 hwc.2.2 h x hx
theorem consRL_n (op:Int):∀(l:List TermT) (i:Nat) (uc:Int),wfL l=true→wcTs l→0≤uc→∀x∈consRL op l i uc,0≤x∧x≤20000
 | [],i,uc,hwf,hwc,h,x,hx=>by rw[consRL] at hx;cases hx
 |y::r,i,uc,hwf,hwc,h,x,hx=>by
  rw[wfL,Bool.and_eq_true] at hwf
  simp only[wcTs] at hwc
  have:=consR_nn op i
  rw[consRL] at hx
  rcases List.mem_append.1 hx with hx|hx
  ·exact consRF_n y _ hwf.1 hwc.1 (by omega) x hx
  ·exact consRL_n op r (i+1) uc hwf.2 hwc.2 h x hx
end
mutual
theorem termsRF_n:∀(t:TermT) (ut:Int),wfT t=true→0≤ut→∀x∈termsRF t ut,0≤x∧x≤20000
 | .mk op n s con to k names l,ut,hwf,h,x,hx=>by
  rw[wfT,Bool.and_eq_true] at hwf
  rw[termsRF] at hx
  split at hx
  ·rename_i e
   obtain ⟨_,_,_,_,_,_,g1,g2⟩:=node_op1 hwf.1 e.1
   rw[List.mem_singleton] at hx
   omega
  ·exact termsRL_n op l 0 ut hwf.2 h x hx
theorem termsRL_n (op:Int):∀(l:List TermT) (i:Nat) (ut:Int),wfL l=true→0≤ut→∀x∈termsRL op l i ut,0≤x∧x≤20000
 | [],i,ut,hwf,h,x,hx=>by rw[termsRL] at hx;cases hx
 |y::r,i,ut,hwf,h,x,hx=>by
  rw[wfL,Bool.and_eq_true] at hwf
  have:=termsR_nn op i
  rw[termsRL] at hx
  rcases List.mem_append.1 hx with hx|hx
  ·exact termsRF_n y _ hwf.1 (by omega) x hx
  ·exact termsRL_n op r (i+1) ut hwf.2 h x hx
end
theorem rtfreeC_spec (t:TermT):∀(a:List Int) (uc:Int),wfT t=true→okT t→wcT t→accOk a→0≤uc→uc+depthT t≤1000000000 →
  Spec Tryz.prog 154 [pp (.slice (ints a)),pp (encT t),ii uc] [] (.slice (ints (insAll a (consRF t uc)))) []:=by
 revert t
 refine TermT.ind1 fun op n s con to k names l ih=>?_
 intro a uc hwf hok hwc ha h1 h2
 rw[wfT,Bool.and_eq_true] at hwf
 obtain ⟨hnode,hwl⟩:=hwf
 obtain ⟨o1,o2,o3,o4⟩:=okT_con hok
 simp only[wcT] at hwc
 obtain ⟨c1,c2,c3⟩:=hwc
 rw[depthT] at h2
 obtain ⟨_,_,_,_,_,_,_,f1,f2⟩:=node_op hnode
 obtain ⟨hF1,n1,ln1⟩:=rFree_any con (fit_or f1) c1 (fit_depth f1)
 obtain ⟨hF2,n2,ln2⟩:=rFree_any to (fit_or f2) c2 (fit_depth f2)
 have hC:=fun i=>rtCons_spec op n s con to k names l i
 rw[consRF,insAll_append,insAll_append]
 generalize sortU (freeL con)=m1 at hF1 n1 ln1
 generalize sortU (freeL to)=m2 at hF2 n2 ln2
 have a1:=accOk_ins ha (above_n h1 n1)
 have a2:=accOk_ins a1 (above_n h1 n2)
 have hM1:=merge_spec a m1 uc (by have:=accOk_len ha;omega) (fun x hx=>by have:=n1 x hx;omega) h1 (by omega)
 have hM2:=merge_spec (insAll a (above m1 uc)) m2 uc (by have:=accOk_len a1;omega) (fun x hx=>by have:=n2 x hx;omega) h1 (by omega)
 generalize insAll a (above m1 uc)=b1 at hM1 hM2 a1 a2
 generalize insAll b1 (above m2 uc)=b2 at hM2 a2
 generalize hres:insAll b2 (consRL op l 0 uc)=res
 simp only[encC_cells,ConT.cells] at hF1 hF2
 simp only[encT_mk] at hC
 refine wk (rv:=[.tmp 6]) ann154 40 Tryz.func154 ?_
 simp only[go_sem,encT_mk]
 refine aCall_intro hF1 ?_
 simp only[go_sem]
 refine aCall_intro hM1 ?_
 simp only[go_sem]
 refine aCall_intro hF2 ?_
 simp only[go_sem]
 refine aCall_intro hM2 ?_
 simp only[go_sem]
 clear hF1 hF2 hM1 hM2
 refine aLoop_list (α:=TermT) (β:=Nat×List Int) (fun rest b=>⟨[(7,ii b.1),(4,pp (.ep (encT (.mk op n s con to k names l)) 0)),(2,ii uc),(0,pp (.slice (ints b.2)))],[],[]⟩)
  (fun rest b=>∃pre,l=pre++rest∧b.1=pre.length∧accOk b.2∧insAll b.2 (consRL op rest b.1 uc)=res) ?_ ?_ l (0,b2) _ ?_ ⟨[],rfl,rfl,a2,hres⟩
 ·rintro ⟨m,cur⟩ ⟨pre,g1,g2,g3,g4⟩ K
  simp only[List.append_nil] at g1 g2
  subst g1
  simp only[consRL,insAll,List.foldl_nil] at g4
  subst g4
  simp only[go_sem,g2,lt_false (Int.le_refl _),List.length_map,encT_mk]
 ·rintro x rest ⟨m,cur⟩ ⟨pre,g1,g2,g3,g4⟩ K hK
  simp only at g2 g3 g4
  have hx:(l.map encT)[m]? = some (encT x):=by simp[g1,g2]
  have hlt:(m:Int)<l.length:=by rw[g1,g2];simp;omega
  have hll:m<l.length:=by rw[g1,g2];simp
  have hm:x∈l:=by simp[g1]
  have hdx:=depthTL_mem hm
  have w4:IntKind.i64.wrap ((m:Int)+1)=((m+1:Nat):Int):=by rw[wrap_id (by omega) (by omega)];simp
  have q0:=consR_nn op m
  have hC:=hC m
  have hI:=ih x hm cur (uc+consR op m) (wfL_mem.1 hwl x hm) (okTs_mem.1 o4 x hm) (wcTs_mem.1 c3 x hm) g3 (by omega) (by omega)
  have w5:IntKind.i64.wrap (uc+consR op m)=uc+consR op m:=wrap_id (by omega) (by omega)
  rw[consRL,insAll_append] at g4
  have a3:=accOk_ins g3 (consRF_n x (uc+consR op m) (wfL_mem.1 hwl x hm) (wcTs_mem.1 c3 x hm) (by omega))
  have hK':=fun s' hs=>hK (m+1,insAll cur (consRF x (uc+consR op m))) s' hs ⟨pre++[x],by simp[g1],by simp[g2],a3,g4⟩
  clear hK g4
  generalize insAll cur (consRF x (uc+consR op m))=cur2 at hI hK' a3
  generalize consR op m=q at hC hI w5
  simp only[go_sem,decide_eq_true hlt,Int.toNat_natCast,Int.natCast_nonneg,hx,encT_sz,List.length_map,encT_mk]
  refine aCall_intro hC ?_
  simp only[go_sem,w5]
  refine aCall_intro hI ?_
  simp only[go_sem,w4]
  try (refine ⟨by kernel_rfl,?_⟩;try simp only[go_sem,w4])
  refine hK' _ ?_
  simp only[go_sem,encT_mk]
 ·simp only[go_sem,Int.natCast_zero,encT_mk]
theorem rtfreeT_spec (t:TermT):∀(a:List Int) (ut:Int),wfT t=true→okT t→accOk a→0≤ut→ut+depthT t≤1000000000 →
  Spec Tryz.prog 155 [pp (.slice (ints a)),pp (encT t),ii ut] [] (.slice (ints (insAll a (termsRF t ut)))) []:=by
 revert t
 refine TermT.ind1 fun op n s con to k names l ih=>?_
 intro a ut hwf hok ha h1 h2
 rw[wfT,Bool.and_eq_true] at hwf
 obtain ⟨hnode,hwl⟩:=hwf
 obtain ⟨o1,o2,o3,o4⟩:=okT_con hok
 rw[depthT] at h2
 have hT:=fun i=>rtTerms_spec op n s con to k names l i
 simp only[encT_mk] at hT
 by_cases hop:op=1∧n≥ut
 ·rw[termsRF,if_pos hop]
  obtain ⟨_,_,_,_,_,_,g1,g2⟩:=node_op1 hnode hop.1
  have w1:IntKind.i64.wrap (n - ut)=n - ut:=wrap_id (by omega) (by omega)
  have hA:=tAdd_spec a (n - ut) (by have:=accOk_len ha;omega)
  have e1:(op==1)=true:=by simp[hop.1]
  rw[show insAll a [n - ut]=insU (n - ut) a from rfl]
  refine wf (rv:=[.tmp 6]) ann155 43 Tryz.func155 fun hfit=>?_
  clear hfit ih
  simp only[go_sem,encT_mk,e1,decide_eq_true hop.2,w1]
  refine aCall_intro hA ?_
  simp only[go_sem]
 ·rw[termsRF,if_neg hop]
  generalize hres:insAll a (termsRL op l 0 ut)=res
  have loop:(op==1)=false∨((op==1)=true∧decide (n≥ut)=false):=by
   by_cases e:op=1
   ·exact .inr ⟨by simp[e],decide_eq_false fun h=>hop ⟨e,h⟩⟩
   ·exact .inl (by simp[e])
  refine wk (rv:=[.tmp 6]) ann155 43 Tryz.func155 ?_
  rcases loop with e1|⟨e1,e2⟩
  all_goals
   first
    |simp only[go_sem,encT_mk,e1,e2]
    |simp only[go_sem,encT_mk,e1]
   refine aLoop_list (α:=TermT) (β:=Nat×List Int) (fun rest b=>⟨[(7,ii b.1),(4,pp (.ep (encT (.mk op n s con to k names l)) 0)),(2,ii ut),(0,pp (.slice (ints b.2)))],[],[]⟩)
    (fun rest b=>∃pre,l=pre++rest∧b.1=pre.length∧accOk b.2∧insAll b.2 (termsRL op rest b.1 ut)=res) ?_ ?_ l (0,a) _ ?_ ⟨[],rfl,rfl,ha,hres⟩
   ·rintro ⟨m,cur⟩ ⟨pre,g1,g2,g3,g4⟩ K
    simp only[List.append_nil] at g1 g2
    subst g1
    simp only[termsRL,insAll,List.foldl_nil] at g4
    subst g4
    simp only[go_sem,g2,lt_false (Int.le_refl _),List.length_map,encT_mk]
   ·rintro x rest ⟨m,cur⟩ ⟨pre,g1,g2,g3,g4⟩ K hK
    simp only at g2 g3 g4
    have hx:(l.map encT)[m]? = some (encT x):=by simp[g1,g2]
    have hlt:(m:Int)<l.length:=by rw[g1,g2];simp;omega
    have hll:m<l.length:=by rw[g1,g2];simp
    have hm:x∈l:=by simp[g1]
    have hdx:=depthTL_mem hm
    have w4:IntKind.i64.wrap ((m:Int)+1)=((m+1:Nat):Int):=by rw[wrap_id (by omega) (by omega)];simp
    have q0:=termsR_nn op m
    have hT:=hT m
    have hI:=ih x hm cur (ut+termsR op m) (wfL_mem.1 hwl x hm) (okTs_mem.1 o4 x hm) g3 (by omega) (by omega)
    have w5:IntKind.i64.wrap (ut+termsR op m)=ut+termsR op m:=wrap_id (by omega) (by omega)
    rw[termsRL,insAll_append] at g4
    have a3:=accOk_ins g3 (termsRF_n x (ut+termsR op m) (wfL_mem.1 hwl x hm) (by omega))
    have hK':=fun s' hs=>hK (m+1,insAll cur (termsRF x (ut+termsR op m))) s' hs ⟨pre++[x],by simp[g1],by simp[g2],a3,g4⟩
    clear hK g4
    generalize insAll cur (termsRF x (ut+termsR op m))=cur2 at hI hK' a3
    generalize termsR op m=q at hT hI w5
    simp only[go_sem,decide_eq_true hlt,Int.toNat_natCast,Int.natCast_nonneg,hx,encT_sz,List.length_map,encT_mk]
    refine aCall_intro hT ?_
    simp only[go_sem,w5]
    refine aCall_intro hI ?_
    simp only[go_sem,w4]
    try (refine ⟨by kernel_rfl,?_⟩;try simp only[go_sem,w4])
    refine hK' _ ?_
    simp only[go_sem,encT_mk]
   ·simp only[go_sem,Int.natCast_zero,encT_mk]
theorem accOk_nil:accOk []:=⟨List.Pairwise.nil,fun x hx=>by cases hx⟩
theorem rFreeCons_spec (t:TermT) (hwf:wfT t=true) (hok:okT t) (hwc:wcT t) (hd:depthT t≤1000):Spec Tryz.prog 117 [pp (encT t)] [] (.slice (ints (sortU (consF t 0)))) []:=by
 have hF:=rtfreeC_spec t [] 0 hwf hok hwc accOk_nil (by decide) (by omega)
 rw[consRF_eq t 0 hwf,show insAll [] (consF t 0)=sortU (consF t 0) from rfl] at hF
 generalize sortU (consF t 0)=res at hF
 simp only[ints,List.map_nil] at hF
 refine wk (rv:=[.tmp 2]) ann117 5 Tryz.func117 ?_
 simp only[go_sem,encT_sz]
 refine aCall_intro hF ?_
 simp only[go_sem]
theorem rFreeTerms_spec (t:TermT) (hwf:wfT t=true) (hok:okT t) (hd:depthT t≤1000):Spec Tryz.prog 118 [pp (encT t)] [] (.slice (ints (sortU (termsF t 0)))) []:=by
 have hF:=rtfreeT_spec t [] 0 hwf hok accOk_nil (by decide) (by omega)
 rw[termsRF_eq t 0 hwf,show insAll [] (termsF t 0)=sortU (termsF t 0) from rfl] at hF
 generalize sortU (termsF t 0)=res at hF
 simp only[ints,List.map_nil] at hF
 refine wk (rv:=[.tmp 2]) ann118 5 Tryz.func118 ?_
 simp only[go_sem,encT_sz]
 refine aCall_intro hF ?_
 simp only[go_sem]
/-! -/
theorem EqualFuncT {α:Type}(enc:α→PV) (es fs:List α) (f:FuncId) (caps:List PV) (q:α→α→Bool) (hes:∀e∈es,PV.hasSz (.agg 18) (enc e)=true) (hfs:∀e∈fs,PV.hasSz (.agg 18) (enc e)=true) (hq:Pred2On enc f caps q es fs):Spec Tryz.prog 33 [pp (.slice (es.map enc)),pp (.slice (fs.map enc)),pp (.fn f caps)] [] (.bool (eqL q es fs)) []:=by
 refine wf (rv:=[.tmp 6]) ann33 32 Tryz.func33 fun hfit=>?_
 have hlen:es.length≤9223372036854775807:=by
  simp only[argsFit,SV.pv?,SC.pv?,PV.fit,maxLen_eq,List.length_map] at hfit
  exact hfit.1.1
 clear hfit
 generalize h0:eqL q es fs=res
 simp only[go_sem,List.length_map]
 refine condK_intro (fun hb=>?_) (fun hb=>?_)
 ·simp only[go_sem]
  rw[←h0,eqL_length]
  intro h;simp[h] at hb
 ·have hl:es.length=fs.length:=by simp at hb;omega
  simp only[go_sem,List.length_map]
  refine aLoop_list (α:=α) (β:=List α×List α×List α) (fun rest b=>⟨[(17,ii b.1.length),(2,pp (.fn f caps)),(1,pp (.slice (fs.map enc))),(15,pp (.slice (es.map enc))),(16,ii es.length)],[],[]⟩) (fun rest b=>es=b.1++rest∧fs=b.2.1++b.2.2∧b.1.length=b.2.1.length∧eqL q rest b.2.2=res) ?_ ?_ es ([],[],fs) _ ?_ ⟨rfl,rfl,rfl,h0⟩
  ·rintro ⟨pre,pre',rest'⟩ ⟨h4,h4',h6,h5⟩ K
   simp only[List.append_nil] at h4 h4' h6
   simp only[go_sem,h4,lt_false (Int.le_refl _)]
   have:rest'=[]:=by
    have:=congrArg List.length h4'
    rw[←hl,h4] at this;simp at this
    exact List.eq_nil_of_length_eq_zero (by omega)
   rw[this] at h5
   simp only[eqL] at h5
   rw[h5]
  ·rintro x rest ⟨pre,pre',rest'⟩ ⟨h4,h4',h6,h5⟩ K hK
   simp only at h4 h4' h6 h5
   cases rest' with
   |nil=>
    exfalso
    have h7:=congrArg List.length h4'
    have h8:=congrArg List.length h4
    simp at h7 h8;omega
   |cons y rest'=>
    have hx:(es.map enc)[pre.length]? = some (enc x):=by simp[h4]
    have hy:(fs.map enc)[pre.length]? = some (enc y):=by simp[h4',h6]
    have hlt:(pre.length:Int)<es.length:=by rw[h4];simp;omega
    have hm:x∈es:=by simp[h4]
    have hn:y∈fs:=by simp[h4']
    simp only[go_sem,decide_eq_true hlt,Int.toNat_natCast,Int.natCast_nonneg,hx,hy,hes x hm,hfs y hn]
    refine aCall_intro (hq x hm y hn) ?_
    simp only[go_sem]
    refine condK_intro (fun hb=>?_) (fun hb=>?_)
    ·have hb':q x y=false:=by simpa using hb
     simp only[eqL,hb',Bool.false_and] at h5
     subst h5
     simp only[go_sem]
    ·have hb':q x y=true:=by simpa using hb
     have w4:IntKind.i64.wrap ((pre.length:Int)+1)=((pre++[x]).length:Int):=by rw[wrap_id (by omega) (by omega)];simp
     simp only[eqL,hb',Bool.true_and] at h5
     simp only[go_sem,w4]
     refine hK (pre++[x],pre'++[y],rest') _ ?_ ⟨by simp[h4],by simp[h4'],by simp[h6],h5⟩
     simp only[go_sem]
  ·simp only[go_sem,List.length_nil,Int.natCast_zero]
/-! -/
/-! -/
mutual
theorem meas_mono:∀(t:TermT) (left depth left' depth':Int),(measT t left depth).2=true→left≤left'→depth'≤depth→measT t left' depth'=measT t left depth∧(measT t left' depth').2=true
 | .mk op n s con to k names l,left,depth,left',depth',h,h1,h2=>by
  rw[measT] at h ⊢
  rw[measT]
  by_cases e:left≤0∨depth>400∨nodeT op n s con to k names l.length=false
  ·rw[if_pos e] at h;cases h
  ·rw[if_neg e] at h ⊢
   rw[if_neg (by rintro (g|g|g);exact e (.inl (by omega));exact e (.inr (.inl (by omega)));exact e (.inr (.inr g)))]
   exact measL_mono l _ _ _ _ _ h h1 h2
theorem measL_mono:∀(l:List TermT) (left n depth left' depth':Int),(measTL l left n depth).2=true→left≤left'→depth'≤depth→measTL l left' n depth'=measTL l left n depth∧(measTL l left' n depth').2=true
 | [],left,n,depth,left',depth',h,h1,h2=>by
  rw[measTL] at h ⊢
  rw[measTL]
  have:=of_decide_eq_true h
  rw[decide_eq_true this,decide_eq_true (show n≤left' by omega)]
  exact ⟨rfl,rfl⟩
 |x::r,left,n,depth,left',depth',h,h1,h2=>by
  rw[measTL] at h ⊢
  rw[measTL]
  by_cases e:(measT x (left - n) (depth+1)).2=false
  ·rw[if_pos e] at h;cases h
  ·have e':(measT x (left - n) (depth+1)).2=true:=by simpa using e
   obtain ⟨g1,g2⟩:=meas_mono x (left - n) (depth+1) (left' - n) (depth'+1) e' (by omega) (by omega)
   rw[if_neg e] at h ⊢
   rw[g1,if_neg e]
   exact measL_mono r left _ depth left' depth' h h1 h2
end
theorem measL_all:∀(l:List TermT) (left n depth:Int),(measTL l left n depth).2=true→0≤n→left≤20000→0≤depth→∀x∈l,validT x=true
 | [],_,_,_,_,_,_,_,x,hx=>by cases hx
 |y::r,left,n,depth,h,hn,hl,hd,x,hx=>by
  rw[measTL] at h
  by_cases e:(measT y (left - n) (depth+1)).2=false
  ·rw[if_pos e] at h;cases h
  ·rw[if_neg e] at h
   rcases List.mem_cons.1 hx with rfl|hx
   ·exact (meas_mono x (left - n) (depth+1) 20000 1 (by simpa using e) (by omega) (by omega)).2
   ·exact measL_all r left _ depth h (by have:=(measT_le y (left - n) (depth+1)).1;omega) hl hd x hx
theorem valid_parts_T {op n:Int}{s:ByteArray}{con to:ConT}{k:List KindT}{names:List ByteArray}{l:List TermT}(h:validT (.mk op n s con to k names l)=true):∀x∈l,validT x=true:=by
 rw[validT,measT] at h
 split at h
 ·cases h
 ·exact measL_all l _ _ _ h (by split<;>split<;>omega) (by decide) (by decide)
end Go.Abs.Kon