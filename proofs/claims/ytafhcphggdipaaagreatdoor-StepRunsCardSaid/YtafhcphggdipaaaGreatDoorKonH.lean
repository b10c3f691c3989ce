/- The reference's shifting and substituting; maps of leaves. -/
import Derived.Test.YtafhcphggdipaaaGreatDoorKonG
import Derived.Test.YtafhcphggdipaaaGreatDoorShelfA
set_option linter.unusedSimpArgs false
set_option linter.unusedVariables false
namespace Go.Abs.Kon
open Go Go.Proofs Go.Abs
set_option maxRecDepth 100000
set_option maxHeartbeats 4000000
def deepF (op depth:Int):Int:=if isBinder op then depth+1 else depth
theorem deep_spec (op n:Int) (s:ByteArray) (k:List KindT) (names:List ByteArray) (l:List ConT) (depth:Int) (h1:0≤depth) (h2:depth≤2000000000) :
  Spec Tryz.prog 244 [pp (rawC op n s k names l),ii depth] [] (.int .i64 (deepF op depth)) []:=by
 have hB:=rBinder_spec op
 have w1:IntKind.i64.wrap (depth+1)=depth+1:=wrap_id (by omega) (by omega)
 rw[deepF]
 refine wk (rv:=[.tmp 4]) ann244 11 Tryz.func244 ?_
 simp only[go_sem]
 refine aCall_intro hB ?_
 simp only[go_sem]
 refine condK_intro (fun hb=>?_) (fun hb=>?_)
 ·simp only[go_sem,hb,w1]
 ·simp only[go_sem,hb]
theorem inside_spec (op n:Int) (s:ByteArray) (k:List KindT) (names:List ByteArray) (l:List ConT) (es:List PV) :
  Spec Tryz.prog 265 [pp (rawC op n s k names l),pp (.slice es)] [] (.agg [.int .i64 op,.int .i64 n,.str s,.slice (k.map encK),.slice (names.map .str),.slice es]) []:=by
 refine wk (rv:=[.cell 4 28]) ann265 17 Tryz.func265 ?_
 simp only[go_sem]
def capF (from':Int):Int:=if 20001<from' then 20001 else from'
mutual
def rShiftF:ConT→Int→Int→ConT
 | .mk op n s k names l,by',from'=>
  if op=1 then (if n≥capF from' then varC (n+by') else .mk op n s k names l) else .mk op n s k names (rShiftL l by' (deepF op (capF from')))
def rShiftL:List ConT→Int→Int→List ConT
 | [],_,_=>[]
 |x::r,by',from'=>rShiftF x by' from'::rShiftL r by' from'
end
theorem rShift_spec (c:ConT):∀by' from':Int,-2000000000≤by'→by'≤2000000000→0≤from'→formedF c=true→wtF c≤900000000 →
  Spec Tryz.prog 264 [pp (encC c),ii by',ii from'] [] (encC (rShiftF c by' from')) []:=by
 revert c
 refine ConT.ind1 fun op n s k names l ih=>?_
 intro by' from' h1 h2 h3 h4 h5
 have hn:=formed_n h4
 replace hn:0≤n∧n≤20000:=hn
 have w1:IntKind.i64.wrap (n+by')=n+by':=wrap_id (by omega) (by omega)
 have hm:(if (20001:Int)<from' then (20001:Int) else from')=capF from':=rfl
 have hc0:0≤capF from':=by rw[capF];split<;>omega
 have hc1:capF from'≤20001:=by rw[capF];split<;>omega
 rw[wtF] at h5
 have hwl:=wtL_len l
 refine wk (rv:=[.cell 6 28]) ann264 47 Tryz.func264 ?_
 simp only[go_sem,encC_mk,hm]
 refine condK_intro (fun hb=>?_) (fun hb=>?_)
 ·have hb':op=1:=eq_of_beq hb
  simp only[go_sem]
  refine condK_intro (fun hd=>?_) (fun hd=>?_)
  ·have:rShiftF (.mk op n s k names l) by' from'=varC (n+by'):=by rw[rShiftF,if_pos hb',if_pos (of_decide_eq_true hd)]
   rw[this]
   simp only[go_sem,w1,varC,encC_mk]
  ·have:rShiftF (.mk op n s k names l) by' from'=.mk op n s k names l:=by rw[rShiftF,if_pos hb',if_neg (of_decide_eq_false hd)]
   rw[this]
   simp only[go_sem,encC_mk]
 ·have hb':¬op=1:=by simpa using hb
  have hr:rShiftF (.mk op n s k names l) by' from'=.mk op n s k names (rShiftL l by' (deepF op (capF from'))):=by rw[rShiftF,if_neg hb']
  rw[hr]
  have hD:=deep_spec op n s k names l (capF from') hc0 (by omega)
  have hIn:=fun es=>inside_spec op n s k names l es
  have hfm:formedL l=true:=by rw[formedF,Bool.and_eq_true] at h4;exact h4.2
  rw[formedL_all] at hfm
  have hdd:0≤deepF op (capF from'):=by rw[deepF];split<;>omega
  simp only[rawC] at hD hIn
  generalize deepF op (capF from')=dd at hD hdd ⊢
  generalize capF from'=cf at *
  simp only[go_sem]
  refine aLoop_list (α:=ConT) (β:=List ConT×Nat) (fun rest b=>⟨[(8,ii b.2),(2,ii cf),(3,pp (.ep (rawC op n s k names l) 0)),(1,ii by'),(7,.one (acc 86 (.agg 6) (b.1.map encC))),(6,.one (.ptr (.loc 6) 0))],
    [(.loc 6,⟨.agg 6,.agg [.pv (.int .i64 0),.pv (.int .i64 0),.pv (.str ByteArray.empty),.nilS,.nilS,.nilS]⟩)],[]⟩)
   (fun rest b=>∃pre,l=pre++rest∧b.2=pre.length∧b.1.length=pre.length∧rShiftL l by' dd=b.1++rShiftL rest by' dd) ?_ ?_ l ([],0) _ ?_ ⟨[],rfl,rfl,rfl,rfl⟩
  ·rintro ⟨out,m⟩ ⟨pre,g1,g2,g3,g4⟩ K
   simp only[List.append_nil] at g1 g2 g3 g4
   subst g1
   simp only[rShiftL,List.append_nil] at g4
   rw[g4]
   simp only[go_sem,g2,List.length_map,lt_false (Int.le_refl _)]
   cases out with
   |nil=>
    simp only[go_sem,acc]
    refine aCall_intro (hIn []) ?_
    simp only[go_sem,encC_mk]
   |cons x r=>
    simp only[go_sem,acc]
    refine aCall_intro (hIn (encC x::r.map encC)) ?_
    simp only[go_sem,encC_mk]
  ·rintro x rest ⟨out,m⟩ ⟨pre,g1,g2,g3,g4⟩ K hK
   simp only at g2 g3 g4
   have hx:(l.map encC)[m]? = some (encC x):=by simp[g1,g2]
   have hlt:(m:Int)<l.length:=by rw[g1,g2];simp;omega
   have hll:l.length=m+(rest.length+1):=by rw[g1,g2];simp
   have hmm:x∈l:=by simp[g1]
   have hw:=wtF_mem hmm
   have hI:=ih x hmm by' dd h1 h2 hdd (List.all_eq_true.1 hfm x hmm) (by omega)
   have w4:IntKind.i64.wrap ((m:Int)+1)=((m+1:Nat):Int):=by rw[wrap_id (by omega) (by omega)];simp
   have hK':=fun s' hs=>hK (out++[rShiftF x by' dd],m+1) s' hs ⟨pre++[x],by simp[g1],by simp[g2],by simp[g3],by rw[g4,rShiftL];simp⟩
   clear hK
   cases out with
   |nil=>
    simp only[go_sem,acc,List.length_map,decide_eq_true hlt,Int.toNat_natCast,Int.natCast_nonneg,hx,encC_sz]
    refine aCall_intro hD ?_
    simp only[go_sem,encC_sz]
    refine aCall_intro hI ?_
    simp only[go_sem,encC_sz,one_le_maxLen,w4]
    first
     |refine ⟨by kernel_rfl,hK' _ ?_⟩
     |refine hK' _ ?_
    simp only[go_sem,acc]
   |cons z zs=>
    have hb1:(zs.length+1+1)*104≤140737488355328:=by simp at g3;omega
    have hb2:zs.length+1+1≤maxLen:=by rw[maxLen_eq];simp at g3;omega
    simp only[go_sem,acc,List.length_map,decide_eq_true hlt,Int.toNat_natCast,Int.natCast_nonneg,hx,encC_sz]
    refine aCall_intro hD ?_
    simp only[go_sem,encC_sz]
    refine aCall_intro hI ?_
    simp only[go_sem,encC_sz,List.length_map,hb1,hb2,w4]
    first
     |refine ⟨by kernel_rfl,hK' _ ?_⟩
     |refine hK' _ ?_
    simp only[go_sem,acc,List.map_append]
  ·simp only[go_sem,acc,Int.natCast_zero]
mutual
def rSubstF (us:List ConT):ConT→Int→ConT
 | .mk op n s k names l,depth=>
  if op=1 then (if n<depth then .mk op n s k names l else if n - depth<us.length then rShiftF (us.getD (n - depth).toNat zeroC) depth 0 else varC (n - us.length)) else .mk op n s k names (rSubstL us l (deepF op depth))
def rSubstL (us:List ConT):List ConT→Int→List ConT
 | [],_=>[]
 |x::r,depth=>rSubstF us x depth::rSubstL us r depth
end
theorem rSubst_spec (us:List ConT) (hus:∀x∈us,wtF x≤900000000∧formedF x=true) (hul:us.length≤100000000) (c:ConT):∀depth:Int,0≤depth→depth+depthF c≤2000000000→formedF c=true→wtF c≤1000000000 →
  Spec Tryz.prog 248 [pp (encC c),pp (.slice (us.map encC)),ii depth] [] (encC (rSubstF us c depth)) []:=by
 revert c
 refine ConT.ind1 fun op n s k names l ih=>?_
 intro depth h1 h2 h4 h5
 have hn:=formed_n h4
 replace hn:0≤n∧n≤20000:=hn
 have w1:IntKind.i64.wrap (n - depth)=n - depth:=wrap_id (by omega) (by omega)
 have w2:IntKind.i64.wrap (n - us.length)=n - us.length:=wrap_id (by omega) (by omega)
 rw[wtF] at h5
 rw[depthF] at h2
 have hwl:=wtL_len l
 refine wk (rv:=[.cell 6 28]) ann248 62 Tryz.func248 ?_
 simp only[go_sem,encC_mk]
 refine condK_intro (fun hb=>?_) (fun hb=>?_)
 ·have hb':op=1:=eq_of_beq hb
  simp only[go_sem]
  refine condK_intro (fun hd=>?_) (fun hd=>?_)
  ·have:rSubstF us (.mk op n s k names l) depth=.mk op n s k names l:=by rw[rSubstF,if_pos hb',if_pos (of_decide_eq_true hd)]
   rw[this]
   simp only[go_sem,encC_mk]
  ·have hd':=of_decide_eq_false hd
   simp only[go_sem,w1,List.length_map]
   refine condK_intro (fun he=>?_) (fun he=>?_)
   ·have he':=of_decide_eq_true he
    have:rSubstF us (.mk op n s k names l) depth=rShiftF (us.getD (n - depth).toNat zeroC) depth 0:=by rw[rSubstF,if_pos hb',if_neg hd',if_pos he']
    rw[this]
    obtain ⟨i,hi⟩:=Int.eq_ofNat_of_zero_le (show 0≤n - depth by omega)
    have hlt:i<us.length:=by omega
    have hx:(us.map encC)[i]? = some (encC us[i]):=by simp[hlt]
    rw[hi,Int.toNat_natCast,List.getD_eq_getElem?_getD,List.getElem?_eq_getElem hlt,Option.getD_some]
    obtain ⟨e1,e2⟩:=hus us[i] (List.getElem_mem _)
    have hS:=rShift_spec us[i] depth 0 (by omega) (by omega) (by decide) e2 e1
    have w1':IntKind.i64.wrap (i:Int)=i:=wrap_id (by omega) (by omega)
    simp only[go_sem,hi,w1',Int.toNat_natCast,Int.natCast_nonneg,hx,encC_sz]
    refine aCall_intro hS ?_
    simp only[go_sem,encC_sz]
   ·have he':=of_decide_eq_false he
    have:rSubstF us (.mk op n s k names l) depth=varC (n - us.length):=by rw[rSubstF,if_pos hb',if_neg hd',if_neg he']
    rw[this]
    simp only[go_sem,w2,List.length_map,varC,encC_mk]
 ·have hb':¬op=1:=by simpa using hb
  have hr:rSubstF us (.mk op n s k names l) depth=.mk op n s k names (rSubstL us l (deepF op depth)):=by rw[rSubstF,if_neg hb']
  rw[hr]
  have hD:=deep_spec op n s k names l depth h1 (by omega)
  have hIn:=fun es=>inside_spec op n s k names l es
  have hfm:formedL l=true:=by rw[formedF,Bool.and_eq_true] at h4;exact h4.2
  rw[formedL_all] at hfm
  have hdd:0≤deepF op depth:=by rw[deepF];split<;>omega
  have hdd2:deepF op depth+depthL l≤2000000000:=by rw[deepF];split<;>omega
  simp only[rawC] at hD hIn
  generalize deepF op depth=dd at hD hdd hdd2 ⊢
  simp only[go_sem]
  refine aLoop_list (α:=ConT) (β:=List ConT×Nat) (fun rest b=>⟨[(8,ii b.2),(2,ii depth),(3,pp (.ep (rawC op n s k names l) 0)),(1,pp (.slice (us.map encC))),(7,.one (acc 116 (.agg 6) (b.1.map encC))),(6,.one (.ptr (.loc 6) 0))],
    [(.loc 6,⟨.agg 6,.agg [.pv (.int .i64 0),.pv (.int .i64 0),.pv (.str ByteArray.empty),.nilS,.nilS,.nilS]⟩)],[]⟩)
   (fun rest b=>∃pre,l=pre++rest∧b.2=pre.length∧b.1.length=pre.length∧rSubstL us l dd=b.1++rSubstL us rest dd) ?_ ?_ l ([],0) _ ?_ ⟨[],rfl,rfl,rfl,rfl⟩
  ·rintro ⟨out,m⟩ ⟨pre,g1,g2,g3,g4⟩ K
   simp only[List.append_nil] at g1 g2 g3 g4
   subst g1
   simp only[rSubstL,List.append_nil] at g4
   rw[g4]
   simp only[go_sem,g2,List.length_map,lt_false (Int.le_refl _)]
   cases out with
   |nil=>
    simp only[go_sem,acc]
    refine aCall_intro (hIn []) ?_
    simp only[go_sem,encC_mk]
   |cons x r=>
    simp only[go_sem,acc]
    refine aCall_intro (hIn (encC x::r.map encC)) ?_
    simp only[go_sem,encC_mk]
  ·rintro x rest ⟨out,m⟩ ⟨pre,g1,g2,g3,g4⟩ K hK
   simp only at g2 g3 g4
   have hx:(l.map encC)[m]? = some (encC x):=by simp[g1,g2]
   have hlt:(m:Int)<l.length:=by rw[g1,g2];simp;omega
   have hll:l.length=m+(rest.length+1):=by rw[g1,g2];simp
   have hmm:x∈l:=by simp[g1]
   have hw:=wtF_mem hmm
   have hdm:=depthF_mem hmm
   have hI:=ih x hmm dd hdd (by omega) (List.all_eq_true.1 hfm x hmm) (by omega)
   have w4:IntKind.i64.wrap ((m:Int)+1)=((m+1:Nat):Int):=by rw[wrap_id (by omega) (by omega)];simp
   have hK':=fun s' hs=>hK (out++[rSubstF us x dd],m+1) s' hs ⟨pre++[x],by simp[g1],by simp[g2],by simp[g3],by rw[g4,rSubstL];simp⟩
   clear hK
   cases out with
   |nil=>
    simp only[go_sem,acc,List.length_map,decide_eq_true hlt,Int.toNat_natCast,Int.natCast_nonneg,hx,encC_sz]
    refine aCall_intro hD ?_
    simp only[go_sem,encC_sz]
    refine aCall_intro hI ?_
    simp only[go_sem,encC_sz,one_le_maxLen,w4]
    first
     |refine ⟨by kernel_rfl,hK' _ ?_⟩
     |refine hK' _ ?_
    simp only[go_sem,acc]
   |cons z zs=>
    have hb1:(zs.length+1+1)*104≤140737488355328:=by simp at g3;omega
    have hb2:zs.length+1+1≤maxLen:=by rw[maxLen_eq];simp at g3;omega
    simp only[go_sem,acc,List.length_map,decide_eq_true hlt,Int.toNat_natCast,Int.natCast_nonneg,hx,encC_sz]
    refine aCall_intro hD ?_
    simp only[go_sem,encC_sz]
    refine aCall_intro hI ?_
    simp only[go_sem,encC_sz,List.length_map,hb1,hb2,w4]
    first
     |refine ⟨by kernel_rfl,hK' _ ?_⟩
     |refine hK' _ ?_
    simp only[go_sem,acc,List.map_append]
  ·simp only[go_sem,acc,Int.natCast_zero]
theorem rSubstTop_spec (us:List ConT) (hus:∀x∈us,wtF x≤900000000∧formedF x=true) (hul:us.length≤100000000) (c:ConT) (h1:formedF c=true) (h2:wtF c≤1000000000) :
  Spec Tryz.prog 228 [pp (encC c),pp (.slice (us.map encC))] [] (encC (rSubstF us c 0)) []:=by
 have hS:=rSubst_spec us hus hul c 0 (by decide) (by have:=depthF_le c;have:=sizeF_wt c;omega) h1 h2
 refine wk (rv:=[.cell 4 28]) ann228 8 Tryz.func228 ?_
 simp only[go_sem,encC_sz]
 refine aCall_intro hS ?_
 simp only[go_sem,encC_sz]
/-! Parts of the laws -/
mutual
def mapF (leaf:ConT→Int→ConT):ConT→Int→ConT
 | .mk op n s k names l,b=>if op=1∨op=2 then leaf (.mk op n s k names l) b else .mk op n s k names (mapL leaf l (if isBinder op then b+1 else b))
def mapL (leaf:ConT→Int→ConT):List ConT→Int→List ConT
 | [],_=>[]
 |x::r,b=>mapF leaf x b::mapL leaf r b
end
theorem rebF_neg (leaf:ConT→Int→ConT) (c:ConT) (b left:Int) (h:left≤0):(rebF leaf c b left).2=-1:=by
 cases c;rw[rebF,if_pos h]
theorem rebL_neg (leaf:ConT→Int→ConT):∀(l:List ConT) (b left:Int),left<0→(rebL leaf l b left).2<0
 | [],b,left,h=>by rw[rebL];exact h
 |x::r,b,left,h=>by
  rw[rebL]
  exact rebL_neg leaf r b _ (by rw[rebF_neg leaf x b left (by omega)];decide)
mutual
theorem rebF_map (leaf:ConT→Int→ConT):∀(c:ConT) (b left:Int),0≤left →
  ((sizeF (mapF leaf c b):Int)≤left→rebF leaf c b left=(mapF leaf c b,left - sizeF (mapF leaf c b)))∧(¬(sizeF (mapF leaf c b):Int)≤left→(rebF leaf c b left).2<0)
 | .mk op n s k names l,b,left,h=>by
  have hp:=sizeF_pos (mapF leaf (.mk op n s k names l) b)
  by_cases h0:left≤0
  ·exact ⟨fun h1=>by omega,fun _=>by rw[rebF_neg _ _ _ _ h0];decide⟩
  ·rw[rebF,if_neg h0,mapF]
   by_cases ho:op=1∨op=2
   ·rw[if_pos ho,if_pos ho]
    exact ⟨fun _=>rfl,fun h1=>by simp only;omega⟩
   ·rw[if_neg ho,if_neg ho]
    obtain ⟨h1,h2⟩:=rebL_map leaf l (if isBinder op then b+1 else b) (left - 1) (by omega)
    rw[sizeF]
    refine ⟨fun h3=>?_,fun h3=>?_⟩
    ·have:=h1 (by omega)
     rw[this]
     simp only[Prod.mk.injEq,true_and]
     omega
    ·exact h2 (by omega)
theorem rebL_map (leaf:ConT→Int→ConT):∀(l:List ConT) (b left:Int),0≤left →
  ((sizeL (mapL leaf l b):Int)≤left→rebL leaf l b left=(mapL leaf l b,left - sizeL (mapL leaf l b)))∧(¬(sizeL (mapL leaf l b):Int)≤left→(rebL leaf l b left).2<0)
 | [],b,left,h=>by
  rw[mapL,rebL,sizeL]
  exact ⟨fun _=>by simp,fun h1=>by omega⟩
 |x::r,b,left,h=>by
  obtain ⟨h1,h2⟩:=rebF_map leaf x b left h
  rw[mapL,rebL,sizeL]
  by_cases hx:(sizeF (mapF leaf x b):Int)≤left
  ·rw[h1 hx]
   obtain ⟨h3,h4⟩:=rebL_map leaf r b (left - sizeF (mapF leaf x b)) (by omega)
   refine ⟨fun h5=>?_,fun h5=>?_⟩
   ·rw[h3 (by omega)]
    simp only[Prod.mk.injEq,true_and]
    omega
   ·exact h4 (by omega)
  ·exact ⟨fun h5=>by omega,fun _=>rebL_neg leaf r b _ (h2 hx)⟩
end
theorem replF_eq (leaf:ConT→Int→ConT) (c:ConT):replF leaf c=if validF (mapF leaf c 0)=true then (mapF leaf c 0,0) else (zeroC,6):=by
 obtain ⟨h1,h2⟩:=rebF_map leaf c 0 20000 (by decide)
 rw[replF]
 by_cases hs:(sizeF (mapF leaf c 0):Int)≤20000
 ·rw[h1 hs]
  simp only
  by_cases hv:validF (mapF leaf c 0)=true
  ·rw[if_pos hv,if_neg]
   rintro (h|h)
   ·omega
   ·rw[hv] at h;cases h
  ·rw[if_neg hv,if_pos (.inr (by simpa using hv))]
 ·rw[if_pos (.inl (h2 hs)),if_neg]
  rw[validF]
  simp only[Bool.and_eq_true,decide_eq_true_iff]
  omega
theorem leaf_names {op n:Int}{s:ByteArray}{k:List KindT}{names:List ByteArray}{l:List ConT}(h:formedF (.mk op n s k names l)=true) (ho:op=1∨op=2):names=[]:=by
 rw[formedF,nodeF] at h
 simp only[Bool.and_eq_true] at h
 have h1:=h.1.2.2.2.2.1.1
 have e1:isLabelled op=false:=by simp[isLabelled];omega
 rw[e1] at h1
 simp at h1
 exact h1
theorem leafC_self {op n:Int}{s:ByteArray}{k:List KindT}{names:List ByteArray}{l:List ConT}(h:formedF (.mk op n s k names l)=true) (ho:op=1∨op=2):leafC (.mk op n s k names l)=.mk op n s k names l:=by
 have h1:=leaf_names h ho
 have h2:=leaf_nil h ho
 subst h1 h2
 rfl
theorem capF_cap (f:Int):capF (capF f)=capF f:=by
 simp only[capF];(repeat' split)<;>omega
theorem capF_succ {f g:Int}(h:capF f=capF g):capF (capF f+1)=capF (g+1):=by
 simp only[capF] at h ⊢
 (repeat' split at h)<;>(repeat' split)<;>omega
mutual
theorem shift_eq (by' from':Int):∀(c:ConT) (b f:Int),formedF c=true→capF f=capF (from'+b)→mapF (shiftLeaf by' from') c b=rShiftF c by' f
 | .mk op n s k names l,b,f,h,hf=>by
  have hn:=formed_n h
  replace hn:0≤n∧n≤20000:=hn
  rw[mapF,rShiftF]
  by_cases ho:op=1∨op=2
  ·rw[if_pos ho]
   have hl:=leafC_self h ho
   by_cases h1:op=1
   ·rw[if_pos h1,hf]
    have hi:(n≥capF (from'+b))↔n - b≥from':=by rw[capF];split<;>omega
    have hs:shiftLeaf by' from' (.mk op n s k names l) b=if op=1∧n - b≥from' then varC (n+by') else leafC (.mk op n s k names l):=rfl
    rw[hs,hl]
    by_cases h2:n - b≥from'
    ·rw[if_pos ⟨h1,h2⟩,if_pos (hi.2 h2)]
    ·rw[if_neg (fun e=>h2 e.2),if_neg (fun e=>h2 (hi.1 e))]
   ·rw[if_neg h1]
    have hs:shiftLeaf by' from' (.mk op n s k names l) b=if op=1∧n - b≥from' then varC (n+by') else leafC (.mk op n s k names l):=rfl
    rw[hs,if_neg (fun e=>h1 e.1),hl]
    have:=leaf_nil h ho
    subst this
    rw[rShiftL]
  ·rw[if_neg ho,if_neg (fun e=>ho (.inl e))]
   have hfm:formedL l=true:=by rw[formedF,Bool.and_eq_true] at h;exact h.2
   congr 1
   apply shiftL_eq by' from' l _ _ hfm
   rw[deepF]
   split
   ·rw[capF_succ hf];congr 1;omega
   ·rw[capF_cap,hf]
theorem shiftL_eq (by' from':Int):∀(l:List ConT) (b f:Int),formedL l=true→capF f=capF (from'+b)→mapL (shiftLeaf by' from') l b=rShiftL l by' f
 | [],b,f,h,hf=>by rw[mapL,rShiftL]
 |x::r,b,f,h,hf=>by
  rw[formedL,Bool.and_eq_true] at h
  rw[mapL,rShiftL,shift_eq by' from' x b f h.1 hf,shiftL_eq by' from' r b f h.2 hf]
end
mutual
theorem shift_size (by' from':Int):∀(c:ConT) (b:Int),formedF c=true→sizeF (mapF (shiftLeaf by' from') c b)=sizeF c
 | .mk op n s k names l,b,h=>by
  rw[mapF]
  by_cases ho:op=1∨op=2
  ·rw[if_pos ho,size_shiftLeaf,leaf_nil h ho,sizeF,sizeL]
  ·rw[if_neg ho,sizeF,sizeF,shiftL_size by' from' l _ (by rw[formedF,Bool.and_eq_true] at h;exact h.2)]
theorem shiftL_size (by' from':Int):∀(l:List ConT) (b:Int),formedL l=true→sizeL (mapL (shiftLeaf by' from') l b)=sizeL l
 | [],b,h=>by rw[mapL]
 |x::r,b,h=>by
  rw[formedL,Bool.and_eq_true] at h
  rw[mapL,sizeL,sizeL,shift_size by' from' x b h.1,shiftL_size by' from' r b h.2]
end
theorem put_eq {x:ConT}(h:validF x=true) (b:Int):(rebF (shiftLeaf b 0) x 0 20000).1=rShiftF x b 0:=by
 have hf:=validF_formed h
 have hs:=shift_size b 0 x 0 hf
 rw[validF,Bool.and_eq_true] at h
 have h20:=of_decide_eq_true h.1
 rw[((rebF_map (shiftLeaf b 0) x 0 20000 (by decide)).1 (by rw[hs];omega))]
 exact shift_eq b 0 x 0 0 hf rfl
mutual
theorem subst_eq (us:List ConT) (hus:us.all validF=true):∀(c:ConT) (b:Int),formedF c=true→mapF (substLeaf us) c b=rSubstF us c b
 | .mk op n s k names l,b,h=>by
  rw[mapF,rSubstF]
  have hs:substLeaf us (.mk op n s k names l) b=if op≠1∨n - b<0 then leafC (.mk op n s k names l) else if n - b≥us.length then varC (n - us.length) else (rebF (shiftLeaf b 0) (us.getD (n - b).toNat zeroC) 0 20000).1:=rfl
  by_cases ho:op=1∨op=2
  ·rw[if_pos ho,hs,leafC_self h ho]
   by_cases h1:op=1
   ·rw[if_pos h1]
    by_cases h2:n<b
    ·rw[if_pos h2,if_pos (.inr (by omega))]
    ·rw[if_neg h2,if_neg (by rintro (e|e);exact e h1;omega)]
     by_cases h3:n - b<us.length
     ·rw[if_pos h3,if_neg (by omega)]
      have hlt:(n - b).toNat<us.length:=by omega
      rw[List.getD_eq_getElem?_getD,List.getElem?_eq_getElem hlt,Option.getD_some]
      exact put_eq (List.all_eq_true.1 hus _ (List.getElem_mem _)) b
     ·rw[if_neg h3,if_pos (by omega)]
   ·rw[if_neg h1,if_pos (.inl h1)]
    have:=leaf_nil h ho
    subst this
    rw[rSubstL]
  ·rw[if_neg ho,if_neg (fun e=>ho (.inl e))]
   congr 1
   exact substL_eq us hus l _ (by rw[formedF,Bool.and_eq_true] at h;exact h.2)
theorem substL_eq (us:List ConT) (hus:us.all validF=true):∀(l:List ConT) (b:Int),formedL l=true→mapL (substLeaf us) l b=rSubstL us l b
 | [],b,h=>by rw[mapL,rSubstL]
 |x::r,b,h=>by
  rw[formedL,Bool.and_eq_true] at h
  rw[mapL,rSubstL,subst_eq us hus x b h.1,substL_eq us hus r b h.2]
end
mutual
theorem mapF_okS (leaf:ConT→Int→ConT):∀(c:ConT) (b:Int),okS c→(∀x b',(x,b')∈leaves c b→okS (leaf x b'))→okS (mapF leaf c b)
 | .mk op n s k names l,b,h0,h=>by
  rw[mapF]
  split
  ·rename_i ho
   exact h (.mk op n s k names l) b (by rw[leaves,if_pos ho];simp)
  ·rename_i ho
   simp only[okS] at h0 ⊢
   exact ⟨h0.1,h0.2.1,mapL_okS leaf l _ h0.2.2 fun x b' hx=>h x b' (by rw[leaves,if_neg ho];exact hx)⟩
theorem mapL_okS (leaf:ConT→Int→ConT):∀(l:List ConT) (b:Int),okSs l→(∀x b',(x,b')∈leavesL l b→okS (leaf x b'))→okSs (mapL leaf l b)
 | [],b,h0,h=>by rw[mapL];exact h0
 |x::r,b,h0,h=>by
  simp only[okSs] at h0
  rw[mapL]
  simp only[okSs]
  exact ⟨mapF_okS leaf x b h0.1 fun y b' hy=>h y b' (by rw[leavesL];exact List.mem_append_left _ hy),mapL_okS leaf r b h0.2 fun y b' hy=>h y b' (by rw[leavesL];exact List.mem_append_right _ hy)⟩
end
def isLeaf (x:ConT):Prop:=x.op=1∨x.op=2
mutual
theorem fuse {l1 l2 l3 l4:ConT→Int→ConT}{b1 b2 b3 b4:Int}(h:∀x t,0≤t→isLeaf x→mapF l2 (l1 x (b1+t)) (b2+t)=mapF l4 (l3 x (b3+t)) (b4+t)) :
  ∀(c:ConT) (t:Int),0≤t→mapF l2 (mapF l1 c (b1+t)) (b2+t)=mapF l4 (mapF l3 c (b3+t)) (b4+t)
 | .mk op n s k names l,t,ht=>by
  rw[mapF,mapF.eq_def l3]
  simp only
  by_cases ho:op=1∨op=2
  ·rw[if_pos ho,if_pos ho]
   exact h _ t ht ho
  ·rw[if_neg ho,if_neg ho,mapF,mapF,if_neg ho,if_neg ho]
   congr 1
   by_cases hb:isBinder op=true
   ·simp only[hb,if_true]
    have:=fuseL h l (t+1) (by omega)
    have e1:b1+t+1=b1+(t+1):=by omega
    have e2:b2+t+1=b2+(t+1):=by omega
    have e3:b3+t+1=b3+(t+1):=by omega
    have e4:b4+t+1=b4+(t+1):=by omega
    rw[e1,e2,e3,e4];exact this
   ·simp only[hb,if_false]
    exact fuseL h l t ht
theorem fuseL {l1 l2 l3 l4:ConT→Int→ConT}{b1 b2 b3 b4:Int}(h:∀x t,0≤t→isLeaf x→mapF l2 (l1 x (b1+t)) (b2+t)=mapF l4 (l3 x (b3+t)) (b4+t)) :
  ∀(l:List ConT) (t:Int),0≤t→mapL l2 (mapL l1 l (b1+t)) (b2+t)=mapL l4 (mapL l3 l (b3+t)) (b4+t)
 | [],t,ht=>by simp only[mapL]
 |x::r,t,ht=>by
  simp only[mapL]
  rw[fuse h x t ht,fuseL h r t ht]
end
mutual
theorem map_congr {l1 l2:ConT→Int→ConT}:∀(c:ConT) (b1 b2:Int),(∀x t,0≤t→isLeaf x→l1 x (b1+t)=l2 x (b2+t))→mapF l1 c b1=mapF l2 c b2
 | .mk op n s k names l,b1,b2,h=>by
  rw[mapF,mapF]
  by_cases ho:op=1∨op=2
  ·rw[if_pos ho,if_pos ho]
   have:=h (.mk op n s k names l) 0 (by decide) ho
   rw[Int.add_zero,Int.add_zero] at this
   exact this
  ·rw[if_neg ho,if_neg ho]
   congr 1
   split
   ·exact map_congrL l _ _ fun x t ht hx=>by
     have:=h x (t+1) (by omega) hx
     have e1:b1+(t+1)=b1+1+t:=by omega
     have e2:b2+(t+1)=b2+1+t:=by omega
     rw[e1,e2] at this;exact this
   ·exact map_congrL l _ _ h
theorem map_congrL {l1 l2:ConT→Int→ConT}:∀(l:List ConT) (b1 b2:Int),(∀x t,0≤t→isLeaf x→l1 x (b1+t)=l2 x (b2+t))→mapL l1 l b1=mapL l2 l b2
 | [],b1,b2,h=>by rw[mapL,mapL]
 |x::r,b1,b2,h=>by rw[mapL,mapL,map_congr x b1 b2 h,map_congrL r b1 b2 h]
end
mutual
theorem map_id {l1:ConT→Int→ConT}(h:∀x b,isLeaf x→formedF x=true→l1 x b=x):∀(c:ConT) (b:Int),formedF c=true→mapF l1 c b=c
 | .mk op n s k names l,b,hf=>by
  rw[mapF]
  by_cases ho:op=1∨op=2
  ·rw[if_pos ho]
   exact h (.mk op n s k names l) _ ho hf
  ·rw[if_neg ho,map_idL h l _ (by rw[formedF,Bool.and_eq_true] at hf;exact hf.2)]
theorem map_idL {l1:ConT→Int→ConT}(h:∀x b,isLeaf x→formedF x=true→l1 x b=x):∀(l:List ConT) (b:Int),formedL l=true→mapL l1 l b=l
 | [],b,hf=>by rw[mapL]
 |x::r,b,hf=>by
  rw[formedL,Bool.and_eq_true] at hf
  rw[mapL,map_id h x b hf.1,map_idL h r b hf.2]
end
theorem leafC_formed {x:ConT}(hx:isLeaf x) (hf:formedF x=true):leafC x=x:=by
 obtain ⟨op,n,s,k,names,l⟩:=x
 exact leafC_self hf hx
theorem bytes_empty {s:ByteArray}(h:(bytesOf s).isEmpty=true):s=ByteArray.empty:=by
 rw[bytesOf,List.isEmpty_iff] at h
 cases s with
 |mk d=>
  cases d with
  |mk l=>simp at h;subst h;rfl
theorem var_formed {x:ConT}(hx:x.op=1) (hf:formedF x=true):varC x.n=x:=by
 obtain ⟨op,n,s,k,names,l⟩:=x
 have ho:op=1:=hx
 have h1:=leaf_names hf (.inl ho)
 have h2:=leaf_nil hf (.inl ho)
 subst h1 h2 ho
 rw[formedF,nodeF] at hf
 simp only[Bool.and_eq_true] at hf
 obtain ⟨⟨_,_,hs,hk,_⟩,_⟩:=hf
 have e1:isBinder 1=false:=rfl
 rw[e1] at hk
 simp at hs hk
 have:s=ByteArray.empty:=bytes_empty (by rw[List.isEmpty_iff];exact hs)
 subst this hk
 rfl
/-! Leaves that are mapped again -/
theorem shift_lo {n f b:Int}{x:ConT}(h:¬(x.op=1∧x.n - b≥f)):shiftLeaf n f x b=leafC x:=by rw[shiftLeaf,if_neg h]
def substM (us:List ConT) (c:ConT) (b:Int):ConT:=
 if c.op≠1∨c.n - b<0 then leafC c else
 if c.n - b≥us.length then varC (c.n - us.length) else
 mapF (shiftLeaf b 0) (us.getD (c.n - b).toNat zeroC) 0
theorem substM_eq (us:List ConT) (h:us.all validF=true) (c:ConT) (b:Int):mapF (substLeaf us) c b=mapF (substM us) c b:=by
 refine map_congr c b b fun x t _ _=>?_
 rw[substLeaf,substM]
 split
 ·rfl
 ·split
  ·rfl
  ·rename_i h1 h2
   have hlt:(x.n - (b+t)).toNat<us.length:=by omega
   rw[List.getD_eq_getElem?_getD,List.getElem?_eq_getElem hlt,Option.getD_some]
   have hv:=List.all_eq_true.1 h _ (List.getElem_mem hlt)
   rw[put_eq hv]
   exact (shift_eq _ 0 _ 0 0 (validF_formed hv) rfl).symm
theorem sub_lo {us:List ConT}{x:ConT}{b:Int}(h:x.op≠1∨x.n - b<0):substM us x b=leafC x:=by rw[substM,if_pos h]
theorem sub_hi {us:List ConT}{x:ConT}{b m:Int}(ho:x.op=1) (h0:0≤x.n - b) (h:x.n - b≥us.length) (hm:x.n - us.length=m):substM us x b=varC m:=by
 rw[substM,if_neg (by omega),if_pos h,hm]
theorem sub_in {us:List ConT}{x:ConT}{b m:Int}(ho:x.op=1) (hm:x.n - b=m) (h0:0≤m) (h:m<us.length):substM us x b=mapF (shiftLeaf b 0) (us.getD m.toNat zeroC) 0:=by
 rw[substM,if_neg (by omega),if_neg (by omega),hm]
theorem one_len (y:ConT):(([y]:List ConT).length:Int)=1:=rfl
/-! Substitutions commute -/
mutual
theorem wt_le (leaf:ConT→Int→ConT):∀(c:ConT) (b:Int),(∀x b',(x,b')∈leaves c b→wtF (leaf x b')≤wtF x)→wtF (mapF leaf c b)≤wtF c
 | .mk op n s k names l,b,h=>by
  rw[mapF]
  split
  ·rename_i ho
   exact h _ _ (by rw[leaves,if_pos ho];simp)
  ·rename_i ho
   have:=wt_leL leaf l (if isBinder op then b+1 else b) fun x b' hx=>h x b' (by rw[leaves,if_neg ho];exact hx)
   rw[wtF,wtF];omega
theorem wt_leL (leaf:ConT→Int→ConT):∀(l:List ConT) (b:Int),(∀x b',(x,b')∈leavesL l b→wtF (leaf x b')≤wtF x)→wtL (mapL leaf l b)≤wtL l
 | [],b,h=>by rw[mapL];exact Nat.le_refl _
 |x::r,b,h=>by
  have h1:=wt_le leaf x b fun y b' hy=>h y b' (by rw[leavesL];exact List.mem_append_left _ hy)
  have h2:=wt_leL leaf r b fun y b' hy=>h y b' (by rw[leavesL];exact List.mem_append_right _ hy)
  rw[mapL,wtL,wtL];omega
end
theorem wt_leafC (x:ConT):wtF (leafC x)≤wtF x:=by
 obtain ⟨op,n,s,k,names,l⟩:=x
 rw[leafC,wtF,wtF]
 simp only[ConT.k,List.length_nil,wtL];omega
theorem wt_varC (n:Int):wtF (varC n)=1:=rfl
theorem wt_pos (c:ConT):1≤wtF c:=by cases c;rw[wtF];omega
theorem wt_shiftLeaf (n f:Int) (x:ConT) (b:Int):wtF (shiftLeaf n f x b)≤wtF x:=by
 rw[shiftLeaf]
 split
 ·rw[wt_varC];exact wt_pos x
 ·exact wt_leafC x
theorem wt_shift (n f:Int) (c:ConT) (b:Int):wtF (mapF (shiftLeaf n f) c b)≤wtF c:=wt_le _ c b fun x b' _=>wt_shiftLeaf n f x b'
theorem lost_false (c:ConT) (by' from':Int) (h:∀x b,(x,b)∈leaves c 0→¬(x.op=1∧x.n - b≥from'∧x.n - b+by'<from')):lostF c by' from'=false:=by
 rw[lostF]
 generalize hl:leaves c 0=l at h
 clear hl
 have:∀l:List (ConT×Int),(∀x b,(x,b)∈l→¬(x.op=1∧x.n - b≥from'∧x.n - b+by'<from'))→l.foldl (lostStep by' from') false=false:=by
  intro l
  induction l with
  |nil=>intro _;rfl
  |cons p r ih=>
   intro h
   obtain ⟨x,b⟩:=p
   rw[List.foldl_cons]
   have h1:=h x b (by simp)
   have:lostStep by' from' false (x,b)=false:=by
    rw[lostStep]
    by_cases e1:x.op=1
    ·by_cases e2:x.n - b≥from'
     ·have e3:¬x.n - b+by'<from':=fun e3=>h1 ⟨e1,e2,e3⟩
      simp only[decide_eq_false e3];simp
     ·simp only[decide_eq_false e2];simp
    ·have:(x.op==1)=false:=by simpa using e1
     simp only[this];simp
   rw[this]
   exact ih fun y b' hy=>h y b' (by simp[hy])
 exact this l h
theorem shiftF_up (c:ConT) (n f:Int) (h1:validF c=true) (h2:0≤n) (h3:n≤20000) (h4:0≤f):shiftF c n f=replF (shiftLeaf n f) c:=by
 rw[shiftF,if_neg (by rw[h1];simp),if_neg]
 rintro (h|h|h|h)
 ·omega
 ·omega
 ·omega
 ·rw[lost_false c n f fun x b _=>by omega] at h;cases h
/-! Small constructors -/
theorem okS_shift (n f:Int) {c:ConT}(h:okS c):okS (mapF (shiftLeaf n f) c 0):=mapF_okS _ c 0 h fun x b hx=>okS_shiftLeaf n f x b ((leaves_mem c 0 x b hx).2.1 h)
def unitC:ConT:=.mk 7 0 ByteArray.empty [] [] []
def strF:ByteArray:=⟨#[70,97,108,115,101]⟩
def strT:ByteArray:=⟨#[84,114,117,101]⟩
def boolC:ConT:=.mk 13 0 ByteArray.empty [] [] [.mk 8 0 ByteArray.empty [] [strF,strT] [unitC,unitC]]
theorem Unit_spec:Spec Tryz.prog 262 [] [] (encC unitC) []:=by
 refine wk (rv:=[.cell 0 28]) ann262 2 Tryz.func262 ?_
 simp only[go_sem,unitC,encC_mk]
theorem rUnit_spec:Spec Tryz.prog 225 [] [] (encC unitC) []:=by
 refine wk (rv:=[.cell 0 28]) ann225 2 Tryz.func225 ?_
 simp only[go_sem,unitC,encC_mk]
theorem Bool_spec:Spec Tryz.prog 245 [] [] (encC boolC) []:=by
 have hU:=Unit_spec
 refine wk (rv:=[.cell 0 28]) ann245 10 Tryz.func245 ?_
 simp only[go_sem,encC_sz]
 refine aCall_intro hU ?_
 simp only[go_sem,encC_sz]
 refine aCall_intro hU ?_
 simp only[go_sem,encC_sz,boolC,encC_mk,strF,strT]
theorem rBool_spec:Spec Tryz.prog 195 [] [] (encC boolC) []:=by
 have hU:=rUnit_spec
 refine wk (rv:=[.cell 0 28]) ann195 8 Tryz.func195 ?_
 simp only[go_sem,encC_sz]
 refine aCall_intro hU ?_
 simp only[go_sem,encC_sz]
 refine aCall_intro hU ?_
 simp only[go_sem,encC_sz,boolC,encC_mk,strF,strT]
def decF (n:Nat):ByteArray:=ByteArray.empty.push (UInt8.ofNat (48+n))
theorem Decimal_spec (n:Nat) (h:n≤9):Spec Tryz.prog 196 [ii n] [] (.str (decF n)) []:=by
 have d1:decide ((n:Int)<0)=false:=decide_eq_false (by omega)
 have d2:decide ((n:Int)<10)=true:=decide_eq_true (by omega)
 have w1:IntKind.i64.wrap (48+(n:Int))=48+n:=wrap_id (by omega) (by omega)
 have w2:IntKind.u8.wrap (48+(n:Int))=48+n:=by
  rcases (show n=0∨n=1∨n=2∨n=3∨n=4∨n=5∨n=6∨n=7∨n=8∨n=9 by omega) with rfl|rfl|rfl|rfl|rfl|rfl|rfl|rfl|rfl|rfl<;>rfl
 have w3:(48+(n:Int)).toNat=48+n:=by omega
 refine wk (rv:=[.tmp 2]) ann196 26 Tryz.func196 ?_
 simp only[go_sem,d1,d2,w1,w2,w3,List.isEmpty_cons,List.foldl_cons,List.foldl_nil,decF]
end Go.Abs.Kon