/- Contracts of functions: sizes, counts, equality of constructors. -/
import Derived.Test.YtafhcphggdipaaaGreatDoorFacts
set_option linter.unusedSimpArgs false
namespace Go.Abs.Kon
open Go Go.Proofs Go.Abs
set_option maxRecDepth 100000
set_option maxHeartbeats 4000000
inductive KindT where
 |mk (l:List KindT)
mutual
def encK:KindT→PV
 | .mk l=>.agg [.slice (encKs l)]
def encKs:List KindT→List PV
 | []=>[]
 |k::l=>encK k::encKs l
end
theorem encKs_map:∀l,encKs l=l.map encK
 | []=>rfl
 |k::l=>by simp[encKs,encKs_map l]
theorem encK_mk (l:List KindT):encK (.mk l)=.agg [.slice (l.map encK)]:=by rw[encK,encKs_map]
@[go_sem] theorem encK_sz (k:KindT):PV.hasSz (.agg 1) (encK k)=true:=by cases k;rfl
mutual
theorem KindT.ind1 {M:KindT→Prop}(h:∀l,(∀x∈l,M x)→M (.mk l)):∀k,M k
 | .mk l=>h l (KindT.ind2 h l)
theorem KindT.ind2 {M:KindT→Prop}(h:∀l,(∀x∈l,M x)→M (.mk l)):∀l:List KindT,∀x∈l,M x
 | [],_,hx=>absurd hx (by simp)
 |k::l,x,hx=>(List.mem_cons.1 hx).elim (fun e=>e ▸ KindT.ind1 h k) (fun hx=>KindT.ind2 h l x hx)
end
inductive ConT where
 |mk (op n:Int) (s:ByteArray) (k:List KindT) (names:List ByteArray) (l:List ConT)
mutual
def encC:ConT→PV
 | .mk op n s k names l=>.agg [.int .i64 op,.int .i64 n,.str s,.slice (k.map encK),.slice (names.map .str),.slice (encCs l)]
def encCs:List ConT→List PV
 | []=>[]
 |c::l=>encC c::encCs l
end
theorem encCs_map:∀l,encCs l=l.map encC
 | []=>rfl
 |c::l=>by simp[encCs,encCs_map l]
theorem encC_mk (op n:Int) (s:ByteArray) (k:List KindT) (names:List ByteArray) (l:List ConT):encC (.mk op n s k names l)=.agg [.int .i64 op,.int .i64 n,.str s,.slice (k.map encK),.slice (names.map .str),.slice (l.map encC)]:=by rw[encC,encCs_map]
@[go_sem] theorem encC_sz (c:ConT):PV.hasSz (.agg 6) (encC c)=true:=by cases c;rfl
mutual
theorem ConT.ind1 {M:ConT→Prop}(h:∀op n s k names l,(∀x∈l,M x)→M (.mk op n s k names l)):∀c,M c
 | .mk op n s k names l=>h op n s k names l (ConT.ind2 h l)
theorem ConT.ind2 {M:ConT→Prop}(h:∀op n s k names l,(∀x∈l,M x)→M (.mk op n s k names l)):∀l:List ConT,∀x∈l,M x
 | [],_,hx=>absurd hx (by simp)
 |c::l,x,hx=>(List.mem_cons.1 hx).elim (fun e=>e ▸ ConT.ind1 h c) (fun hx=>ConT.ind2 h l x hx)
end
/-! Searching -/
def findP {α:Type}(p:α→Bool):List α→Nat→Int
 | [],_=>-1
 |x::r,i=>if p x then (i:Int) else findP p r (i+1)
theorem findP_ge {α:Type}(p:α→Bool):∀(l:List α) (i:Nat),(0≤findP p l i)↔l.any p=true
 | [],i=>by simp[findP]
 |x::r,i=>by
  simp only[findP,List.any_cons,Bool.or_eq_true]
  split
  ·rename_i h;simp[h]
  ·rename_i h;rw[findP_ge p r (i+1)];simp[h]
def PredOn {α:Type}(enc:α→PV) (f:FuncId) (caps:List PV) (p:α→Bool) (es:List α):Prop:=∀e∈es,Spec Tryz.prog f (.one (.pv (enc e))::caps.map fun c=>.one (.pv c)) [] (.bool (p e)) []
theorem IndexFuncC {α:Type}(enc:α→PV) (l:List α) (f:FuncId) (caps:List PV) (p:α→Bool) (hes:∀e∈l,PV.hasSz (.agg 6) (enc e)=true) (hp:PredOn enc f caps p l):Spec Tryz.prog 110 [pp (.slice (l.map enc)),pp (.fn f caps)] [] (.int .i64 (findP p l 0)) []:=by
 refine wf (rv:=[.tmp 4]) ann110 19 Tryz.func110 fun hfit=>?_
 have hlen:l.length≤9223372036854775807:=by
  simp only[argsFit,SV.pv?,SC.pv?,PV.fit,maxLen_eq,List.length_map] at hfit
  exact hfit.1.1
 clear hfit
 generalize h0:findP p l 0=res
 simp only[go_sem,List.length_map]
 refine aLoop_list (α:=α) (β:=List α) (fun rest pre=>⟨[(8,ii pre.length),(0,pp (.slice (l.map enc))),(1,pp (.fn f caps)),(7,ii l.length)],[],[]⟩) (fun rest pre=>l=pre++rest∧findP p rest pre.length=res) ?_ ?_ l [] _ ?_ ⟨rfl,h0⟩
 ·rintro pre ⟨h4,h5⟩ K
  rw[List.append_nil] at h4
  simp only[go_sem,h4,lt_false (Int.le_refl _)]
  simp only[findP] at h5
  rw[h5]
 ·rintro x rest pre ⟨h4,h5⟩ K hK
  have hx:(l.map enc)[pre.length]? = some (enc x):=by simp[h4]
  have hlt:(pre.length:Int)<l.length:=by rw[h4];simp;omega
  have hm:x∈l:=by simp[h4]
  simp only[go_sem,decide_eq_true hlt,Int.toNat_natCast,Int.natCast_nonneg,hx,hes x hm]
  refine aCall_intro (hp x hm) ?_
  simp only[go_sem]
  refine condK_intro (fun hb=>?_) (fun hb=>?_)
  ·simp only[findP,hb,if_true] at h5
   simp only[go_sem,h5]
  ·have w4:IntKind.i64.wrap ((pre.length:Int)+1)=((pre++[x]).length:Int):=by rw[wrap_id (by omega) (by omega)];simp
   simp only[findP,hb,Bool.false_eq_true,if_false] at h5
   simp only[go_sem,w4]
   refine hK (pre++[x]) _ ?_ ⟨by simp[h4],by simpa using h5⟩
   simp only[go_sem]
 ·simp only[go_sem,List.length_nil,Int.natCast_zero]
theorem IndexFuncS {α:Type}(enc:α→PV) (l:List α) (f:FuncId) (caps:List PV) (p:α→Bool) (hes:∀e∈l,PV.hasSz (.one) (enc e)=true) (hp:PredOn enc f caps p l):Spec Tryz.prog 91 [pp (.slice (l.map enc)),pp (.fn f caps)] [] (.int .i64 (findP p l 0)) []:=by
 refine wf (rv:=[.tmp 4]) ann91 19 Tryz.func91 fun hfit=>?_
 have hlen:l.length≤9223372036854775807:=by
  simp only[argsFit,SV.pv?,SC.pv?,PV.fit,maxLen_eq,List.length_map] at hfit
  exact hfit.1.1
 clear hfit
 generalize h0:findP p l 0=res
 simp only[go_sem,List.length_map]
 refine aLoop_list (α:=α) (β:=List α) (fun rest pre=>⟨[(8,ii pre.length),(0,pp (.slice (l.map enc))),(1,pp (.fn f caps)),(7,ii l.length)],[],[]⟩) (fun rest pre=>l=pre++rest∧findP p rest pre.length=res) ?_ ?_ l [] _ ?_ ⟨rfl,h0⟩
 ·rintro pre ⟨h4,h5⟩ K
  rw[List.append_nil] at h4
  simp only[go_sem,h4,lt_false (Int.le_refl _)]
  simp only[findP] at h5
  rw[h5]
 ·rintro x rest pre ⟨h4,h5⟩ K hK
  have hx:(l.map enc)[pre.length]? = some (enc x):=by simp[h4]
  have hlt:(pre.length:Int)<l.length:=by rw[h4];simp;omega
  have hm:x∈l:=by simp[h4]
  simp only[go_sem,decide_eq_true hlt,Int.toNat_natCast,Int.natCast_nonneg,hx,hes x hm]
  refine aCall_intro (hp x hm) ?_
  simp only[go_sem]
  refine condK_intro (fun hb=>?_) (fun hb=>?_)
  ·simp only[findP,hb,if_true] at h5
   simp only[go_sem,h5]
  ·have w4:IntKind.i64.wrap ((pre.length:Int)+1)=((pre++[x]).length:Int):=by rw[wrap_id (by omega) (by omega)];simp
   simp only[findP,hb,Bool.false_eq_true,if_false] at h5
   simp only[go_sem,w4]
   refine hK (pre++[x]) _ ?_ ⟨by simp[h4],by simpa using h5⟩
   simp only[go_sem]
 ·simp only[go_sem,List.length_nil,Int.natCast_zero]
theorem ContainsFuncC {α:Type}(enc:α→PV) (es:List α) (f:FuncId) (caps:List PV) (p:α→Bool) (hes:∀e∈es,PV.hasSz (.agg 6) (enc e)=true) (hp:PredOn enc f caps p es):Spec Tryz.prog 59 [pp (.slice (es.map enc)),pp (.fn f caps)] [] (.bool (es.any p)) []:=by
 refine wk (rv:=[.tmp 4]) ann59 9 Tryz.func59 ?_
 simp only[go_sem]
 refine aCall_intro (IndexFuncC enc es f caps p hes hp) ?_
 have:decide (findP p es 0≥0)=es.any p:=by
  rw[Bool.eq_iff_iff,decide_eq_true_iff];exact findP_ge p es 0
 simp only[go_sem,this]
theorem ContainsFuncS {α:Type}(enc:α→PV) (es:List α) (f:FuncId) (caps:List PV) (p:α→Bool) (hes:∀e∈es,PV.hasSz (.one) (enc e)=true) (hp:PredOn enc f caps p es):Spec Tryz.prog 45 [pp (.slice (es.map enc)),pp (.fn f caps)] [] (.bool (es.any p)) []:=by
 refine wk (rv:=[.tmp 4]) ann45 9 Tryz.func45 ?_
 simp only[go_sem]
 refine aCall_intro (IndexFuncS enc es f caps p hes hp) ?_
 have:decide (findP p es 0≥0)=es.any p:=by
  rw[Bool.eq_iff_iff,decide_eq_true_iff];exact findP_ge p es 0
 simp only[go_sem,this]
/-! Comparing -/
def eqL {α:Type}(q:α→α→Bool):List α→List α→Bool
 | [],[]=>true
 |x::a,y::b=>q x y&&eqL q a b
 | [],_::_=>false
 |_::_,[]=>false
theorem eqL_length {α:Type}(q:α→α→Bool):∀(a b:List α),a.length≠b.length→eqL q a b=false
 | [],[],h=>absurd rfl h
 |x::a,y::b,h=>by rw[eqL,eqL_length q a b (by simpa using h)];simp
 | [],_::_,_=>rfl
 |_::_,[],_=>rfl
def Pred2On {α:Type}(enc:α→PV) (f:FuncId) (caps:List PV) (q:α→α→Bool) (es fs:List α):Prop:=∀e∈es,∀g∈fs,Spec Tryz.prog f (.one (.pv (enc e)) :: .one (.pv (enc g))::caps.map fun c=>.one (.pv c)) [] (.bool (q e g)) []
theorem EqualFuncC {α:Type}(enc:α→PV) (es fs:List α) (f:FuncId) (caps:List PV) (q:α→α→Bool) (hes:∀e∈es,PV.hasSz (.agg 6) (enc e)=true) (hfs:∀e∈fs,PV.hasSz (.agg 6) (enc e)=true) (hq:Pred2On enc f caps q es fs):Spec Tryz.prog 250 [pp (.slice (es.map enc)),pp (.slice (fs.map enc)),pp (.fn f caps)] [] (.bool (eqL q es fs)) []:=by
 refine wf (rv:=[.tmp 6]) ann250 32 Tryz.func250 fun hfit=>?_
 have hlen:es.length≤9223372036854775807:=by
  simp only[argsFit,SV.pv?,SC.pv?,PV.fit,maxLen_eq,List.length_map] at hfit
  exact hfit.1.1
 clear hfit
 generalize h0:eqL q es fs=res
 simp only[go_sem,List.length_map]
 refine condK_intro (fun hb=>?_) (fun hb=>?_)
 ·simp only[go_sem]
  rw[←h0,eqL_length]
  intro h;simp[h] at hb
 ·have hl:es.length=fs.length:=by simp at hb;omega
  simp only[go_sem,List.length_map]
  refine aLoop_list (α:=α) (β:=List α×List α×List α) (fun rest b=>⟨[(17,ii b.1.length),(2,pp (.fn f caps)),(1,pp (.slice (fs.map enc))),(15,pp (.slice (es.map enc))),(16,ii es.length)],[],[]⟩) (fun rest b=>es=b.1++rest∧fs=b.2.1++b.2.2∧b.1.length=b.2.1.length∧eqL q rest b.2.2=res) ?_ ?_ es ([],[],fs) _ ?_ ⟨rfl,rfl,rfl,h0⟩
  ·rintro ⟨pre,pre',rest'⟩ ⟨h4,h4',h6,h5⟩ K
   simp only[List.append_nil] at h4 h4' h6
   simp only[go_sem,h4,lt_false (Int.le_refl _)]
   have:rest'=[]:=by
    have:=congrArg List.length h4'
    rw[←hl,h4] at this;simp at this
    exact List.eq_nil_of_length_eq_zero (by omega)
   rw[this] at h5
   simp only[eqL] at h5
   rw[h5]
  ·rintro x rest ⟨pre,pre',rest'⟩ ⟨h4,h4',h6,h5⟩ K hK
   simp only at h4 h4' h6 h5
   cases rest' with
   |nil=>
    exfalso
    have h7:=congrArg List.length h4'
    have h8:=congrArg List.length h4
    simp at h7 h8;omega
   |cons y rest'=>
    have hx:(es.map enc)[pre.length]? = some (enc x):=by simp[h4]
    have hy:(fs.map enc)[pre.length]? = some (enc y):=by simp[h4',h6]
    have hlt:(pre.length:Int)<es.length:=by rw[h4];simp;omega
    have hm:x∈es:=by simp[h4]
    have hn:y∈fs:=by simp[h4']
    simp only[go_sem,decide_eq_true hlt,Int.toNat_natCast,Int.natCast_nonneg,hx,hy,hes x hm,hfs y hn]
    refine aCall_intro (hq x hm y hn) ?_
    simp only[go_sem]
    refine condK_intro (fun hb=>?_) (fun hb=>?_)
    ·have hb':q x y=false:=by simpa using hb
     simp only[eqL,hb',Bool.false_and] at h5
     subst h5
     simp only[go_sem]
    ·have hb':q x y=true:=by simpa using hb
     have w4:IntKind.i64.wrap ((pre.length:Int)+1)=((pre++[x]).length:Int):=by rw[wrap_id (by omega) (by omega)];simp
     simp only[eqL,hb',Bool.true_and] at h5
     simp only[go_sem,w4]
     refine hK (pre++[x],pre'++[y],rest') _ ?_ ⟨by simp[h4],by simp[h4'],by simp[h6],h5⟩
     simp only[go_sem]
  ·simp only[go_sem,List.length_nil,Int.natCast_zero]
theorem EqualFuncK {α:Type}(enc:α→PV) (es fs:List α) (f:FuncId) (caps:List PV) (q:α→α→Bool) (hes:∀e∈es,PV.hasSz (.agg 1) (enc e)=true) (hfs:∀e∈fs,PV.hasSz (.agg 1) (enc e)=true) (hq:Pred2On enc f caps q es fs):Spec Tryz.prog 266 [pp (.slice (es.map enc)),pp (.slice (fs.map enc)),pp (.fn f caps)] [] (.bool (eqL q es fs)) []:=by
 refine wf (rv:=[.tmp 6]) ann266 32 Tryz.func266 fun hfit=>?_
 have hlen:es.length≤9223372036854775807:=by
  simp only[argsFit,SV.pv?,SC.pv?,PV.fit,maxLen_eq,List.length_map] at hfit
  exact hfit.1.1
 clear hfit
 generalize h0:eqL q es fs=res
 simp only[go_sem,List.length_map]
 refine condK_intro (fun hb=>?_) (fun hb=>?_)
 ·simp only[go_sem]
  rw[←h0,eqL_length]
  intro h;simp[h] at hb
 ·have hl:es.length=fs.length:=by simp at hb;omega
  simp only[go_sem,List.length_map]
  refine aLoop_list (α:=α) (β:=List α×List α×List α) (fun rest b=>⟨[(17,ii b.1.length),(2,pp (.fn f caps)),(1,pp (.slice (fs.map enc))),(15,pp (.slice (es.map enc))),(16,ii es.length)],[],[]⟩) (fun rest b=>es=b.1++rest∧fs=b.2.1++b.2.2∧b.1.length=b.2.1.length∧eqL q rest b.2.2=res) ?_ ?_ es ([],[],fs) _ ?_ ⟨rfl,rfl,rfl,h0⟩
  ·rintro ⟨pre,pre',rest'⟩ ⟨h4,h4',h6,h5⟩ K
   simp only[List.append_nil] at h4 h4' h6
   simp only[go_sem,h4,lt_false (Int.le_refl _)]
   have:rest'=[]:=by
    have:=congrArg List.length h4'
    rw[←hl,h4] at this;simp at this
    exact List.eq_nil_of_length_eq_zero (by omega)
   rw[this] at h5
   simp only[eqL] at h5
   rw[h5]
  ·rintro x rest ⟨pre,pre',rest'⟩ ⟨h4,h4',h6,h5⟩ K hK
   simp only at h4 h4' h6 h5
   cases rest' with
   |nil=>
    exfalso
    have h7:=congrArg List.length h4'
    have h8:=congrArg List.length h4
    simp at h7 h8;omega
   |cons y rest'=>
    have hx:(es.map enc)[pre.length]? = some (enc x):=by simp[h4]
    have hy:(fs.map enc)[pre.length]? = some (enc y):=by simp[h4',h6]
    have hlt:(pre.length:Int)<es.length:=by rw[h4];simp;omega
    have hm:x∈es:=by simp[h4]
    have hn:y∈fs:=by simp[h4']
    simp only[go_sem,decide_eq_true hlt,Int.toNat_natCast,Int.natCast_nonneg,hx,hy,hes x hm,hfs y hn]
    refine aCall_intro (hq x hm y hn) ?_
    simp only[go_sem]
    refine condK_intro (fun hb=>?_) (fun hb=>?_)
    ·have hb':q x y=false:=by simpa using hb
     simp only[eqL,hb',Bool.false_and] at h5
     subst h5
     simp only[go_sem]
    ·have hb':q x y=true:=by simpa using hb
     have w4:IntKind.i64.wrap ((pre.length:Int)+1)=((pre++[x]).length:Int):=by rw[wrap_id (by omega) (by omega)];simp
     simp only[eqL,hb',Bool.true_and] at h5
     simp only[go_sem,w4]
     refine hK (pre++[x],pre'++[y],rest') _ ?_ ⟨by simp[h4],by simp[h4'],by simp[h6],h5⟩
     simp only[go_sem]
  ·simp only[go_sem,List.length_nil,Int.natCast_zero]
def ConT.op:ConT→Int | .mk op _ _ _ _ _=>op
def ConT.n:ConT→Int | .mk _ n _ _ _ _=>n
def ConT.s:ConT→ByteArray | .mk _ _ s _ _ _=>s
def ConT.k:ConT→List KindT | .mk _ _ _ k _ _=>k
def ConT.names:ConT→List ByteArray | .mk _ _ _ _ names _=>names
def ConT.l:ConT→List ConT | .mk _ _ _ _ _ l=>l
def isBinder (op:Int):Bool:=op==9||op==10||op==11||op==13
def isLabelled (op:Int):Bool:=op==7||op==8
def partsF (op:Int) (names:Nat):Int:=if op<1∨op>13 then -1 else if isLabelled op then names else if isBinder op then 1 else if op=6∨op=12 then 2 else 0
theorem binder_spec (c:ConT):Spec Tryz.prog 139 [pp (encC c)] [] (.bool (isBinder c.op)) []:=by
 obtain ⟨op,n,s,k,names,l⟩:=c
 refine wk (rv:=[.tmp 2]) ann139 21 Tryz.func139 ?_
 simp only[go_sem,encC_mk]
 repeat' ((first|refine condK_intro (fun _=>?_) (fun _=>?_)|refine guardK_intro (fun _=>?_) (fun _=>?_))<;>simp only[go_sem,List.length_map])
 all_goals (simp only[isBinder,ConT.op];simp_all)
theorem labelled_spec (c:ConT):Spec Tryz.prog 149 [pp (encC c)] [] (.bool (isLabelled c.op)) []:=by
 obtain ⟨op,n,s,k,names,l⟩:=c
 refine wk (rv:=[.tmp 2]) ann149 11 Tryz.func149 ?_
 simp only[go_sem,encC_mk]
 repeat' ((first|refine condK_intro (fun _=>?_) (fun _=>?_)|refine guardK_intro (fun _=>?_) (fun _=>?_))<;>simp only[go_sem,List.length_map])
 all_goals (simp only[isLabelled,ConT.op];simp_all)
theorem parts_spec (c:ConT):Spec Tryz.prog 146 [pp (encC c)] [] (.int .i64 (partsF c.op c.names.length)) []:=by
 obtain ⟨op,n,s,k,names,l⟩:=c
 have hb:=binder_spec (.mk op n s k names l)
 have hl:=labelled_spec (.mk op n s k names l)
 simp only[encC_mk] at hb hl
 refine wk (rv:=[.tmp 2]) ann146 30 Tryz.func146 ?_
 simp only[go_sem,encC_mk,List.length_map]
 repeat' ((first|refine condK_intro (fun _=>?_) (fun _=>?_)|refine guardK_intro (fun _=>?_) (fun _=>?_)|refine aCall_intro hb ?_|refine aCall_intro hl ?_)<;>simp only[go_sem,List.length_map])
 all_goals (clear hb hl;simp only[partsF,ConT.op,ConT.names] at *;simp_all<;>omega)
mutual
def sizeF:ConT→Nat
 | .mk _ _ _ _ _ l=>1+sizeL l
def sizeL:List ConT→Nat
 | []=>0
 |c::l=>sizeF c+sizeL l
end
mutual
def depthF:ConT→Nat
 | .mk _ _ _ _ _ l=>depthL l+1
def depthL:List ConT→Nat
 | []=>0
 |c::l=>max (depthF c) (depthL l)
end
theorem depthF_le:∀c:ConT,depthF c≤sizeF c:=by
 refine ConT.ind1 fun op n s k names l ih=>?_
 have:depthL l≤sizeL l:=by
  clear op n s k names
  induction l with
  |nil=>simp[depthL]
  |cons c r ihr=>
   have h1:=ih c (by simp)
   have h2:=ihr fun x hx=>ih x (by simp[hx])
   simp only[depthL,sizeL];omega
 simp only[depthF,sizeF];omega
theorem sizeF_mem {c:ConT}{l:List ConT}(h:c∈l):sizeF c≤sizeL l:=by
 induction l with
 |nil=>cases h
 |cons x r ih=>
  simp only[sizeL]
  rcases List.mem_cons.1 h with rfl|h
  ·omega
  ·have:=ih h;omega
theorem Size_spec (c:ConT):sizeF c≤1000000000→Spec Tryz.prog 113 [pp (encC c)] [] (.int .i64 (sizeF c)) []:=by
 revert c
 refine ConT.ind1 fun op n s k names l ih=>?_
 intro hsz
 simp only[sizeF] at hsz
 refine wf (rv:=[.tmp 2]) ann113 19 Tryz.func113 fun hfit=>?_
 have hlen:l.length≤9223372036854775807:=by
  simp only[argsFit,SV.pv?,SC.pv?,encC_mk,PV.fit,fitL,List.length_map,maxLen_eq] at hfit
  exact hfit.1.2.2.2.2.2.1.1
 clear hfit
 simp only[go_sem,encC_mk,List.length_map]
 refine aLoop_list (α:=ConT) (β:=List ConT×Nat) (fun rest b=>⟨[(9,ii b.1.length),(3,ii b.2),(7,pp (.slice (l.map encC))),(8,ii l.length)],[],[]⟩) (fun rest b=>l=b.1++rest∧b.2+sizeL rest=1+sizeL l) ?_ ?_ l ([],1) _ ?_ ⟨rfl,rfl⟩
 ·rintro ⟨pre,n⟩ ⟨h4,h5⟩ K
  simp only[List.append_nil,sizeL] at h4 h5
  simp only[go_sem,h4,lt_false (Int.le_refl _)]
  rw[sizeF,←h4,←h5];rfl
 ·rintro x rest ⟨pre,n⟩ ⟨h4,h5⟩ K hK
  simp only[sizeL] at h4 h5
  have hx:(l.map encC)[pre.length]? = some (encC x):=by simp[h4]
  have hlt:(pre.length:Int)<l.length:=by rw[h4];simp;omega
  have hm:x∈l:=by simp[h4]
  have hsx:=sizeF_mem hm
  simp only[go_sem,decide_eq_true hlt,Int.toNat_natCast,Int.natCast_nonneg,hx,encC_sz]
  refine aCall_intro (ih x hm (by omega)) ?_
  have w3:IntKind.i64.wrap ((n:Int)+sizeF x)=((n+sizeF x:Nat):Int):=by rw[wrap_id (by omega) (by omega)];simp
  have w4:IntKind.i64.wrap ((pre.length:Int)+1)=((pre++[x]).length:Int):=by rw[wrap_id (by omega) (by omega)];simp
  simp only[go_sem,w3,w4]
  refine hK (pre++[x],n+sizeF x) _ ?_ ⟨by simp[h4],by omega⟩
  simp only[go_sem]
 ·simp only[go_sem,List.length_nil,Int.natCast_zero];rfl
theorem depth_spec (c:ConT):sizeF c≤1000000000→Spec Tryz.prog 114 [pp (encC c)] [] (.int .i64 (depthF c)) []:=by
 revert c
 refine ConT.ind1 fun op n0 s k names l ih=>?_
 intro hsz
 simp only[sizeF] at hsz
 refine wf (rv:=[.tmp 2]) ann114 20 Tryz.func114 fun hfit=>?_
 have hlen:l.length≤9223372036854775807:=by
  simp only[argsFit,SV.pv?,SC.pv?,encC_mk,PV.fit,fitL,List.length_map,maxLen_eq] at hfit
  exact hfit.1.2.2.2.2.2.1.1
 clear hfit
 simp only[go_sem,encC_mk,List.length_map]
 refine aLoop_list (α:=ConT) (β:=List ConT×Nat) (fun rest b=>⟨[(9,ii b.1.length),(3,ii b.2),(7,pp (.slice (l.map encC))),(8,ii l.length)],[],[]⟩) (fun rest b=>l=b.1++rest∧max b.2 (depthL rest)=depthL l∧b.2≤1000000000) ?_ ?_ l ([],0) _ ?_ ⟨rfl,by simp,by simp⟩
 ·rintro ⟨pre,n⟩ ⟨h4,h5,h6⟩ K
  simp only[List.append_nil,depthL,Nat.max_zero] at h4 h5 h6
  have w:IntKind.i64.wrap ((n:Int)+1)=((depthF (.mk op n0 s k names l):Nat):Int):=by
   rw[wrap_id (by omega) (by omega),depthF,←h5];rfl
  simp only[go_sem,h4,lt_false (Int.le_refl _)]
  rw[h4] at w
  rw[w]
 ·rintro x rest ⟨pre,n⟩ ⟨h4,h5,h6⟩ K hK
  simp only[depthL] at h4 h5 h6
  have hx:(l.map encC)[pre.length]? = some (encC x):=by simp[h4]
  have hlt:(pre.length:Int)<l.length:=by rw[h4];simp;omega
  have hm:x∈l:=by simp[h4]
  have hsx:=sizeF_mem hm
  have hdx:=depthF_le x
  simp only[go_sem,decide_eq_true hlt,Int.toNat_natCast,Int.natCast_nonneg,hx,encC_sz]
  refine aCall_intro (ih x hm (by omega)) ?_
  have w3:(if (depthF x:Int)>(n:Int) then (depthF x:Int) else n)=((max n (depthF x):Nat):Int):=by split<;>omega
  have w4:IntKind.i64.wrap ((pre.length:Int)+1)=((pre++[x]).length:Int):=by rw[wrap_id (by omega) (by omega)];simp
  simp only[go_sem,w3,w4]
  refine hK (pre++[x],max n (depthF x)) _ ?_ ⟨by simp[h4],by simp only;rw[Nat.max_assoc];exact h5,by simp only;omega⟩
  simp only[go_sem]
 ·simp only[go_sem,List.length_nil,Int.natCast_zero]
/-! Small constructors -/
def strEq (a b:ByteArray):Bool:=a.toList==b.toList
theorem EqualS (es fs:List ByteArray):Spec Tryz.prog 32 [pp (.slice (es.map PV.str)),pp (.slice (fs.map PV.str))] [] (.bool (eqL strEq es fs)) []:=by
 refine wf (rv:=[.tmp 4]) ann32 26 Tryz.func32 fun hfit=>?_
 have hlen:es.length≤9223372036854775807:=by
  simp only[argsFit,SV.pv?,SC.pv?,PV.fit,maxLen_eq,List.length_map] at hfit
  exact hfit.1.1
 clear hfit
 generalize h0:eqL strEq es fs=res
 simp only[go_sem,List.length_map]
 refine condK_intro (fun hb=>?_) (fun hb=>?_)
 ·simp only[go_sem]
  rw[←h0,eqL_length]
  intro h;simp[h] at hb
 ·have hl:es.length=fs.length:=by simp at hb;omega
  simp only[go_sem,List.length_map]
  refine aLoop_list (α:=ByteArray) (β:=List ByteArray×List ByteArray×List ByteArray) (fun rest b=>⟨[(13,ii b.1.length),(1,pp (.slice (fs.map PV.str))),(0,pp (.slice (es.map PV.str))),(12,ii es.length)],[],[]⟩) (fun rest b=>es=b.1++rest∧fs=b.2.1++b.2.2∧b.1.length=b.2.1.length∧eqL strEq rest b.2.2=res) ?_ ?_ es ([],[],fs) _ ?_ ⟨rfl,rfl,rfl,h0⟩
  ·rintro ⟨pre,pre',rest'⟩ ⟨h4,h4',h6,h5⟩ K
   simp only[List.append_nil] at h4 h4' h6
   simp only[go_sem,h4,lt_false (Int.le_refl _)]
   have:rest'=[]:=by
    have:=congrArg List.length h4'
    rw[←hl,h4] at this;simp at this
    exact List.eq_nil_of_length_eq_zero (by omega)
   rw[this] at h5
   simp only[eqL] at h5
   rw[h5]
  ·rintro x rest ⟨pre,pre',rest'⟩ ⟨h4,h4',h6,h5⟩ K hK
   simp only at h4 h4' h6 h5
   cases rest' with
   |nil=>
    exfalso
    have h7:=congrArg List.length h4'
    have h8:=congrArg List.length h4
    simp at h7 h8;omega
   |cons y rest'=>
    have hx:(es.map PV.str)[pre.length]? = some (PV.str x):=by simp[h4]
    have hy:(fs.map PV.str)[pre.length]? = some (PV.str y):=by simp[h4',h6]
    have hlt:(pre.length:Int)<es.length:=by rw[h4];simp;omega
    simp only[go_sem,decide_eq_true hlt,Int.toNat_natCast,Int.natCast_nonneg,hx,hy]
    refine condK_intro (fun hb=>?_) (fun hb=>?_)
    ·have hb':strEq x y=false:=by simpa [strEq] using hb
     simp only[eqL,hb',Bool.false_and] at h5
     subst h5
     simp only[go_sem]
    ·have hb':strEq x y=true:=by simpa [strEq] using hb
     have w4:IntKind.i64.wrap ((pre.length:Int)+1)=((pre++[x]).length:Int):=by rw[wrap_id (by omega) (by omega)];simp
     simp only[eqL,hb',Bool.true_and] at h5
     simp only[go_sem,w4]
     refine hK (pre++[x],pre'++[y],rest') _ ?_ ⟨by simp[h4],by simp[h4'],by simp[h6],h5⟩
     simp only[go_sem]
  ·simp only[go_sem,List.length_nil,Int.natCast_zero]
mutual
def sameK:KindT→KindT→Bool
 | .mk a,.mk b=>sameKs a b
def sameKs:List KindT→List KindT→Bool
 | [],[]=>true
 |x::a,y::b=>sameK x y&&sameKs a b
 | [],_::_=>false
 |_::_,[]=>false
end
theorem sameKs_eq:∀a b,eqL sameK a b=sameKs a b
 | [],[]=>rfl
 |x::a,y::b=>by rw[eqL,sameKs,sameKs_eq a b]
 | [],_::_=>rfl
 |_::_,[]=>rfl
theorem same_spec (a:KindT):∀b,Spec Tryz.prog 249 [pp (encK a),pp (encK b)] [] (.bool (sameK a b)) []:=by
 revert a
 refine KindT.ind1 fun l ih=>?_
 rintro ⟨m⟩
 refine wk (rv:=[.tmp 4]) ann249 10 Tryz.func249 ?_
 simp only[go_sem,encK_mk]
 refine aCall_intro (EqualFuncK encK l m 249 [] sameK (fun e _=>encK_sz e) (fun e _=>encK_sz e) fun x hx y _=>ih x hx y) ?_
 simp only[go_sem,sameKs_eq,sameK]
mutual
def eqC:ConT→ConT→Bool
 | .mk op n s k names l,.mk op' n' s' k' names' l'=>op==op'&&(n==n'&&(strEq s s'&&(sameK (.mk k) (.mk k')&&(eqL strEq names names'&&eqCs l l'))))
def eqCs:List ConT→List ConT→Bool
 | [],[]=>true
 |x::a,y::b=>eqC x y&&eqCs a b
 | [],_::_=>false
 |_::_,[]=>false
end
theorem eqCs_eq:∀a b,eqL eqC a b=eqCs a b
 | [],[]=>rfl
 |x::a,y::b=>by rw[eqL,eqCs,eqCs_eq a b]
 | [],_::_=>rfl
 |_::_,[]=>rfl
theorem Equal_spec (a:ConT):∀b,Spec Tryz.prog 232 [pp (encC a),pp (encC b)] [] (.bool (eqC a b)) []:=by
 revert a
 refine ConT.ind1 fun op n s k names l ih=>?_
 rintro ⟨op',n',s',k',names',l'⟩
 have h1:=same_spec (.mk k) (.mk k')
 have h2:=EqualS names names'
 have h3:Spec Tryz.prog 250 [pp (.slice (l.map encC)),pp (.slice (l'.map encC)),pp (.fn 232 [])] [] (.bool (eqCs l l')) []:=by
  rw[←eqCs_eq]
  exact EqualFuncC encC l l' 232 [] eqC (fun e _=>encC_sz e) (fun e _=>encC_sz e) fun x hx y _=>ih x hx y
 simp only[encK_mk] at h1
 refine wk (rv:=[.tmp 4]) ann232 45 Tryz.func232 ?_
 simp only[go_sem,encC_mk]
 repeat' ((first|refine condK_intro (fun _=>?_) (fun _=>?_)|refine guardK_intro (fun _=>?_) (fun _=>?_)|refine aCall_intro h1 ?_|refine aCall_intro h2 ?_|refine aCall_intro h3 ?_)<;>simp only[go_sem,List.length_map])
 all_goals (clear h1 h2 h3;simp only[eqC,strEq] at *;simp_all)
end Go.Abs.Kon