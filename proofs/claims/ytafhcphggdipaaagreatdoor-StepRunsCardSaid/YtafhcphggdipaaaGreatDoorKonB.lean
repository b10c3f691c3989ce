/- Contracts of functions: names, labels, kinds; the reference's equality and counts. -/
import Derived.Test.YtafhcphggdipaaaGreatDoorKonA
import Derived.Laws.Strings
set_option linter.unusedSimpArgs false
namespace Go.Abs.Kon
open Go Go.Proofs Go.Abs
set_option maxRecDepth 100000
set_option maxHeartbeats 4000000
def ofF (n:Int):Int:=if 97≤n∧n≤122 then 1 else if 65≤n∧n≤90 then 2 else if 48≤n∧n≤57 then 3 else if n=95 then 4 else if n=46 then 5 else 0
theorem of_spec (n:Int):Spec Tryz.prog 187 [pp (.int .u8 n)] [] (.int .i64 (ofF n)) []:=by
 refine wk (rv:=[.tmp 2]) ann187 30 Tryz.func187 ?_
 simp only[go_sem]
 repeat' ((first|refine condK_intro (fun _=>?_) (fun _=>?_)|refine guardK_intro (fun _=>?_) (fun _=>?_))<;>simp only[go_sem,List.length_map])
 all_goals (simp only[decide_eq_true_eq,decide_eq_false_iff_not,Bool.not_false,Bool.not_true,beq_iff_eq,beq_eq_false_iff_ne] at *;unfold ofF;(repeat' split)<;>first|rfl | (exfalso;omega))
def bytesOf (s:ByteArray):List UInt8:=s.data.toList
theorem size_bytes (s:ByteArray):s.size=(bytesOf s).length:=by rw[bytesOf,Array.length_toList];rfl
theorem empty_iff (s:ByteArray):(s.toList==(ByteArray.mk #[]).toList)=(bytesOf s).isEmpty:=by
 rw[ByteArray.toList_eq,ByteArray.toList_eq]
 rw[bytesOf]
 cases s.data.toList<;>simp
def labelF (s:ByteArray):Bool:=!(bytesOf s).isEmpty&&decide (s.size≤48)&&(bytesOf s).all fun b=>ofF b.toNat != 0
theorem IsLabel_spec (s:ByteArray):Spec Tryz.prog 152 [pp (.str s)] [] (.bool (labelF s)) []:=by
 refine wk (rv:=[.tmp 2]) ann152 23 Tryz.func152 ?_
 generalize h0:labelF s=res
 simp only[go_sem,empty_iff]
 refine guardK_intro (fun hb=>?_) (fun hb=>?_)
 ·simp only[go_sem]
  refine condK_intro (fun hc=>?_) (fun hc=>?_)
  ·have hsz:¬s.size≤48:=by have:=of_decide_eq_true hc;omega
   simp only[go_sem]
   rw[←h0,labelF,hb];simp[hsz]
  ·have hsz:s.size≤48:=by have:=of_decide_eq_false hc;omega
   have hmx:s.size≤maxLen:=by rw[maxLen_eq];omega
   have h1:(bytesOf s).all (fun b=>ofF b.toNat != 0)=res:=by rw[←h0,labelF,hb];simp[hsz]
   have hl:=size_bytes s
   simp only[go_sem,hmx,List.length_map]
   change ∃n,aLoop _ _ _ n _
   generalize hbs:s.data.toList=bs
   have hbs':bytesOf s=bs:=hbs
   rw[hbs'] at h1 hl
   refine aLoop_list (α:=UInt8) (β:=List UInt8) (fun rest pre=>⟨[(15,ii pre.length),(13,pp (.slice (bs.map fun b=>.int .u8 b.toNat))),(14,ii bs.length)],[],[]⟩) (fun rest pre=>bs=pre++rest∧(rest.all fun b=>ofF b.toNat != 0)=res) ?_ ?_ bs [] _ ?_ ⟨rfl,h1⟩
   ·rintro pre ⟨h4,h5⟩ K
    rw[List.append_nil] at h4
    simp only[go_sem,h4,lt_false (Int.le_refl _)]
    simp only[List.all_nil] at h5
    rw[h5]
   ·rintro x rest pre ⟨h4,h5⟩ K hK
    have hx:(bs.map fun b:UInt8=>PV.int .u8 b.toNat)[pre.length]? = some (.int .u8 x.toNat):=by simp[h4]
    have hlt:(pre.length:Int)<bs.length:=by rw[h4];simp;omega
    have hll:bs.length=pre.length+(rest.length+1):=by rw[h4];simp
    simp only[go_sem,decide_eq_true hlt,Int.toNat_natCast,Int.natCast_nonneg,hx]
    refine aCall_intro (of_spec x.toNat) ?_
    simp only[go_sem]
    refine condK_intro (fun hb=>?_) (fun hb=>?_)
    ·have hb':(ofF x.toNat != 0)=false:=by simpa using hb
     simp only[List.all_cons,hb',Bool.false_and] at h5
     subst h5
     simp only[go_sem]
    ·have hb':(ofF x.toNat != 0)=true:=by simpa using hb
     have w4:IntKind.i64.wrap ((pre.length:Int)+1)=((pre++[x]).length:Int):=by rw[wrap_id (by omega) (by omega)];simp
     simp only[List.all_cons,hb',Bool.true_and] at h5
     simp only[go_sem,w4]
     refine hK (pre++[x]) _ ?_ ⟨by simp[h4],h5⟩
     simp only[go_sem]
   ·simp only[go_sem,List.length_nil,Int.natCast_zero]
 ·simp only[go_sem]
  rw[←h0,labelF,hb];simp
def inner (b:UInt8):Bool:=ofF b.toNat != 0&&ofF b.toNat != 5
def headIs (first:Int):List UInt8→Bool
 | []=>false
 |b::_=>ofF b.toNat==first
def nameF (s:ByteArray) (first:Int):Bool:=decide (s.size≤24)&&(headIs first (bytesOf s)&&(bytesOf s).all inner)
theorem name_spec (s:ByteArray) (first:Int):Spec Tryz.prog 218 [pp (.str s),ii first] [] (.bool (nameF s first)) []:=by
 refine wk (rv:=[.tmp 4]) ann218 38 Tryz.func218 ?_
 generalize h0:nameF s first=res
 cases hbs:bytesOf s with
 |nil=>
  have he:(s.toList==(ByteArray.mk #[]).toList)=true:=by rw[empty_iff,hbs];rfl
  simp only[go_sem,he]
  rw[←h0,nameF,hbs];simp[headIs]
 |cons b0 bs'=>
  have he:(s.toList==(ByteArray.mk #[]).toList)=false:=by rw[empty_iff,hbs];rfl
  have hx0:s.data.toList[0]? = some b0:=by
   have:s.data.toList=b0::bs':=hbs
   rw[this];rfl
  simp only[go_sem,he]
  refine guardK_intro (fun hc=>?_) (fun hc=>?_)
  rotate_left
  ·have hsz:¬s.size≤24:=by simp only[Bool.not_false,decide_eq_true_eq] at hc;omega
   simp only[go_sem]
   rw[←h0,nameF];simp[hsz]
  have hsz:s.size≤24:=by have:=of_decide_eq_false hc;omega
  have hmx:s.size≤maxLen:=by rw[maxLen_eq];omega
  simp only[go_sem,hx0]
  refine aCall_intro (of_spec b0.toNat) ?_
  simp only[go_sem]
  refine condK_intro (fun hd=>?_) (fun hd=>?_)
  ·have hd':(ofF b0.toNat==first)=false:=by simpa using hd
   simp only[go_sem]
   rw[←h0,nameF,hbs];simp[headIs,hd']
  have hd':(ofF b0.toNat==first)=true:=by simpa using hd
  have h1:(bytesOf s).all inner=res:=by rw[←h0,nameF,hbs];simp[headIs,hd',hsz]
  have hl:=size_bytes s
  simp only[go_sem,hmx,List.length_map]
  change ∃n,aLoop _ _ _ n _
  generalize hbs2:s.data.toList=bs
  have hbs3:bytesOf s=bs:=hbs2
  rw[hbs3] at h1 hl
  refine aLoop_list (α:=UInt8) (β:=List UInt8) (fun rest pre=>⟨[(25,ii pre.length),(23,pp (.slice (bs.map fun b=>.int .u8 b.toNat))),(24,ii bs.length)],[],[]⟩) (fun rest pre=>bs=pre++rest∧rest.all inner=res) ?_ ?_ bs [] _ ?_ ⟨rfl,h1⟩
  ·rintro pre ⟨h4,h5⟩ K
   rw[List.append_nil] at h4
   simp only[go_sem,h4,lt_false (Int.le_refl _)]
   simp only[List.all_nil] at h5
   rw[h5]
  ·rintro x rest pre ⟨h4,h5⟩ K hK
   have hx:(bs.map fun b:UInt8=>PV.int .u8 b.toNat)[pre.length]? = some (.int .u8 x.toNat):=by simp[h4]
   have hlt:(pre.length:Int)<bs.length:=by rw[h4];simp;omega
   have hll:bs.length=pre.length+(rest.length+1):=by rw[h4];simp
   have w4:IntKind.i64.wrap ((pre.length:Int)+1)=((pre++[x]).length:Int):=by rw[wrap_id (by omega) (by omega)];simp
   have hout:inner x=false→false=res:=fun hi=>by simp only[List.all_cons,hi,Bool.false_and] at h5;exact h5
   have hin:inner x=true→rest.all inner=res:=fun hi=>by simp only[List.all_cons,hi,Bool.true_and] at h5;exact h5
   simp only[go_sem,decide_eq_true hlt,Int.toNat_natCast,Int.natCast_nonneg,hx]
   refine aCall_intro (of_spec x.toNat) ?_
   simp only[go_sem]
   repeat' ((first|refine condK_intro (fun _=>?_) (fun _=>?_)|refine guardK_intro (fun _=>?_) (fun _=>?_))<;>simp only[go_sem,List.length_map])
   any_goals (rw[hout (by simp_all [inner])];done)
   all_goals
    rename_i hb1 hb2
    simp only[w4]
    refine hK (pre++[x]) _ ?_ ⟨by simp[h4],hin (by simp_all [inner])⟩
    simp only[go_sem]
  ·simp only[go_sem,List.length_nil,Int.natCast_zero]
theorem IsUpper_spec (s:ByteArray):Spec Tryz.prog 185 [pp (.str s)] [] (.bool (nameF s 2)) []:=by
 refine wk (rv:=[.tmp 2]) ann185 5 Tryz.func185 ?_
 simp only[go_sem]
 refine aCall_intro (name_spec s 2) ?_
 simp only[go_sem]
def ltS (a b:ByteArray):Bool:=Op.bytesLess a.toList b.toList
def ascF:List ByteArray→Bool
 | []=>true
 |a::r=>ascFrom a r
where ascFrom (a:ByteArray):List ByteArray→Bool
 | []=>true
 |b::r=>ltS a b&&ascFrom b r
theorem Ascending_spec (l:List ByteArray):Spec Tryz.prog 150 [pp (.slice (l.map .str))] [] (.bool (ascF l)) []:=by
 refine wf (rv:=[.tmp 2]) ann150 20 Tryz.func150 fun hfit=>?_
 have hlen:l.length≤9223372036854775807:=by
  simp only[argsFit,SV.pv?,SC.pv?,PV.fit,maxLen_eq,List.length_map] at hfit
  exact hfit.1.1
 clear hfit
 generalize h0:ascF l=res
 have hcase:l=[]∨∃a r,l=a::r:=by cases l<;>simp
 simp only[go_sem]
 rcases hcase with hl|⟨a,r,hl⟩
 ·refine ⟨1,?_⟩
  rw[aLoop_succ]
  rw[hl,ascF] at h0
  rw[hl,←h0]
  simp only[go_sem,List.length_nil,Int.natCast_zero]
  trace_state
 ·rw[hl,ascF] at h0
  refine aLoop_list (α:=ByteArray) (β:=List ByteArray×ByteArray) (fun rest b=>⟨[(3,ii ((b.1.length+1:Nat):Int)),(0,pp (.slice (l.map .str)))],[],[]⟩) (fun rest b=>l=b.1++b.2::rest∧ascF.ascFrom b.2 rest=res) ?_ ?_ r ([],a) _ ?_ ⟨hl,h0⟩
  ·rintro ⟨pre,last⟩ ⟨h4,h5⟩ K
   simp only at h4 h5
   have hll:l.length=pre.length+1:=by rw[h4];simp
   simp only[go_sem,List.length_map,hll,lt_false (Int.le_refl _)]
   simp only[ascF.ascFrom] at h5
   rw[h5]
  ·rintro x rest ⟨pre,last⟩ ⟨h4,h5⟩ K hK
   simp only at h4 h5
   have hll:l.length=pre.length+(rest.length+2):=by rw[h4];simp
   have hx:(l.map PV.str)[pre.length+1]? = some (.str x):=by rw[h4];simp
   have hy:(l.map PV.str)[pre.length]? = some (.str last):=by rw[h4];simp
   have hlt:(((pre.length+1:Nat)):Int)<(l.length:Int):=by rw[hll];omega
   have w1:IntKind.i64.wrap (((pre.length+1:Nat):Int) - 1)=(pre.length:Int):=by rw[wrap_id (by omega) (by omega)];omega
   have w4:IntKind.i64.wrap (((pre.length+1:Nat):Int)+1)=(((pre++[last]).length+1:Nat):Int):=by rw[wrap_id (by omega) (by omega)];simp
   simp only[ascF.ascFrom] at h5
   simp only[go_sem,List.length_map,decide_eq_true hlt,Int.toNat_natCast,Int.natCast_nonneg,hx,hy,w1]
   refine condK_intro (fun hb=>?_) (fun hb=>?_)
   ·have hb':ltS last x=false:=by simpa [ltS] using hb
    rw[hb',Bool.false_and] at h5
    subst h5
    simp only[go_sem]
   ·have hb':ltS last x=true:=by simpa [ltS] using hb
    rw[hb',Bool.true_and] at h5
    simp only[go_sem,w4]
    refine hK (pre++[last],x) _ ?_ ⟨by simp[h4],h5⟩
    simp only[go_sem]
  ·simp only[go_sem,List.length_nil];rfl
mutual
def sizeK:KindT→Int→Int→Option Int
 | .mk l,left,depth=>if left≤0∨depth>400∨(l.length≠0∧l.length≠2) then none else sizeKs l left depth 1
def sizeKs:List KindT→Int→Int→Int→Option Int
 | [],_,_,n=>some n
 |x::r,left,depth,n=>match sizeK x (left - n) (depth+1) with
  |none=>none
  |some m=>sizeKs r left depth (n+m)
end
mutual
theorem sizeK_le:∀(k:KindT) (left depth m:Int),sizeK k left depth=some m→1≤m∧m≤left
 | .mk l,left,depth,m,h=>by
  rw[sizeK] at h
  split at h
  ·cases h
  ·exact sizeKs_le l left depth 1 m (by omega) (by omega) h
theorem sizeKs_le:∀(l:List KindT) (left depth n m:Int),1≤n→n≤left→sizeKs l left depth n=some m→1≤m∧m≤left
 | [],left,depth,n,m,h1,h2,h=>by rw[sizeKs] at h;cases h;exact ⟨h1,h2⟩
 |x::r,left,depth,n,m,h1,h2,h=>by
  rw[sizeKs] at h
  split at h
  ·cases h
  ·rename_i m' hm
   have:=sizeK_le x (left - n) (depth+1) m' hm
   exact sizeKs_le r left depth (n+m') m (by omega) (by omega) h
end
def resK (o:Option Int):PV:=.tuple [.int .i64 (o.getD 0),.bool o.isSome]
theorem sizeK_spec (k:KindT):∀left depth:Int,left≤100000000→-100000000≤left→0≤depth→depth≤100000000→Spec Tryz.prog 186 [pp (encK k),ii left,ii depth] [] (resK (sizeK k left depth)) []:=by
 revert k
 refine KindT.ind1 fun l ih=>?_
 intro left depth h1 h2 h3 h4
 refine wf (rv:=[.tmp 6,.tmp 7]) ann186 55 Tryz.func186 fun hfit=>?_
 have hlen:l.length≤9223372036854775807:=by
  simp only[argsFit,SV.pv?,SC.pv?,encK_mk,PV.fit,fitL,List.length_map,maxLen_eq] at hfit
  exact hfit.1.1.1
 clear hfit
 have hout:∀h:left≤0∨depth>400∨(l.length≠0∧l.length≠2),none=sizeK (.mk l) left depth:=fun h=>by rw[sizeK,if_pos h]
 have hin:∀h:¬(left≤0∨depth>400∨(l.length≠0∧l.length≠2)),sizeKs l left depth 1=sizeK (.mk l) left depth:=fun h=>by rw[sizeK,if_neg h]
 generalize sizeK (.mk l) left depth=res at hout hin
 simp only[go_sem,encK_mk,List.length_map]
 repeat' ((first|refine condK_intro (fun _=>?_) (fun _=>?_)|refine guardK_intro (fun _=>?_) (fun _=>?_))<;>simp only[go_sem,List.length_map])
 any_goals (rw[←hout (by simp_all<;>omega)];rfl)
 all_goals
  have hc:=hin (by simp_all<;>omega)
  have hleft:1≤left:=by simp_all;omega
  have hdep:depth≤400:=by simp_all
  clear hout hin
  refine aLoop_list (α:=KindT) (β:=List KindT×Int) (fun rest b=>⟨[(34,ii b.1.length),(8,ii b.2),(2,ii depth),(1,ii left),(32,pp (.slice (l.map encK))),(33,ii l.length)],[],[]⟩)
   (fun rest b=>l=b.1++rest∧1≤b.2∧b.2≤left∧sizeKs rest left depth b.2=res) ?_ ?_ l ([],1) _ ?_ ⟨rfl,by simp only;omega,by simp only;omega,hc⟩
  ·rintro ⟨pre,n⟩ ⟨h4,h5,h7,h6⟩ K
   simp only[List.append_nil] at h4
   simp only[go_sem,h4,lt_false (Int.le_refl _)]
   simp only[sizeKs] at h6
   rw[←h6];rfl
  ·rintro x rest ⟨pre,n⟩ ⟨h4,h5,h7,h6⟩ K hK
   simp only at h4 h5 h6 h7
   have hx:(l.map encK)[pre.length]? = some (encK x):=by simp[h4]
   have hlt:(pre.length:Int)<l.length:=by rw[h4];simp;omega
   have w1:IntKind.i64.wrap (left - n)=left - n:=wrap_id (by omega) (by omega)
   have w2:IntKind.i64.wrap (depth+1)=depth+1:=wrap_id (by omega) (by omega)
   simp only[go_sem,decide_eq_true hlt,Int.toNat_natCast,Int.natCast_nonneg,hx,encK_sz,w1,w2]
   refine aCall_intro (ih x (by simp[h4]) (left - n) (depth+1) (by omega) (by omega) (by omega) (by omega)) ?_
   cases hs:sizeK x (left - n) (depth+1) with
   |none=>
    simp only[sizeKs,hs] at h6
    subst h6
    simp only[go_sem,resK,Option.getD_none,Option.isSome_none]
   |some m=>
    simp only[sizeKs,hs] at h6
    have hr:=sizeK_le x (left - n) (depth+1) m hs
    have w3:IntKind.i64.wrap (n+m)=n+m:=wrap_id (by omega) (by omega)
    have w4:IntKind.i64.wrap ((pre.length:Int)+1)=((pre++[x]).length:Int):=by rw[wrap_id (by omega) (by omega)];simp
    simp only[go_sem,resK,Option.getD_some,Option.isSome_some,w3,w4]
    refine hK (pre++[x],n+m) _ ?_ ⟨by simp[h4],by simp only;omega,by simp only;omega,h6⟩
    simp only[go_sem]
  ·simp only[go_sem,List.length_nil,Int.natCast_zero]
theorem kValid_spec (k:KindT):Spec Tryz.prog 148 [pp (encK k)] [] (.bool (sizeK k 20000 1).isSome) []:=by
 refine wk (rv:=[.tmp 2]) ann148 11 Tryz.func148 ?_
 simp only[go_sem,encK_sz]
 refine aCall_intro (sizeK_spec k 20000 1 (by decide) (by decide) (by decide) (by decide)) ?_
 simp only[go_sem,resK]
theorem rSize_spec (c:ConT):sizeF c≤1000000000→Spec Tryz.prog 94 [pp (encC c)] [] (.int .i64 (sizeF c)) []:=by
 revert c
 refine ConT.ind1 fun op n0 s k names l ih=>?_
 intro hsz
 simp only[sizeF] at hsz
 refine wf (rv:=[.tmp 2]) ann94 21 Tryz.func94 fun hfit=>?_
 have hlen:l.length≤9223372036854775807:=by
  simp only[argsFit,SV.pv?,SC.pv?,encC_mk,PV.fit,fitL,List.length_map,maxLen_eq] at hfit
  exact hfit.1.2.2.2.2.2.1.1
 clear hfit
 simp only[go_sem,encC_mk,List.length_map]
 refine aLoop_list (α:=ConT) (β:=List ConT×Nat) (fun rest b=>⟨[(4,ii b.1.length),(1,pp (.ep (.agg [.int .i64 op,.int .i64 n0,.str s,.slice (k.map encK),.slice (names.map .str),.slice (l.map encC)]) 0)),(3,ii b.2)],[],[]⟩) (fun rest b=>l=b.1++rest∧b.2+sizeL rest=1+sizeL l) ?_ ?_ l ([],1) _ ?_ ⟨rfl,rfl⟩
 ·rintro ⟨pre,n⟩ ⟨h4,h5⟩ K
  simp only[List.append_nil,sizeL] at h4 h5
  simp only[go_sem,List.length_map,h4,lt_false (Int.le_refl _)]
  rw[sizeF,←h4,←h5];rfl
 ·rintro x rest ⟨pre,n⟩ ⟨h4,h5⟩ K hK
  simp only[sizeL] at h4 h5
  have hx:(l.map encC)[pre.length]? = some (encC x):=by simp[h4]
  have hlt:(pre.length:Int)<l.length:=by rw[h4];simp;omega
  have hm:x∈l:=by simp[h4]
  have hsx:=sizeF_mem hm
  simp only[go_sem,List.length_map,decide_eq_true hlt,Int.toNat_natCast,Int.natCast_nonneg,hx,encC_sz]
  refine aCall_intro (ih x hm (by omega)) ?_
  have w3:IntKind.i64.wrap ((n:Int)+sizeF x)=((n+sizeF x:Nat):Int):=by rw[wrap_id (by omega) (by omega)];simp
  have w4:IntKind.i64.wrap ((pre.length:Int)+1)=((pre++[x]).length:Int):=by rw[wrap_id (by omega) (by omega)];simp
  simp only[go_sem,w3,w4]
  refine hK (pre++[x],n+sizeF x) _ ?_ ⟨by simp[h4],by omega⟩
  simp only[go_sem]
 ·simp only[go_sem,List.length_nil,Int.natCast_zero];rfl
theorem rSameK_spec (a:KindT):∀b,Spec Tryz.prog 62 [pp (encK a),pp (encK b)] [] (.bool (sameK a b)) []:=by
 revert a
 refine KindT.ind1 fun es ih=>?_
 rintro ⟨fs⟩
 refine wf (rv:=[.tmp 4]) ann62 32 Tryz.func62 fun hfit=>?_
 have hlen:es.length≤9223372036854775807:=by
  simp only[argsFit,SV.pv?,SC.pv?,encK_mk,PV.fit,fitL,List.length_map,maxLen_eq] at hfit
  exact hfit.1.1.1
 clear hfit
 have h0:eqL sameK es fs=sameK (.mk es) (.mk fs):=by rw[sameKs_eq,sameK]
 generalize sameK (.mk es) (.mk fs)=res at h0
 simp only[go_sem,encK_mk,List.length_map]
 refine condK_intro (fun hb=>?_) (fun hb=>?_)
 ·simp only[go_sem]
  rw[←h0,eqL_length]
  intro h;simp[h] at hb
 ·have hl:es.length=fs.length:=by simp at hb;omega
  simp only[go_sem,List.length_map]
  refine aLoop_list (α:=KindT) (β:=List KindT×List KindT×List KindT) (fun rest b=>⟨[(5,ii b.1.length),(3,pp (.ep (.agg [.slice (fs.map encK)]) 0)),(2,pp (.ep (.agg [.slice (es.map encK)]) 0))],[],[]⟩) (fun rest b=>es=b.1++rest∧fs=b.2.1++b.2.2∧b.1.length=b.2.1.length∧eqL sameK rest b.2.2=res) ?_ ?_ es ([],[],fs) _ ?_ ⟨rfl,rfl,rfl,h0⟩
  ·rintro ⟨pre,pre',rest'⟩ ⟨h4,h4',h6,h5⟩ K
   simp only[List.append_nil] at h4 h4' h6
   simp only[go_sem,List.length_map,h4,lt_false (Int.le_refl _)]
   have:rest'=[]:=by
    have:=congrArg List.length h4'
    rw[←hl,h4] at this;simp at this
    exact List.eq_nil_of_length_eq_zero (by omega)
   rw[this] at h5
   simp only[eqL] at h5
   rw[h5]
  ·rintro x rest ⟨pre,pre',rest'⟩ ⟨h4,h4',h6,h5⟩ K hK
   simp only at h4 h4' h6 h5
   cases rest' with
   |nil=>
    exfalso
    have h7:=congrArg List.length h4'
    have h8:=congrArg List.length h4
    simp at h7 h8;omega
   |cons y rest'=>
    have hx:(es.map encK)[pre.length]? = some (encK x):=by simp[h4]
    have hy:(fs.map encK)[pre.length]? = some (encK y):=by simp[h4',h6]
    have hlt:(pre.length:Int)<es.length:=by rw[h4];simp;omega
    have hm:x∈es:=by simp[h4]
    simp only[go_sem,List.length_map,decide_eq_true hlt,Int.toNat_natCast,Int.natCast_nonneg,hx,hy,encK_sz]
    refine aCall_intro (ih x hm y) ?_
    simp only[go_sem]
    refine condK_intro (fun hb=>?_) (fun hb=>?_)
    ·have hb':sameK x y=false:=by simpa using hb
     simp only[eqL,hb',Bool.false_and] at h5
     subst h5
     simp only[go_sem]
    ·have hb':sameK x y=true:=by simpa using hb
     have w4:IntKind.i64.wrap ((pre.length:Int)+1)=((pre++[x]).length:Int):=by rw[wrap_id (by omega) (by omega)];simp
     simp only[eqL,hb',Bool.true_and] at h5
     simp only[go_sem,w4]
     refine hK (pre++[x],pre'++[y],rest') _ ?_ ⟨by simp[h4],by simp[h4'],by simp[h6],h5⟩
     simp only[go_sem]
  ·simp only[go_sem,List.length_nil,Int.natCast_zero]
theorem rSameS_spec (es fs:List ByteArray):Spec Tryz.prog 63 [pp (.slice (es.map .str)),pp (.slice (fs.map .str))] [] (.bool (eqL strEq es fs)) []:=by
 refine wf (rv:=[.tmp 4]) ann63 26 Tryz.func63 fun hfit=>?_
 have hlen:es.length≤9223372036854775807:=by
  simp only[argsFit,SV.pv?,SC.pv?,PV.fit,maxLen_eq,List.length_map] at hfit
  exact hfit.1.1
 clear hfit
 generalize h0:eqL strEq es fs=res
 simp only[go_sem,List.length_map]
 refine condK_intro (fun hb=>?_) (fun hb=>?_)
 ·simp only[go_sem]
  rw[←h0,eqL_length]
  intro h;simp[h] at hb
 ·have hl:es.length=fs.length:=by simp at hb;omega
  simp only[go_sem,List.length_map]
  refine aLoop_list (α:=ByteArray) (β:=List ByteArray×List ByteArray×List ByteArray) (fun rest b=>⟨[(5,ii b.1.length),(1,pp (.slice (fs.map .str))),(0,pp (.slice (es.map .str)))],[],[]⟩) (fun rest b=>es=b.1++rest∧fs=b.2.1++b.2.2∧b.1.length=b.2.1.length∧eqL strEq rest b.2.2=res) ?_ ?_ es ([],[],fs) _ ?_ ⟨rfl,rfl,rfl,h0⟩
  ·rintro ⟨pre,pre',rest'⟩ ⟨h4,h4',h6,h5⟩ K
   simp only[List.append_nil] at h4 h4' h6
   simp only[go_sem,List.length_map,h4,lt_false (Int.le_refl _)]
   have:rest'=[]:=by
    have:=congrArg List.length h4'
    rw[←hl,h4] at this;simp at this
    exact List.eq_nil_of_length_eq_zero (by omega)
   rw[this] at h5
   simp only[eqL] at h5
   rw[h5]
  ·rintro x rest ⟨pre,pre',rest'⟩ ⟨h4,h4',h6,h5⟩ K hK
   simp only at h4 h4' h6 h5
   cases rest' with
   |nil=>
    exfalso
    have h7:=congrArg List.length h4'
    have h8:=congrArg List.length h4
    simp at h7 h8;omega
   |cons y rest'=>
    have hx:(es.map PV.str)[pre.length]? = some (.str x):=by simp[h4]
    have hy:(fs.map PV.str)[pre.length]? = some (.str y):=by simp[h4',h6]
    have hlt:(pre.length:Int)<es.length:=by rw[h4];simp;omega
    simp only[go_sem,List.length_map,decide_eq_true hlt,Int.toNat_natCast,Int.natCast_nonneg,hx,hy]
    refine condK_intro (fun hb=>?_) (fun hb=>?_)
    ·have hb':strEq x y=false:=by simpa [strEq] using hb
     simp only[eqL,hb',Bool.false_and] at h5
     subst h5
     simp only[go_sem]
    ·have hb':strEq x y=true:=by simpa [strEq] using hb
     have w4:IntKind.i64.wrap ((pre.length:Int)+1)=((pre++[x]).length:Int):=by rw[wrap_id (by omega) (by omega)];simp
     simp only[eqL,hb',Bool.true_and] at h5
     simp only[go_sem,w4]
     refine hK (pre++[x],pre'++[y],rest') _ ?_ ⟨by simp[h4],by simp[h4'],by simp[h6],h5⟩
     simp only[go_sem]
  ·simp only[go_sem,List.length_nil,Int.natCast_zero]
abbrev rawC (op n:Int) (s:ByteArray) (k:List KindT) (names:List ByteArray) (l:List ConT):PV:=.agg [.int .i64 op,.int .i64 n,.str s,.slice (k.map encK),.slice (names.map .str),.slice (l.map encC)]
theorem rSame_spec (a:ConT):∀b,Spec Tryz.prog 64 [pp (encC a),pp (encC b)] [] (.bool (eqC a b)) []:=by
 revert a
 refine ConT.ind1 fun op n0 s k names es ih=>?_
 rintro ⟨op',n',s',k',names',fs⟩
 have hk:=rSameK_spec (.mk k) (.mk k')
 have hn:=rSameS_spec names names'
 simp only[encK_mk] at hk
 refine wf (rv:=[.tmp 4]) ann64 69 Tryz.func64 fun hfit=>?_
 have hlen:es.length≤9223372036854775807:=by
  simp only[argsFit,SV.pv?,SC.pv?,encC_mk,PV.fit,fitL,List.length_map,maxLen_eq] at hfit
  exact hfit.1.2.2.2.2.2.1.1
 clear hfit
 have h0:(op==op'&&(n0==n'&&(strEq s s'&&(sameK (.mk k) (.mk k')&&(eqL strEq names names'&&eqL eqC es fs)))))=eqC (.mk op n0 s k names es) (.mk op' n' s' k' names' fs):=by rw[eqC,eqCs_eq]
 generalize eqC (.mk op n0 s k names es) (.mk op' n' s' k' names' fs)=res at h0
 have hle:es.length≠fs.length→eqL eqC es fs=false:=eqL_length eqC es fs
 simp only[go_sem,encC_mk,List.length_map]
 repeat' ((first|refine condK_intro (fun _=>?_) (fun _=>?_)|refine guardK_intro (fun _=>?_) (fun _=>?_)|refine aCall_intro hk ?_|refine aCall_intro hn ?_)<;>simp only[go_sem,List.length_map])
 any_goals (rw[←h0];clear hk hn ih;simp only[strEq];simp_all;done)
 rotate_left 1
 ·rename_i hb
  rw[←h0,hle (by intro h;simp[h] at hb)];simp
 rename_i e1 e2 e3 e4 e5 e6
 have hl:es.length=fs.length:=by simp at e4;omega
 have h1:eqL eqC es fs=res:=by rw[←h0];simp only[strEq];simp_all
 clear hk hn h0 hle e1 e2 e3 e4 e5 e6
 refine aLoop_list (α:=ConT) (β:=List ConT×List ConT×List ConT) (fun rest b=>⟨[(5,ii b.1.length),(3,pp (.ep (rawC op' n' s' k' names' fs) 0)),(2,pp (.ep (rawC op n0 s k names es) 0))],[],[]⟩) (fun rest b=>es=b.1++rest∧fs=b.2.1++b.2.2∧b.1.length=b.2.1.length∧eqL eqC rest b.2.2=res) ?_ ?_ es ([],[],fs) _ ?_ ⟨rfl,rfl,rfl,h1⟩
 ·rintro ⟨pre,pre',rest'⟩ ⟨h4,h4',h6,h5⟩ K
  simp only[List.append_nil] at h4 h4' h6
  simp only[go_sem,List.length_map,h4,lt_false (Int.le_refl _)]
  have:rest'=[]:=by
   have:=congrArg List.length h4'
   rw[←hl,h4] at this;simp at this
   exact List.eq_nil_of_length_eq_zero (by omega)
  rw[this] at h5
  simp only[eqL] at h5
  rw[h5]
 ·rintro x rest ⟨pre,pre',rest'⟩ ⟨h4,h4',h6,h5⟩ K hK
  simp only at h4 h4' h6 h5
  cases rest' with
  |nil=>
   exfalso
   have h7:=congrArg List.length h4'
   have h8:=congrArg List.length h4
   simp at h7 h8;omega
  |cons y rest'=>
   have hx:(es.map encC)[pre.length]? = some (encC x):=by simp[h4]
   have hy:(fs.map encC)[pre.length]? = some (encC y):=by simp[h4',h6]
   have hlt:(pre.length:Int)<es.length:=by rw[h4];simp;omega
   have hm:x∈es:=by simp[h4]
   simp only[go_sem,List.length_map,decide_eq_true hlt,Int.toNat_natCast,Int.natCast_nonneg,hx,hy,encC_sz]
   refine aCall_intro (ih x hm y) ?_
   simp only[go_sem]
   refine condK_intro (fun hb=>?_) (fun hb=>?_)
   ·have hb':eqC x y=false:=by simpa using hb
    simp only[eqL,hb',Bool.false_and] at h5
    subst h5
    simp only[go_sem]
   ·have hb':eqC x y=true:=by simpa using hb
    have w4:IntKind.i64.wrap ((pre.length:Int)+1)=((pre++[x]).length:Int):=by rw[wrap_id (by omega) (by omega)];simp
    simp only[eqL,hb',Bool.true_and] at h5
    simp only[go_sem,w4]
    refine hK (pre++[x],pre'++[y],rest') _ ?_ ⟨by simp[h4],by simp[h4'],by simp[h6],h5⟩
    simp only[go_sem]
 ·simp only[go_sem,List.length_nil,Int.natCast_zero]
theorem rBinder_spec (op:Int):Spec Tryz.prog 182 [ii op] [] (.bool (isBinder op)) []:=by
 refine wk (rv:=[.tmp 2]) ann182 17 Tryz.func182 ?_
 simp only[go_sem]
 repeat' ((first|refine condK_intro (fun _=>?_) (fun _=>?_)|refine guardK_intro (fun _=>?_) (fun _=>?_))<;>simp only[go_sem,List.length_map])
 all_goals (simp only[isBinder];simp_all)
def rpartsF (op:Int):Int:=if op=6∨op=12 then 2 else if isLabelled op then -1 else if isBinder op then 1 else 0
theorem rparts_spec (op:Int):Spec Tryz.prog 179 [ii op] [] (.int .i64 (rpartsF op)) []:=by
 have hb:=rBinder_spec op
 have w:IntKind.i64.wrap (0 - 1)=-1:=by rw[wrap_id (by omega) (by omega)];rfl
 refine wk (rv:=[.tmp 2]) ann179 17 Tryz.func179 ?_
 simp only[go_sem]
 repeat' ((first|refine condK_intro (fun _=>?_) (fun _=>?_)|refine guardK_intro (fun _=>?_) (fun _=>?_)|refine aCall_intro hb ?_)<;>simp only[go_sem,List.length_map])
 all_goals (try simp only[w]);(clear hb;simp only[rpartsF,isLabelled];simp_all)
mutual
def countF:ConT→Int→Int→Int
 | .mk _ _ _ _ _ l,left,depth=>if depth>400 then left else countL l left depth 1
def countL:List ConT→Int→Int→Int→Int
 | [],_,_,n=>n
 |x::r,left,depth,n=>if n<left then countL r left depth (n+countF x (left - n) (depth+1)) else n
end
mutual
theorem countF_le:∀(c:ConT) (left depth:Int),1≤left→1≤countF c left depth∧countF c left depth≤left
 | .mk _ _ _ _ _ l,left,depth,h=>by
  rw[countF]
  split
  ·omega
  ·exact countL_le l left depth 1 (by omega) h
theorem countL_le:∀(l:List ConT) (left depth n:Int),1≤n→n≤left→1≤countL l left depth n∧countL l left depth n≤left
 | [],left,depth,n,h,h'=>by rw[countL];omega
 |x::r,left,depth,n,h,h'=>by
  rw[countL]
  split
  ·have:=countF_le x (left - n) (depth+1) (by omega)
   exact countL_le r left depth _ (by omega) (by omega)
  ·omega
end
theorem count_spec (c:ConT):∀left depth:Int,1≤left→left≤100000000→0≤depth→depth≤100000000→Spec Tryz.prog 144 [pp (encC c),ii left,ii depth] [] (.int .i64 (countF c left depth)) []:=by
 revert c
 refine ConT.ind1 fun op n0 s k names l ih=>?_
 intro left depth h1 h2 h3 h4
 refine wf (rv:=[.tmp 6]) ann144 38 Tryz.func144 fun hfit=>?_
 have hlen:l.length≤9223372036854775807:=by
  simp only[argsFit,SV.pv?,SC.pv?,encC_mk,PV.fit,fitL,List.length_map,maxLen_eq] at hfit
  exact hfit.1.2.2.2.2.2.1.1
 clear hfit
 simp only[go_sem,encC_mk]
 refine condK_intro (fun hb=>?_) (fun hb=>?_)
 ·simp only[go_sem]
  rw[countF,if_pos (of_decide_eq_true hb)]
 ·have hd:¬depth>400:=of_decide_eq_false hb
  have h0:countL l left depth 1=countF (.mk op n0 s k names l) left depth:=by rw[countF,if_neg hd]
  generalize countF (.mk op n0 s k names l) left depth=res at h0
  simp only[go_sem]
  refine aLoop_list (α:=ConT) (β:=List ConT×Int) (fun rest b=>⟨[(8,ii b.1.length),(2,ii depth),(7,ii b.2),(1,ii left),(3,pp (.ep (rawC op n0 s k names l) 0))],[],[]⟩)
   (fun rest b=>l=b.1++rest∧1≤b.2∧b.2≤left∧countL rest left depth b.2=res) ?_ ?_ l ([],1) _ ?_ ⟨rfl,by simp only;omega,by simp only;omega,h0⟩
  ·rintro ⟨pre,n⟩ ⟨h4,h5,h7,h6⟩ K
   simp only[List.append_nil] at h4
   simp only[go_sem,List.length_map,h4,lt_false (Int.le_refl _)]
   simp only[countL] at h6
   rw[h6]
  ·rintro x rest ⟨pre,n⟩ ⟨h4,h5,h7,h6⟩ K hK
   simp only at h4 h5 h6 h7
   have hx:(l.map encC)[pre.length]? = some (encC x):=by simp[h4]
   have hlt:(pre.length:Int)<l.length:=by rw[h4];simp;omega
   simp only[go_sem,List.length_map,decide_eq_true hlt]
   refine condK_intro (fun hb=>?_) (fun hb=>?_)
   ·have hn:n<left:=of_decide_eq_true hb
    simp only[countL,if_pos hn] at h6
    have hr:=countF_le x (left - n) (depth+1) (by omega)
    have w1:IntKind.i64.wrap (left - n)=left - n:=wrap_id (by omega) (by omega)
    have w2:IntKind.i64.wrap (depth+1)=depth+1:=wrap_id (by omega) (by omega)
    simp only[go_sem,Int.toNat_natCast,Int.natCast_nonneg,hx,encC_sz,w1,w2]
    refine aCall_intro (ih x (by simp[h4]) _ _ (by omega) (by omega) (by omega) (by omega)) ?_
    have w3:IntKind.i64.wrap (n+countF x (left - n) (depth+1))=n+countF x (left - n) (depth+1):=wrap_id (by omega) (by omega)
    have w4:IntKind.i64.wrap ((pre.length:Int)+1)=((pre++[x]).length:Int):=by rw[wrap_id (by omega) (by omega)];simp
    simp only[go_sem,w3,w4]
    refine hK (pre++[x],n+countF x (left - n) (depth+1)) _ ?_ ⟨by simp[h4],by simp only;omega,by simp only;omega,h6⟩
    simp only[go_sem]
   ·have hn:¬n<left:=of_decide_eq_false hb
    simp only[countL,if_neg hn] at h6
    simp only[go_sem]
    rw[h6]
  ·simp only[go_sem,List.length_nil,Int.natCast_zero]
end Go.Abs.Kon