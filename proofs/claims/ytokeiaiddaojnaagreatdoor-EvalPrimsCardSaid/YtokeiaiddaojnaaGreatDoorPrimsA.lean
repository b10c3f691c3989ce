/- Valid values: plain, of the program, of the reference. -/
import Derived.Test.YtokeiaiddaojnaaGreatDoorKonC
import Derived.Test.YtokeiaiddaojnaaGreatDoorGuardB
set_option linter.unusedSimpArgs false
set_option linter.unusedVariables false
namespace Go.Abs.Kon
open Go Go.Proofs Go.Abs
set_option maxRecDepth 100000
set_option maxHeartbeats 4000000
theorem rIsLabel_specL (s:ByteArray) (hs:s.size≤9223372036854775807):Spec Tryz.prog 166 [pp (.str s)] [] (.bool (labelF s)) []:=by
 refine wk (rv:=[.tmp 2]) ann166 29 Tryz.func166 ?_
 have hl:=size_bytes s
 have h0:labelF s=((bytesOf s).all (fun b=>ofF b.toNat != 0)&&(decide ((s.size:Int)≥1)&&decide ((s.size:Int)≤48))):=by
   rw[labelF,notEmpty_iff,le_cast,Bool.and_comm];rfl
 rw[h0]
 rw[bytesOf] at hl ⊢
 generalize hbs:s.data.toList=bs at hl ⊢
 generalize h1:(bs.all (fun b=>ofF b.toNat != 0)&&(decide ((s.size:Int)≥1)&&decide ((s.size:Int)≤48)))=res
 simp only[go_sem]
 refine aLoop_list (α:=UInt8) (β:=List UInt8) (fun rest pre=>⟨[(3,ii pre.length),(0,pp (.str s))],[],[]⟩)
   (fun rest pre=>bs=pre++rest∧(rest.all (fun b=>ofF b.toNat != 0)&&(decide ((s.size:Int)≥1)&&decide ((s.size:Int)≤48)))=res) ?_ ?_ bs [] _ ?_ ⟨rfl,h1⟩
 · rintro pre ⟨h4,h5⟩ K
   rw[List.append_nil] at h4
   subst h4
   rw[List.all_nil,Bool.true_and] at h5
   simp only[go_sem,hl,lt_false (Int.le_refl _)]
   rw[hl] at h5
   refine guardK_intro (fun hb=>?_) (fun hb=>?_)
   · rw[hb,Bool.true_and] at h5
     simp only[go_sem,hl]
     rw[h5]
   · rw[hb] at h5
     simp only[go_sem,hl]
     rw[←h5];rfl
 · rintro x rest pre ⟨h4,h5⟩ K hK
   have hx:bs[pre.length]? = some x:=by simp[h4]
   have hlt:(pre.length:Int)<bs.length:=by rw[h4];simp;omega
   have hll:bs.length=pre.length+(rest.length+1):=by rw[h4];simp
   simp only[go_sem,hl,hbs,decide_eq_true hlt,hx]
   refine aCall_intro (rInner_spec x.toNat) ?_
   have w4:IntKind.i64.wrap ((pre.length:Int)+1)=((pre++[x]).length:Int):=by rw[wrap_id (by omega) (by omega)];simp
   simp only[go_sem]
   have good:(ofF x.toNat != 0)=true→hK=hK:=fun _=>rfl
   have h46:((x.toNat:Int) != 46)=(ofF x.toNat != 5):=by
     rw[Bool.eq_iff_iff,bne_iff_ne,bne_iff_ne,ne_eq,ne_eq,ofF]
     (repeat' split)<;>omega
   refine guardK_intro (fun hb=>?_) (fun hb=>?_)
   · simp only[go_sem,hbs,hx,h46]
     refine condK_intro (fun hc=>?_) (fun hc=>?_)
     · have hb':(ofF x.toNat != 0)=false:=by rw[hc,Bool.and_true] at hb;simpa using hb
       simp only[List.all_cons,hb',Bool.false_and] at h5
       subst h5
       simp only[go_sem]
     · have hb':(ofF x.toNat != 0)=true:=by
         have:ofF x.toNat=5:=by simpa using hc
         rw[this];rfl
       simp only[List.all_cons,hb',Bool.true_and] at h5
       simp only[go_sem,w4]
       refine hK (pre++[x]) _ ?_ ⟨by simp[h4],h5⟩
       simp only[go_sem]
   · have hb':(ofF x.toNat != 0)=true:=by
       have:(ofF x.toNat != 0&&ofF x.toNat != 5)=true:=by simpa using hb
       exact (Bool.and_eq_true _ _ ▸ this).1
     simp only[List.all_cons,hb',Bool.true_and] at h5
     simp only[go_sem,w4]
     refine hK (pre++[x]) _ ?_ ⟨by simp[h4],h5⟩
     simp only[go_sem]
 · simp only[go_sem,List.length_nil,Int.natCast_zero]
end Go.Abs.Kon
namespace Go.Abs.Kon
open Go Go.Proofs Go.Abs
set_option maxRecDepth 100000
set_option maxHeartbeats 1000000
mutual
def ndV:ValT→Nat
 | .mk _ _ _ _ l=>1+ndVs l
def ndVs:List ValT→Nat
 | []=>0
 |x::r=>ndV x+ndVs r
end
theorem ndVs_mem {x:ValT}:∀{l:List ValT},x∈l→ndV x≤ndVs l
 | [],h=>absurd h (by simp)
 |y::r,h=>by
   rw[ndVs]
   rcases List.mem_cons.1 h with rfl|h
   · omega
   · have:=ndVs_mem h;omega
theorem ndVs_len:∀l:List ValT,l.length≤ndVs l
 | []=>by simp
 |y::r=>by rw[ndVs,List.length_cons];have:=ndVs_len r;cases y;rw[ndV];omega
def noS (s:ByteArray):Bool:=strEq s ByteArray.empty
def plainV (n:Int) (s:ByteArray) (names:List ByteArray) (a b c:Bool):Bool:=(a||n==0)&&((b||noS s)&&(c||(names.length:Int)==0))
def nodeV (op n:Int) (s:ByteArray) (names:List ByteArray) (len:Int):Bool:=
 if op=1 then plainV n s names true false false&&((len==0)&&(decide (n≥-4503599627370496)&&decide (n≤4503599627370496))) else
 if op=2 then plainV n s names false true false&&((len==0)&&decide ((s.size:Int)≤16384)) else
 if op=3 then (if ((names.length:Int)==0&&decide (len>0))=true then plainV n s names false false false&&decide (len≤1000) else plainV n s names false false true&&(labelsF names&&(len==(names.length:Int)))) else
 if op=4 then (if noS s=true then plainV n s names true false false&&((len==1)&&(decide (n≥0)&&decide (n≤1000))) else plainV n s names false true false&&((len==1)&&labelF s)) else
 if op=5 then plainV n s names false false false&&(len==1) else if op=6 then plainV n s names false false false&&(len==1) else
 if op=7 then plainV n s names false false false&&(len==0) else false
mutual
def nodesV:ValT→Bool
 | .mk op n s names l=>nodeV op n s names l.length&&nodesVs l
def nodesVs:List ValT→Bool
 | []=>true
 |x::r=>nodesV x&&nodesVs r
end
mutual
def rightV:ValT→Int→Int→Bool×Int
 | .mk op n s names l,m,d=>if m - 1<0 then (false,m - 1) else if d=0 then (false,m - 1) else if nodeV op n s names l.length=false then (false,m - 1) else (!(anyR l (m - 1) (d - 1)).1,(anyR l (m - 1) (d - 1)).2)
def anyR:List ValT→Int→Int→Bool×Int
 | [],m,_=>(false,m)
 |x::r,m,d=>if (!(rightV x m d).1)=true then (true,(rightV x m d).2) else anyR r (rightV x m d).2 d
end
def notR (d:Int) (v:ValT) (m:Int):Bool×Int:=(!(rightV v m d).1,(rightV v m d).2)
theorem anyR_eq:∀(l:List ValT) (m d:Int),anyR l m d=anyN (notR d) l m
 | [],m,d=>by rw[anyR,anyN]
 |x::r,m,d=>by rw[anyR,anyN,anyR_eq r];rfl
theorem notR_down (d:Int):∀(l:List ValT),Down (notR d) l:=by
 have:∀c:ValT,∀d n,0≤n→n≤1000000→(notR d c n).2≤n∧((notR d c n).1=false→0≤(notR d c n).2):=by
   refine ValT.ind1 fun op m s names l ih=>?_
   intro d n h0 h1
   simp only[notR]
   rw[rightV]
   split
   · simp;omega
   rename_i g0
   split
   · simp;omega
   split
   · simp;omega
   rw[anyR_eq]
   have:=anyN_down (notR (d - 1)) l (fun x hx n g0 g1=>ih x hx (d - 1) n g0 g1) (n - 1) (by omega) (by omega)
   simp only[Bool.not_not]
   exact ⟨by omega,this.2⟩
 exact fun l x _=>this x d
mutual
theorem right_nodes:∀(v:ValT) (m d:Int),(ndV v:Int)≤m→(ndV v:Int)≤d→(rightV v m d).1=nodesV v∧(nodesV v=true→(rightV v m d).2=m - ndV v)
 | .mk op n s names l,m,d,h1,h2=>by
   rw[ndV] at h1 h2
   rw[rightV,nodesV,if_neg (by omega),if_neg (by omega)]
   cases hn:nodeV op n s names l.length with
   |false=>rw[if_pos rfl];exact ⟨rfl,fun h=>by cases h⟩
   |true=>
     rw[if_neg (by decide)]
     obtain ⟨a1,a2⟩:=any_nodes l (m - 1) (d - 1) (by omega) (by omega)
     simp only
     rw[a1,Bool.true_and,Bool.not_not]
     refine ⟨rfl,fun h=>?_⟩
     rw[a2 h,ndV];omega
theorem any_nodes:∀(l:List ValT) (m d:Int),(ndVs l:Int)≤m→(ndVs l:Int)≤d→(anyR l m d).1=!nodesVs l∧(nodesVs l=true→(anyR l m d).2=m - ndVs l)
 | [],m,d,_,_=>by rw[anyR,nodesVs,ndVs];exact ⟨rfl,fun _=>by simp⟩
 |x::r,m,d,h1,h2=>by
   rw[ndVs] at h1 h2
   rw[anyR,nodesVs]
   obtain ⟨a1,a2⟩:=right_nodes x m d (by omega) (by omega)
   cases hx:nodesV x with
   |false=>rw[a1,hx,if_pos (show (!false)=true from rfl)];exact ⟨rfl,fun h=>by cases h⟩
   |true=>
     rw[a1,hx,if_neg (show ¬(!true)=true by decide),Bool.true_and,a2 hx]
     obtain ⟨b1,b2⟩:=any_nodes r (m - ndV x) d (by omega) (by omega)
     refine ⟨b1,fun h=>?_⟩
     rw[b2 h,ndVs];omega
end
mutual
def fewV:ValT→Int→Bool×Int
 | .mk _ _ s names l,n=>if n - 1<0 then (false,n - 1) else if (names.length:Int)>20 then (false,n - 1) else if (decide ((s.size:Int)≤300)||(decide ((s.size:Int)≥16379)&&decide ((s.size:Int)≤16389)))=false then (false,n - 1) else
   (!(anyW l (n - 1)).1,(anyW l (n - 1)).2)
def anyW:List ValT→Int→Bool×Int
 | [],n=>(false,n)
 |x::r,n=>if (!(fewV x n).1)=true then (true,(fewV x n).2) else anyW r (fewV x n).2
end
def notW (v:ValT) (n:Int):Bool×Int:=(!(fewV v n).1,(fewV v n).2)
theorem anyW_eq:∀(l:List ValT) (n:Int),anyW l n=anyN notW l n
 | [],n=>by rw[anyW,anyN]
 |x::r,n=>by rw[anyW,anyN,anyW_eq r];rfl
theorem notW_down:∀(l:List ValT),Down notW l:=by
 have:∀c:ValT,∀n,0≤n→n≤1000000→(notW c n).2≤n∧((notW c n).1=false→0≤(notW c n).2):=by
   refine ValT.ind1 fun op m s names l ih=>?_
   intro n h0 h1
   simp only[notW]
   rw[fewV]
   split
   · simp;omega
   split
   · simp;omega
   split
   · simp;omega
   rw[anyW_eq]
   have:=anyN_down notW l (fun x hx n g0 g1=>ih x hx n g0 g1) (n - 1) (by omega) (by omega)
   simp only[Bool.not_not]
   exact ⟨by omega,this.2⟩
 exact fun l x _=>this x
/-! All texts in a value are such as memory allows. -/
mutual
def okW:ValT→Prop
 | .mk _ _ _ names l=>(∀x∈names,x.size≤9223372036854775807)∧okWs l
def okWs:List ValT→Prop
 | []=>True
 |x::r=>okW x∧okWs r
end
theorem okWs_mem:∀{l:List ValT},okWs l↔∀x∈l,okW x
 | []=>by simp[okWs]
 |x::r=>by simp[okWs,okWs_mem (l:=r)]
mutual
theorem fewV_nd:∀(c:ValT) (n:Int),0≤n→n≤1000→(fewV c n).1=true→(ndV c:Int)+(fewV c n).2≤n∧0≤(fewV c n).2
 | .mk op m s names l,n,h0,h1,h=>by
   rw[fewV] at h ⊢
   split at h
   · cases h
   rename_i g1
   rw[if_neg g1]
   split at h
   · cases h
   rename_i g2
   rw[if_neg g2]
   split at h
   · cases h
   rename_i g3
   rw[if_neg g3]
   obtain ⟨a1,a2⟩:=anyW_nd l (n - 1) (by omega) (by omega) (by simpa using h)
   rw[ndV]
   exact ⟨by simp only;omega,a2⟩
theorem anyW_nd:∀(l:List ValT) (n:Int),0≤n→n≤1000→(anyW l n).1=false→(ndVs l:Int)+(anyW l n).2≤n∧0≤(anyW l n).2
 | [],n,h0,_,_=>by rw[anyW,ndVs];simp[h0]
 |x::r,n,h0,h1,h=>by
   rw[anyW] at h ⊢
   split at h
   · cases h
   · rename_i g
     rw[if_neg g]
     have g':(fewV x n).1=true:=by simpa using g
     obtain ⟨a1,a2⟩:=fewV_nd x n h0 h1 g'
     obtain ⟨b1,b2⟩:=anyW_nd r _ a2 (by omega) h
     rw[ndVs]
     exact ⟨by omega,b2⟩
end
/-! The texts and lists of a value are not long. -/
mutual
def sizedV:ValT→Prop
 | .mk _ _ s names l=>s.size≤16389∧names.length≤20∧sizedVs l
def sizedVs:List ValT→Prop
 | []=>True
 |x::r=>sizedV x∧sizedVs r
end
theorem sizedVs_mem:∀{l:List ValT},sizedVs l↔∀x∈l,sizedV x
 | []=>by simp[sizedVs]
 |x::r=>by simp[sizedVs,sizedVs_mem (l:=r)]
mutual
theorem fewV_sized:∀(c:ValT) (n:Int),(fewV c n).1=true→sizedV c
 | .mk op m s names l,n,h=>by
   rw[fewV] at h
   split at h
   · cases h
   split at h
   · cases h
   rename_i g2
   split at h
   · cases h
   rename_i g3
   rw[sizedV]
   simp only[Bool.not_eq_false,Bool.or_eq_true,Bool.and_eq_true,decide_eq_true_eq] at g3
   exact ⟨by omega,by omega,anyW_sized l (n - 1) (by simpa using h)⟩
theorem anyW_sized:∀(l:List ValT) (n:Int),(anyW l n).1=false→sizedVs l
 | [],n,_=>by rw[sizedVs];trivial
 |x::r,n,h=>by
   rw[anyW] at h
   split at h
   · cases h
   · rename_i g
     rw[sizedVs]
     exact ⟨fewV_sized x n (by simpa using g),anyW_sized r _ h⟩
end
/-! Operations -/
def valH (v:ValT):Th:=.mk v.op v.n v.s [] [] zeroT [] false
def obsH (v:Th):ValT:=match obsT v 20000 1 with
 | .inl _=>zeroV
 | .inr r=>r.1
def primO (k:Int) (l:List ValT):ValT×Int×Int:=
 if (opsP k).1=0 then (zeroV,0,2) else if l.any (fun v=>!nodesV v)=true then (zeroV,0,1) else
 if l.length≠(opsP k).1∨l.any (fun v=>v.op != (opsP k).2)=true then (zeroV,0,12) else
 match primP k ((l.map valH).head?.getD zeroH) (lastH (l.map valH)) with
 | .inl c=>(zeroV,c,0)
 | .inr v=>(obsH v,0,0)
theorem numP_obs {n:Int}{v:Th}(h:numP n=.inr v):∃r,obsT v 20000 1=.inr r:=by
 rw[numP] at h
 split at h
 · cases h
 · cases h;exact ⟨_,rfl⟩
theorem txtP_obs {s:ByteArray}{v:Th}(h:txtP s=.inr v):∃r,obsT v 20000 1=.inr r:=by
 rw[txtP] at h
 split at h
 · cases h
 · cases h;exact ⟨_,rfl⟩
theorem truthH_obs (b:Bool):∃r,obsT (truthH b) 20000 1=.inr r:=by cases b<;>exact ⟨_,rfl⟩
theorem mulP_or (a b:Int):mulP a b=.inl 2∨mulP a b=numP (a*b):=by
 rw[mulP]
 exact (Decidable.em _).elim (fun h=>.inl (if_pos h)) fun h=>.inr (if_neg h)
theorem numP_code {n c:Int}(h:numP n=.inl c):c=2:=by
 rw[numP] at h
 split at h<;>cases h
 rfl
theorem txtP_code {s:ByteArray}{c:Int}(h:txtP s=.inl c):c=2:=by
 rw[txtP] at h
 split at h<;>cases h
 rfl
theorem ite_P {α:Type}{P:α→Prop}{c:Prop} [Decidable c] {a b:α}(ha:P a) (hb:P b):P (if c then a else b):=by
 split
 · exact ha
 · exact hb
def goodP (r:Int ⊕ Th):Prop:=(∀v,r=.inr v→∃w,obsT v 20000 1=.inr w)∧∀c,r=.inl c→c≠0
theorem good_num (n:Int):goodP (numP n):=⟨fun _ h=>numP_obs h,fun _ h=>by rw[numP_code h];decide⟩
theorem good_txt (s:ByteArray):goodP (txtP s):=⟨fun _ h=>txtP_obs h,fun _ h=>by rw[txtP_code h];decide⟩
theorem good_inl {c:Int}(h:c≠0):goodP (.inl c):=⟨fun _ e=>(nomatch e),fun _ e=>by cases e;exact h⟩
theorem good_inr {v:Th}(h:∃w,obsT v 20000 1=.inr w):goodP (.inr v):=⟨fun _ e=>(by cases e;exact h),fun _ e=>nomatch e⟩
theorem good_mul (a b:Int):goodP (mulP a b):=(mulP_or a b).elim (fun e=>by rw[e];exact good_inl (by decide)) fun e=>by rw[e];exact good_num _
theorem primP_good (k:Int) (a b:Th):goodP (primP k a b):=by
 unfold primP
 exact ite_P (good_num _) (ite_P (good_num _) (ite_P (good_mul _ _) (ite_P (ite_P (good_inl (by decide)) (good_num _)) (ite_P (ite_P (good_inl (by decide)) (good_num _)) (ite_P (good_num _)
   (ite_P (good_inr (truthH_obs _)) (ite_P (good_inr (truthH_obs _)) (ite_P (good_inr (truthH_obs _)) (ite_P (good_txt _) (ite_P (good_num _) (ite_P (good_inr (truthH_obs _)) (ite_P (good_txt _) (good_inr ⟨_,rfl⟩)))))))))))))
theorem primP_obs {k:Int}{a b v:Th}(h:primP k a b=.inr v):∃r,obsT v 20000 1=.inr r:=(primP_good k a b).1 v h
theorem valH_ok {v:ValT}(h:nodesV v=true) (ho:v.op=1∨v.op=2):okV (valH v):=by
 obtain ⟨op,n,s,names,l⟩:=v
 rw[nodesV,Bool.and_eq_true] at h
 have hn:=h.1
 have e0:noS s=true→s.size=0:=by
   intro e
   rw[noS,strEq,beq_iff_eq,ByteArray.toList_eq,ByteArray.toList_eq] at e
   have:=congrArg List.length e
   simpa using this
 show okN (.mk op n s [] [] zeroT [] false)∧s.size≤16384
 rcases ho with ho|ho
 · have:op=1:=ho
   subst this
   rw[nodeV,if_pos rfl] at hn
   simp only[plainV,Bool.and_eq_true,Bool.or_eq_true,decide_eq_true_eq,Bool.false_eq_true,false_or] at hn
   refine ⟨⟨hn.2.2.1,hn.2.2.2⟩,?_⟩
   have:=e0 hn.1.2.1
   omega
 · have:op=2:=ho
   subst this
   rw[nodeV,if_neg (by decide),if_pos rfl] at hn
   simp only[plainV,Bool.and_eq_true,Bool.or_eq_true,decide_eq_true_eq,Bool.false_eq_true,false_or,beq_iff_eq] at hn
   obtain ⟨⟨h1,_⟩,_,h2⟩:=hn
   subst h1
   exact ⟨⟨by show (-4503599627370496:Int)≤0;decide,by show (0:Int)≤4503599627370496;decide⟩,by omega⟩
end Go.Abs.Kon
namespace Go.Abs.Kon
open Go Go.Proofs Go.Abs
set_option maxRecDepth 100000
set_option maxHeartbeats 1000000
theorem vplain_spec (op n:Int) (s:ByteArray) (names:List ByteArray) (l:List ValT) (a b c:Bool):Spec Tryz.prog 159 [bb a,bb b,bb c,pp (.ep (encV (.mk op n s names l)) 0)] [] (.bool (plainV n s names a b c)) []:=by
 generalize hres:plainV n s names a b c=res
 rw[plainV,noS,strEq] at hres
 refine wk (rv:=[.tmp 7]) ann159 31 Tryz.func159 ?_
 cases a<;>cases b<;>cases c<;>simp only[go_sem,encV_mk,List.length_map]
 all_goals repeat' ((first|refine condK_intro (fun _=>?_) (fun _=>?_)|refine guardK_intro (fun _=>?_) (fun _=>?_))<;>simp only[go_sem,List.length_map])
 all_goals (subst hres;simp_all)
theorem vblock_spec (op n:Int) (s:ByteArray) (names:List ByteArray) (l:List ValT):Spec Tryz.prog 160 [pp (encV (.mk op n s names l))] [] (.bool (op==3&&((names.length:Int)==0&&decide ((l.length:Int)>0)))) []:=by
 refine wk (rv:=[.tmp 2]) ann160 18 Tryz.func160 ?_
 simp only[go_sem,encV_mk,List.length_map]
 repeat' ((first|refine condK_intro (fun _=>?_) (fun _=>?_)|refine guardK_intro (fun _=>?_) (fun _=>?_))<;>simp only[go_sem,List.length_map])
 all_goals simp_all
theorem vtagged_spec (op n:Int) (s:ByteArray) (names:List ByteArray) (l:List ValT):Spec Tryz.prog 162 [pp (encV (.mk op n s names l))] [] (.bool (op==4&&noS s)) []:=by
 rw[noS,strEq]
 refine wk (rv:=[.tmp 2]) ann162 11 Tryz.func162 ?_
 simp only[go_sem,encV_mk]
 repeat' ((first|refine condK_intro (fun _=>?_) (fun _=>?_)|refine guardK_intro (fun _=>?_) (fun _=>?_))<;>simp only[go_sem])
 all_goals simp_all
theorem vlabels1_spec (s:ByteArray):Spec Tryz.prog 188 [pp (.str s)] [] (.bool (!labelF s)) []:=by
 refine wk (rv:=[.tmp 2]) ann188 6 Tryz.func188 ?_
 simp only[go_sem]
 refine aCall_intro (IsLabel_spec s) ?_
 simp only[go_sem]
theorem vlabels_spec (names:List ByteArray):Spec Tryz.prog 161 [pp (.slice (names.map .str))] [] (.bool (labelsF names)) []:=by
 have hA:=Ascending_spec names
 have hN:Spec Tryz.prog 62 [pp (.slice (names.map .str)),pp (.fn 188 [])] [] (.bool (names.any fun x=>!labelF x)) []:=
   ContainsFuncS PV.str names 188 [] _ (fun e _=>rfl) fun x _=>vlabels1_spec x
 have ha:(names.any fun x=>!labelF x)=!names.all labelF:=by simp[List.all_eq_not_any_not]
 rw[ha] at hN
 generalize hres:labelsF names=res
 rw[labelsF] at hres
 generalize names.all labelF=b1 at hN hres
 generalize ascF names=b2 at hA hres
 refine wf (rv:=[.tmp 2]) ann161 15 Tryz.func161 fun hfit=>?_
 clear hfit ha
 simp only[go_sem,List.length_map]
 repeat' ((first|refine condK_intro (fun _=>?_) (fun _=>?_)|refine guardK_intro (fun _=>?_) (fun _=>?_)|refine aCall_intro hA ?_|refine aCall_intro hN ?_)<;>simp only[go_sem,List.length_map])
 all_goals (clear hA hN;subst hres;simp_all<;>(intros;omega))
theorem vnode_spec (op n:Int) (s:ByteArray) (names:List ByteArray) (l:List ValT):Spec Tryz.prog 126 [pp (encV (.mk op n s names l))] [] (.bool (nodeV op n s names l.length)) []:=by
 have hP:=vplain_spec op n s names l
 have hB:=vblock_spec op n s names l
 have hT:=vtagged_spec op n s names l
 have hL:=vlabels_spec names
 have hI:=IsLabel_spec s
 simp only[encV_mk] at hP hB hT
 generalize hres:nodeV op n s names l.length=res
 unfold nodeV at hres
 generalize plainV n s names=p at hP hres
 generalize labelF s=b1 at hI hres
 generalize labelsF names=b2 at hL hres
 generalize noS s=b3 at hT hres
 have f:∀m:Int,op≠m→(op==m)=false:=fun m h=>by simp[h]
 by_cases c1:op=1
 · subst c1
   simp only[Int.reduceEq,Int.reduceBEq,if_true,if_false,Bool.true_and] at hres hB hT
   refine wk (rv:=[.tmp 2]) ann126 127 Tryz.func126 ?_
   simp only[go_sem,encV_mk,List.length_map]
   repeat' (first | (refine aCall_intro (hP _ _ _) ?_;simp only[go_sem,List.length_map]) | (refine aCall_intro hB ?_;simp only[go_sem,List.length_map]) | (refine aCall_intro hT ?_;simp only[go_sem,List.length_map]) | (refine aCall_intro hL ?_;simp only[go_sem,List.length_map]) | (refine aCall_intro hI ?_;simp only[go_sem,List.length_map]) | (refine condK_intro (fun _=>?_) (fun _=>?_)<;>simp only[go_sem,List.length_map]) | (refine guardK_intro (fun _=>?_) (fun _=>?_)<;>simp only[go_sem,List.length_map]))
   all_goals (clear hP hB hT hL hI f;subst hres;simp_all<;>(intros;omega))
 by_cases c2:op=2
 · subst c2
   simp only[Int.reduceEq,Int.reduceBEq,if_true,if_false,Bool.true_and] at hres hB hT
   refine wk (rv:=[.tmp 2]) ann126 127 Tryz.func126 ?_
   simp only[go_sem,encV_mk,List.length_map]
   repeat' (first | (refine aCall_intro (hP _ _ _) ?_;simp only[go_sem,List.length_map]) | (refine aCall_intro hB ?_;simp only[go_sem,List.length_map]) | (refine aCall_intro hT ?_;simp only[go_sem,List.length_map]) | (refine aCall_intro hL ?_;simp only[go_sem,List.length_map]) | (refine aCall_intro hI ?_;simp only[go_sem,List.length_map]) | (refine condK_intro (fun _=>?_) (fun _=>?_)<;>simp only[go_sem,List.length_map]) | (refine guardK_intro (fun _=>?_) (fun _=>?_)<;>simp only[go_sem,List.length_map]))
   all_goals (clear hP hB hT hL hI f;subst hres;simp_all<;>(intros;omega))
 by_cases c3:op=3
 · subst c3
   simp only[Int.reduceEq,Int.reduceBEq,if_true,if_false,Bool.true_and] at hres hB hT
   refine wk (rv:=[.tmp 2]) ann126 127 Tryz.func126 ?_
   simp only[go_sem,encV_mk,List.length_map]
   repeat' (first | (refine aCall_intro (hP _ _ _) ?_;simp only[go_sem,List.length_map]) | (refine aCall_intro hB ?_;simp only[go_sem,List.length_map]) | (refine aCall_intro hT ?_;simp only[go_sem,List.length_map]) | (refine aCall_intro hL ?_;simp only[go_sem,List.length_map]) | (refine aCall_intro hI ?_;simp only[go_sem,List.length_map]) | (refine condK_intro (fun _=>?_) (fun _=>?_)<;>simp only[go_sem,List.length_map]) | (refine guardK_intro (fun _=>?_) (fun _=>?_)<;>simp only[go_sem,List.length_map]))
   all_goals (clear hP hB hT hL hI f;subst hres;simp_all<;>(intros;omega))
 by_cases c4:op=4
 · subst c4
   simp only[Int.reduceEq,Int.reduceBEq,if_true,if_false,Bool.true_and] at hres hB hT
   refine wk (rv:=[.tmp 2]) ann126 127 Tryz.func126 ?_
   simp only[go_sem,encV_mk,List.length_map]
   repeat' (first | (refine aCall_intro (hP _ _ _) ?_;simp only[go_sem,List.length_map]) | (refine aCall_intro hB ?_;simp only[go_sem,List.length_map]) | (refine aCall_intro hT ?_;simp only[go_sem,List.length_map]) | (refine aCall_intro hL ?_;simp only[go_sem,List.length_map]) | (refine aCall_intro hI ?_;simp only[go_sem,List.length_map]) | (refine condK_intro (fun _=>?_) (fun _=>?_)<;>simp only[go_sem,List.length_map]) | (refine guardK_intro (fun _=>?_) (fun _=>?_)<;>simp only[go_sem,List.length_map]))
   all_goals (clear hP hB hT hL hI f;subst hres;simp_all<;>(intros;omega))
 by_cases c5:op=5
 · subst c5
   simp only[Int.reduceEq,Int.reduceBEq,if_true,if_false,Bool.true_and] at hres hB hT
   refine wk (rv:=[.tmp 2]) ann126 127 Tryz.func126 ?_
   simp only[go_sem,encV_mk,List.length_map]
   repeat' (first | (refine aCall_intro (hP _ _ _) ?_;simp only[go_sem,List.length_map]) | (refine aCall_intro hB ?_;simp only[go_sem,List.length_map]) | (refine aCall_intro hT ?_;simp only[go_sem,List.length_map]) | (refine aCall_intro hL ?_;simp only[go_sem,List.length_map]) | (refine aCall_intro hI ?_;simp only[go_sem,List.length_map]) | (refine condK_intro (fun _=>?_) (fun _=>?_)<;>simp only[go_sem,List.length_map]) | (refine guardK_intro (fun _=>?_) (fun _=>?_)<;>simp only[go_sem,List.length_map]))
   all_goals (clear hP hB hT hL hI f;subst hres;simp_all<;>(intros;omega))
 by_cases c6:op=6
 · subst c6
   simp only[Int.reduceEq,Int.reduceBEq,if_true,if_false,Bool.true_and] at hres hB hT
   refine wk (rv:=[.tmp 2]) ann126 127 Tryz.func126 ?_
   simp only[go_sem,encV_mk,List.length_map]
   repeat' (first | (refine aCall_intro (hP _ _ _) ?_;simp only[go_sem,List.length_map]) | (refine aCall_intro hB ?_;simp only[go_sem,List.length_map]) | (refine aCall_intro hT ?_;simp only[go_sem,List.length_map]) | (refine aCall_intro hL ?_;simp only[go_sem,List.length_map]) | (refine aCall_intro hI ?_;simp only[go_sem,List.length_map]) | (refine condK_intro (fun _=>?_) (fun _=>?_)<;>simp only[go_sem,List.length_map]) | (refine guardK_intro (fun _=>?_) (fun _=>?_)<;>simp only[go_sem,List.length_map]))
   all_goals (clear hP hB hT hL hI f;subst hres;simp_all<;>(intros;omega))
 by_cases c7:op=7
 · subst c7
   simp only[Int.reduceEq,Int.reduceBEq,if_true,if_false,Bool.true_and] at hres hB hT
   refine wk (rv:=[.tmp 2]) ann126 127 Tryz.func126 ?_
   simp only[go_sem,encV_mk,List.length_map]
   repeat' (first | (refine aCall_intro (hP _ _ _) ?_;simp only[go_sem,List.length_map]) | (refine aCall_intro hB ?_;simp only[go_sem,List.length_map]) | (refine aCall_intro hT ?_;simp only[go_sem,List.length_map]) | (refine aCall_intro hL ?_;simp only[go_sem,List.length_map]) | (refine aCall_intro hI ?_;simp only[go_sem,List.length_map]) | (refine condK_intro (fun _=>?_) (fun _=>?_)<;>simp only[go_sem,List.length_map]) | (refine guardK_intro (fun _=>?_) (fun _=>?_)<;>simp only[go_sem,List.length_map]))
   all_goals (clear hP hB hT hL hI f;subst hres;simp_all<;>(intros;omega))
 · simp only[c1,c2,c3,c4,c5,c6,c7,if_false] at hres
   subst hres
   refine wk (rv:=[.tmp 2]) ann126 127 Tryz.func126 ?_
   simp only[go_sem,encV_mk,f 1 c1,f 2 c2,f 3 c3,f 4 c4,f 5 c5,f 6 c6,f 7 c7]
theorem IdxR (l:List ValT) (d:Int) (h:∀x∈l,∀n,0≤n→n≤1000000→Spec Tryz.prog 127 [pp (encV x),.one (.ptr (.ref 0) 0),pp (.ep (.int .i64 (d+1)) 0)] [rB 1,iB n] (.bool (notR d x n).1) [rB 1,iB (notR d x n).2]) (n:Int) (h0:0≤n) (h1:n≤1000000) :
   Spec Tryz.prog 47 [pp (.slice (l.map encV)),.one (.fn 127 [.ptr (.ref 0) 0,.pv (.ep (.int .i64 (d+1)) 0)])] [rB 1,iB n] (.int .i64 (findN (notR d) l n 0).1) [rB 1,iB (findN (notR d) l n 0).2]:=by
 refine wf (rv:=[.tmp 4]) ann47 19 Tryz.func47 fun hfit=>?_
 have hlen:l.length≤9223372036854775807:=by
   simp only[argsFit,SV.pv?,SC.pv?,PV.fit,maxLen_eq,List.length_map] at hfit
   exact hfit.1.1
 clear hfit
 generalize hr:findN (notR d) l n 0=res
 obtain ⟨r1,r2⟩:=res
 simp only[rB,iB]
 simp only[go_sem,List.length_map]
 refine aLoop_list (α:=ValT) (β:=List ValT×Int) (fun rest b=>⟨[(8,ii b.1.length),(0,pp (.slice (l.map encV))),(1,.one (.fn 127 [.ptr (.ref 0) 0,.pv (.ep (.int .i64 (d+1)) 0)])),(7,ii l.length)],[(.ref 0,rB 1),(.ref 1,iB b.2)],[]⟩) (fun rest b=>l=b.1++rest∧findN (notR d) rest b.2 b.1.length=(r1,r2)∧0≤b.2∧b.2≤1000000) ?_ ?_ l ([],n) _ ?_ ⟨rfl,hr,h0,h1⟩
 · rintro ⟨pre,m⟩ ⟨h4,h5,_,_⟩ K
   rw[List.append_nil] at h4
   simp only[findN,Prod.mk.injEq] at h5
   obtain ⟨rfl,rfl⟩:=h5
   simp only[go_sem,h4,lt_false (Int.le_refl _),rB,iB]
 · rintro x rest ⟨pre,m⟩ ⟨h4,h5,h6,h7⟩ K hK
   simp only at h4 h5 h6 h7
   have hx:(l.map encV)[pre.length]? = some (encV x):=by simp[h4]
   have hlt:(pre.length:Int)<l.length:=by rw[h4];simp;omega
   have hm:x∈l:=by simp[h4]
   have hS:=h x hm m h6 h7
   have hD:=notR_down d l x hm m h6 h7
   simp only[rB,iB] at hS
   simp only[go_sem,decide_eq_true hlt,hx,rB,iB]
   refine aCall_intro hS ?_
   simp only[go_sem]
   simp only[findN] at h5
   generalize notR d x m=s at hD h5 hS ⊢
   obtain ⟨s1,s2⟩:=s
   cases s1 with
   |true=>
     simp only[↓reduceIte,Prod.mk.injEq] at h5
     obtain ⟨rfl,rfl⟩:=h5
     simp only[go_sem]
   |false=>
     have w4:IntKind.i64.wrap ((pre.length:Int)+1)=((pre++[x]).length:Int):=by rw[wrap_id (by omega) (by omega)];simp
     simp only[go_sem,w4]
     refine hK (pre++[x],s2) _ ?_ ⟨by simp[h4],by simpa using h5,hD.2 rfl,by have:=hD.1;simp only at this;omega⟩
     simp only[go_sem,rB,iB]
 · simp only[go_sem,List.length_nil,Int.natCast_zero,rB,iB]
theorem IdxRC (l:List ValT) (d:Int) (h:∀x∈l,∀n,0≤n→n≤1000000→Spec Tryz.prog 127 [pp (encV x),.one (.ptr (.ref 0) 0),pp (.ep (.int .i64 (d+1)) 0)] [rB 1,iB n] (.bool (notR d x n).1) [rB 1,iB (notR d x n).2]) (n:Int) (h0:0≤n) (h1:n≤1000000) :
   Spec Tryz.prog 19 [pp (.slice (l.map encV)),.one (.fn 127 [.ptr (.ref 0) 0,.pv (.ep (.int .i64 (d+1)) 0)])] [rB 1,iB n] (.bool (anyN (notR d) l n).1) [rB 1,iB (anyN (notR d) l n).2]:=by
 have hI:=IdxR l d h n h0 h1
 obtain ⟨e1,e2⟩:=findN_any (notR d) l n 0
 rw[e1] at hI
 rw[←e2]
 refine wk (rv:=[.tmp 4]) ann19 9 Tryz.func19 ?_
 simp only[rB,iB] at hI ⊢
 simp only[go_sem]
 refine aCall_intro hI ?_
 simp only[go_sem]
def annVR:Ann:=⟨[3,5],[],ann89.live,ann89.head⟩
@[go_sem] theorem annVR_imm:annVR.imm=[3,5]:=rfl
@[go_sem] theorem annVR_frz:annVR.frz=[]:=rfl
@[go_sem] theorem annVR_live:annVR.live=ann89.live:=rfl
@[go_sem] theorem annVR_head:annVR.head=ann89.head:=rfl
theorem right_spec:∀(c:ValT) (n d:Int),0≤n→n≤1000000→0≤d→d≤1000→Spec Tryz.prog 89 [pp (encV c),.one (.ptr (.ref 0) 0),ii d] [iB n] (.bool (rightV c n d).1) [iB (rightV c n d).2]:=by
 refine ValT.ind1 fun op m s names l ih=>?_
 intro n d h0 h1 q0 q1
 have hN:=vnode_spec op m s names l
 rw[encV_mk] at hN
 have w1:IntKind.i64.wrap (n - 1)=n - 1:=wrap_id (by omega) (by omega)
 rw[encV_mk,rightV]
 by_cases c1:n - 1<0
 · rw[if_pos c1]
   refine wk (rv:=[.tmp 6]) annVR 30 Tryz.func89 ?_
   simp only[iB]
   simp only[go_sem,w1,decide_eq_true c1]
 rw[if_neg c1]
 have f1:=decide_eq_false c1
 by_cases c2:d=0
 · rw[if_pos c2]
   subst c2
   refine wk (rv:=[.tmp 6]) annVR 30 Tryz.func89 ?_
   simp only[iB]
   simp only[go_sem,w1,f1]
 rw[if_neg c2]
 have f2:(d==0)=false:=by rw[beq_eq_false_iff_ne];exact c2
 cases c3:nodeV op m s names l.length with
 |false=>
   rw[c3] at hN
   rw[if_pos rfl]
   refine wk (rv:=[.tmp 6]) annVR 30 Tryz.func89 ?_
   simp only[iB]
   simp only[go_sem,w1,f1,f2]
   refine aCall_intro hN ?_
   simp only[go_sem]
 |true=>
   rw[c3] at hN
   rw[if_neg (by decide),anyR_eq]
   have w2:IntKind.i64.wrap (d - 1)=d - 1:=wrap_id (by omega) (by omega)
   have e:d - 1+1=d:=by omega
   have hC:=IdxRC l (d - 1) (fun x hx n g0 g1=>by
     have hF:=ih x hx n (d - 1) g0 g1 (by omega) (by omega)
     simp only[iB] at hF
     generalize hN:notR (d - 1) x n=s
     obtain ⟨s1,s2⟩:=s
     simp only[notR,Prod.mk.injEq] at hN
     obtain ⟨rfl,rfl⟩:=hN
     rw[e]
     refine wk (rv:=[.tmp 4]) ann127 11 Tryz.func127 ?_
     simp only[rB,iB]
     simp only[go_sem,w2]
     refine aCall_intro hF ?_
     simp only[go_sem]) (n - 1) (by omega) (by omega)
   rw[e] at hC
   simp only[rB,iB] at hC
   refine wk (rv:=[.tmp 6]) annVR 30 Tryz.func89 ?_
   simp only[iB]
   simp only[go_sem,w1,f1,f2]
   refine aCall_intro hN ?_
   simp only[go_sem]
   refine aCall_intro hC ?_
   simp only[go_sem]
theorem Valid14_spec (v:ValT) (h:ndV v≤400):Spec Tryz.prog 50 [pp (encV v)] [] (.bool (nodesV v)) []:=by
 have hR:=right_spec v 20000 400 (by decide) (by decide) (by decide) (by decide)
 obtain ⟨e,_⟩:=right_nodes v 20000 400 (by omega) (by omega)
 rw[e] at hR
 simp only[iB] at hR
 refine wk (rv:=[.tmp 2]) ann50 6 Tryz.func50 ?_
 simp only[go_sem]
 refine aCall_intro hR ?_
 simp only[go_sem]
end Go.Abs.Kon
namespace Go.Abs.Kon
open Go Go.Proofs Go.Abs
set_option maxRecDepth 100000
set_option maxHeartbeats 1000000
theorem vcount_spec:∀(v:ValT) (left d:Int),(ndV v:Int)≤left→left≤20000→(ndV v:Int)≤d→d≤1000→Spec Tryz.prog 96 [pp (encV v),ii left,ii d] [] (.int .i64 (left - ndV v)) []:=by
 refine ValT.ind1 fun op n s names l ih=>?_
 intro left d h1 h2 h3 h4
 rw[ndV] at h1 h3
 generalize hR:left - ((ndV (.mk op n s names l):Nat):Int)=R
 rw[ndV] at hR
 have d1:decide (left≤0)=false:=decide_eq_false (by omega)
 have d2:decide (d≤0)=false:=decide_eq_false (by omega)
 have w1:IntKind.i64.wrap (left - 1)=left - 1:=wrapI (by omega) (by omega)
 have w2:IntKind.i64.wrap (d - 1)=d - 1:=wrapI (by omega) (by omega)
 have hln:=ndVs_len l
 refine wk (rv:=[.tmp 6]) ann96 36 Tryz.func96 ?_
 simp only[go_sem,d1,d2,w1]
 refine aLoop_list (α:=ValT) (β:=Nat×Int) (fun rest b=>⟨[(7,ii b.1),(2,ii d),(1,ii b.2),(3,pp (.ep (encV (.mk op n s names l)) 0))],[],[]⟩)
   (fun rest b=>(∃pre,l=pre++rest∧b.1=pre.length)∧(ndVs rest:Int)≤b.2∧b.2≤20000∧b.2 - ndVs rest=R) ?_ ?_ l (0,left - 1) _ ?_ ⟨⟨[],rfl,rfl⟩,by simp only;omega,by simp only;omega,by simp only;omega⟩
 · rintro ⟨m,lf⟩ ⟨⟨pre,g1,g2⟩,g3,g4,g5⟩ K
   simp only[List.append_nil] at g1 g2 g3 g4 g5
   subst g1
   have e:lf=R:=by rw[ndVs] at g5;omega
   subst e
   simp only[go_sem,encV_mk,g2,lt_false (Int.le_refl _),List.length_map]
 · rintro x rest ⟨m,lf⟩ ⟨⟨pre,g1,g2⟩,g3,g4,g5⟩ K hK
   simp only at g2 g3 g4 g5
   rw[ndVs] at g3 g5
   have hx:(l.map encV)[m]? = some (encV x):=by simp[g1,g2]
   have hlt:decide ((m:Int)<(l.length:Int))=true:=decide_eq_true (by rw[g1,g2];simp;omega)
   have hll:m<l.length:=by rw[g1,g2];simp
   have hm:x∈l:=by simp[g1]
   have hnd:=ndVs_mem hm
   have w4:IntKind.i64.wrap ((m:Int)+1)=((m+1:Nat):Int):=by rw[wrapI (by omega) (by omega)];simp
   have hI:=ih x hm lf (d - 1) (by omega) (by omega) (by omega) (by omega)
   have d3:decide (lf - (ndV x:Int)<0)=false:=decide_eq_false (by omega)
   simp only[go_sem,encV_mk,hlt,hx,List.length_map,w2]
   refine aCall_intro hI ?_
   simp only[go_sem,d3,w4]
   refine hK (m+1,lf - ndV x) _ ?_ ⟨⟨pre++[x],by simp[g1],by simp[g2]⟩,by simp only;omega,by simp only;omega,by simp only;omega⟩
   simp only[go_sem,encV_mk]
 · simp only[go_sem,encV_mk,Int.natCast_zero]
def lessO:Option ByteArray→ByteArray→Bool
 |none,_=>true
 |some y,x=>ltS y x
theorem lessO_none (x:ByteArray):lessO none x=true:=rfl
theorem lessO_some (x y:ByteArray):lessO (some y) x=ltS y x:=rfl
def labW (a:Option ByteArray):List ByteArray→Bool
 | []=>true
 |x::r=>labelF x&&(lessO a x&&labW (some x) r)
theorem labW_from (a:ByteArray):∀l:List ByteArray,labW (some a) l=(l.all labelF&&ascF.ascFrom a l)
 | []=>rfl
 |x::r=>by
   rw[labW,labW_from x r,List.all_cons,ascF.ascFrom,lessO_some]
   cases labelF x<;>cases ltS a x<;>cases r.all labelF<;>rfl
theorem labW_eq (l:List ByteArray):labW none l=(l.all labelF&&ascF l):=by
 cases l with
 |nil=>rfl
 |cons x r=>
   rw[labW,labW_from,List.all_cons,ascF]
   simp only[lessO_none,Bool.true_and,Bool.and_assoc]
theorem Labels_spec (l:List ByteArray) (hs:∀x∈l,x.size≤9223372036854775807):Spec Tryz.prog 165 [pp (.slice (l.map .str))] [] (.bool (labelsF l)) []:=by
 have e:labelsF l=(labW none l&&decide ((l.length:Int)≤1000)):=by
   rw[labelsF,labW_eq]
   cases l.all labelF<;>cases ascF l<;>simp
 rw[e]
 generalize hR:(labW none l&&decide ((l.length:Int)≤1000))=R
 refine wf (rv:=[.tmp 2]) ann165 35 Tryz.func165 fun hfit=>?_
 have hlen:l.length≤9223372036854775807:=by
   simp only[argsFit,SV.pv?,SC.pv?,PV.fit,maxLen_eq,List.length_map] at hfit
   exact hfit.1.1
 clear hfit
 simp only[go_sem]
 refine aLoop_list (α:=ByteArray) (β:=List ByteArray) (fun rest pre=>⟨[(3,ii pre.length),(0,pp (.slice (l.map .str)))],[],[]⟩)
   (fun rest pre=>l=pre++rest∧(labW pre.getLast? rest&&decide ((l.length:Int)≤1000))=R) ?_ ?_ l [] _ ?_ ⟨rfl,hR⟩
 · rintro pre ⟨g1,g2⟩ K
   rw[List.append_nil] at g1
   subst g1
   rw[labW,Bool.true_and] at g2
   subst g2
   simp only[go_sem,lt_false (Int.le_refl _),List.length_map]
 · rintro x rest pre ⟨g1,g2⟩ K hK
   have hx:(l.map PV.str)[pre.length]? = some (.str x):=by simp[g1]
   have hlt:decide ((pre.length:Int)<(l.length:Int))=true:=decide_eq_true (by rw[g1];simp;omega)
   have hll:pre.length<l.length:=by rw[g1];simp
   have hL:=rIsLabel_specL x (hs x (by simp[g1]))
   have w4:IntKind.i64.wrap ((pre.length:Int)+1)=((pre++[x]).length:Int):=by rw[wrapI (by omega) (by omega)];simp
   rw[labW] at g2
   have eN:(pre++[x]).getLast? = some x:=by simp
   cases hl:labelF x with
   |false=>
     rw[hl] at hL g2
     simp only[Bool.false_and] at g2
     subst g2
     simp only[go_sem,hlt,hx,List.length_map]
     refine aCall_intro hL ?_
     simp only[go_sem]
   |true=>
     rw[hl,Bool.true_and] at g2
     rw[hl] at hL
     rcases List.eq_nil_or_concat pre with hp|⟨q,y,hp⟩
     · subst hp
       have d00:decide ((0:Int)>0)=false:=by decide
       have w00:IntKind.i64.wrap ((0:Int)+1)=1:=by decide
       simp only[List.getLast?_nil,lessO_none,Bool.true_and] at g2
       simp only[List.length_nil] at hx hlt w4
       simp only[go_sem,hlt,hx,List.length_map,List.length_nil]
       refine aCall_intro hL ?_
       simp only[go_sem,List.length_nil,Int.natCast_zero,d00,w4]
       refine hK [x] _ ?_ ⟨by simp[g1],g2⟩
       simp only[go_sem,w00,List.length_cons,List.length_nil]<;>rfl
     · rw[List.concat_eq_append] at hp
       have hpl:pre.length=q.length+1:=by rw[hp];simp
       have hy:(l.map PV.str)[q.length]? = some (.str y):=by rw[g1,hp];simp
       have hg:decide ((pre.length:Int)>0)=true:=decide_eq_true (by omega)
       have wm:IntKind.i64.wrap ((pre.length:Int) - 1)=(q.length:Int):=by rw[hpl,wrapI (by omega) (by omega)];omega
       have eL:pre.getLast? = some y:=by rw[hp];simp
       rw[eL,lessO_some] at g2
       simp only[go_sem,hlt,hx,List.length_map]
       refine aCall_intro hL ?_
       simp only[go_sem,hg,wm,hx,hy]
       cases hls:ltS y x with
       |false=>
         have hls':Op.bytesLess y.toList x.toList=false:=hls
         rw[hls] at g2
         simp only[Bool.false_and] at g2
         subst g2
         simp only[go_sem,hls']
       |true=>
         have hls':Op.bytesLess y.toList x.toList=true:=hls
         rw[hls,Bool.true_and] at g2
         simp only[go_sem,hls',w4]
         refine hK (pre++[x]) _ ?_ ⟨by simp[g1],by rw[eN];exact g2⟩
         simp only[go_sem]
 · simp only[go_sem,List.length_nil,Int.natCast_zero]
theorem label_empty:labelF ByteArray.empty=false:=by decide +kernel
theorem noS_eq {s:ByteArray}(h:noS s=true):s=ByteArray.empty:=by
 rw[noS,strEq,beq_iff_eq,ByteArray.toList_eq,ByteArray.toList_eq] at h
 obtain ⟨⟨s⟩⟩:=s
 have:s=[]:=h
 rw[this];rfl
theorem labelsF_nil:labelsF []=true:=by decide +kernel
theorem labelsF_len {names:List ByteArray}(h:labelsF names=true):names.length≤1000:=by
 rw[labelsF,Bool.and_eq_true,Bool.and_eq_true,decide_eq_true_eq] at h
 omega
theorem rvnode_spec (op n:Int) (s:ByteArray) (names:List ByteArray) (l:List ValT) (hs:∀x∈names,x.size≤9223372036854775807) (hnl:names.length≤1000000) (hll:l.length≤1000000) (hsz:s.size≤1000000) :
   Spec Tryz.prog 129 [pp (encV (.mk op n s names l))] [] (.bool (nodeV op n s names l.length)) []:=by
 have hL:=Labels_spec names hs
 have hI:=rIsLabel_specL s (by omega)
 have hI0:noS s=true→labelF s=false:=fun h=>by rw[noS_eq h];exact label_empty
 have hL0:((names.length:Int)==0)=true→labelsF names=true:=fun h=>by
   have:names=[]:=List.eq_nil_of_length_eq_zero (by have:=eq_of_beq h;omega)
   rw[this];exact labelsF_nil
 have hL1:labelsF names=true→(names.length:Int)≤1000:=fun h=>by have:=labelsF_len h;omega
 have wz:IntKind.i64.wrap ((names.length:Int)+(l.length:Int))=(names.length:Int)+(l.length:Int):=wrapI (by omega) (by omega)
 have ez:((names.length:Int)+(l.length:Int)==0)=(((names.length:Int)==0)&&((l.length:Int)==0)):=by
   rw[Bool.eq_iff_iff,Bool.and_eq_true,beq_iff_eq,beq_iff_eq,beq_iff_eq];omega
 have hnn:(0:Int)≤(names.length:Int):=Int.natCast_nonneg _
 have hln:(0:Int)≤(l.length:Int):=Int.natCast_nonneg _
 generalize hres:nodeV op n s names l.length=res
 unfold nodeV plainV at hres
 have hnoS:noS s=(s.toList==ByteArray.empty.toList):=rfl
 generalize labelF s=b1 at hI hres hI0
 generalize labelsF names=b2 at hL hres hL0 hL1
 generalize hb3:(s.toList==ByteArray.empty.toList)=b3 at hnoS
 rw[hnoS] at hres hI0
 have f:∀m:Int,op≠m→(op==m)=false:=fun m h=>by simp[h]
 have fn:(n != 0)=!(n==0):=rfl
 generalize hb4:(n==0)=b4 at fn hres
 generalize hb5:((names.length:Int)==0)=b5 at ez hres hL0
 have fg:decide ((names.length:Int)>0)=!b5:=by
   rw[←hb5,Bool.eq_iff_iff,decide_eq_true_iff,Bool.not_eq_true',beq_eq_false_iff_ne];omega
 by_cases c1:op=1
 · subst c1
   simp only[Int.reduceEq,if_true,if_false,Bool.true_or,Bool.false_or,Bool.true_and,decide_eq_true_eq] at hres
   refine wk (rv:=[.tmp 2]) ann129 162 Tryz.func129 ?_
   simp only[go_sem,encV_mk,List.length_map,fn,hb3,hb4,hb5,fg,wz,ez]
   cases b3<;>cases b4<;>cases b5<;>simp only[go_sem,List.length_map,hb3,hb4,hb5,fg,wz,ez]
   all_goals repeat' (first | (refine aCall_intro hL ?_;simp only[go_sem,List.length_map,hb5,fg,wz,ez]) | (refine aCall_intro hI ?_;simp only[go_sem,List.length_map,hb5,fg,wz,ez]) | (refine condK_intro (fun _=>?_) (fun _=>?_)<;>simp only[go_sem,List.length_map,hb5,fg,wz,ez]) | (refine guardK_intro (fun _=>?_) (fun _=>?_)<;>simp only[go_sem,List.length_map,hb5,fg,wz,ez]))
   all_goals (clear hL hI f fn wz ez fg hs;subst hres;simp_all<;>first|omega | (intro h;have:=hL1 h;omega) | (rw[Bool.eq_iff_iff,beq_iff_eq,beq_iff_eq];omega) | (rintro rfl;simp at *;done) | (cases l<;>simp))
 by_cases c2:op=2
 · subst c2
   simp only[Int.reduceEq,if_true,if_false,Bool.true_or,Bool.false_or,Bool.true_and,decide_eq_true_eq] at hres
   refine wk (rv:=[.tmp 2]) ann129 162 Tryz.func129 ?_
   simp only[go_sem,encV_mk,List.length_map,fn,hb3,hb4,hb5,fg,wz,ez]
   cases b3<;>cases b4<;>cases b5<;>simp only[go_sem,List.length_map,hb3,hb4,hb5,fg,wz,ez]
   all_goals repeat' (first | (refine aCall_intro hL ?_;simp only[go_sem,List.length_map,hb5,fg,wz,ez]) | (refine aCall_intro hI ?_;simp only[go_sem,List.length_map,hb5,fg,wz,ez]) | (refine condK_intro (fun _=>?_) (fun _=>?_)<;>simp only[go_sem,List.length_map,hb5,fg,wz,ez]) | (refine guardK_intro (fun _=>?_) (fun _=>?_)<;>simp only[go_sem,List.length_map,hb5,fg,wz,ez]))
   all_goals (clear hL hI f fn wz ez fg hs;subst hres;simp_all<;>first|omega | (intro h;have:=hL1 h;omega) | (rw[Bool.eq_iff_iff,beq_iff_eq,beq_iff_eq];omega) | (rintro rfl;simp at *;done) | (cases l<;>simp))
 by_cases c3:op=3
 · subst c3
   simp only[Int.reduceEq,if_true,if_false,Bool.true_or,Bool.false_or,Bool.true_and,decide_eq_true_eq] at hres
   refine wk (rv:=[.tmp 2]) ann129 162 Tryz.func129 ?_
   simp only[go_sem,encV_mk,List.length_map,fn,hb3,hb4,hb5,fg,wz,ez]
   cases b3<;>cases b4<;>cases b5<;>simp only[go_sem,List.length_map,hb3,hb4,hb5,fg,wz,ez]
   all_goals repeat' (first | (refine aCall_intro hL ?_;simp only[go_sem,List.length_map,hb5,fg,wz,ez]) | (refine aCall_intro hI ?_;simp only[go_sem,List.length_map,hb5,fg,wz,ez]) | (refine condK_intro (fun _=>?_) (fun _=>?_)<;>simp only[go_sem,List.length_map,hb5,fg,wz,ez]) | (refine guardK_intro (fun _=>?_) (fun _=>?_)<;>simp only[go_sem,List.length_map,hb5,fg,wz,ez]))
   all_goals (clear hL hI f fn wz ez fg hs;subst hres;simp_all<;>first|omega | (intro h;have:=hL1 h;omega) | (rw[Bool.eq_iff_iff,beq_iff_eq,beq_iff_eq];omega) | (rintro rfl;simp at *;done) | (cases l<;>simp))
 by_cases c4:op=4
 · subst c4
   simp only[Int.reduceEq,if_true,if_false,Bool.true_or,Bool.false_or,Bool.true_and,decide_eq_true_eq] at hres
   refine wk (rv:=[.tmp 2]) ann129 162 Tryz.func129 ?_
   simp only[go_sem,encV_mk,List.length_map,fn,hb3,hb4,hb5,fg,wz,ez]
   cases b3<;>cases b4<;>cases b5<;>simp only[go_sem,List.length_map,hb3,hb4,hb5,fg,wz,ez]
   all_goals repeat' (first | (refine aCall_intro hL ?_;simp only[go_sem,List.length_map,hb5,fg,wz,ez]) | (refine aCall_intro hI ?_;simp only[go_sem,List.length_map,hb5,fg,wz,ez]) | (refine condK_intro (fun _=>?_) (fun _=>?_)<;>simp only[go_sem,List.length_map,hb5,fg,wz,ez]) | (refine guardK_intro (fun _=>?_) (fun _=>?_)<;>simp only[go_sem,List.length_map,hb5,fg,wz,ez]))
   all_goals (clear hL hI f fn wz ez fg hs;subst hres;simp_all<;>first|omega | (intro h;have:=hL1 h;omega) | (rw[Bool.eq_iff_iff,beq_iff_eq,beq_iff_eq];omega) | (rintro rfl;simp at *;done) | (cases l<;>simp))
 by_cases c5:op=5
 · subst c5
   simp only[Int.reduceEq,if_true,if_false,Bool.true_or,Bool.false_or,Bool.true_and,decide_eq_true_eq] at hres
   refine wk (rv:=[.tmp 2]) ann129 162 Tryz.func129 ?_
   simp only[go_sem,encV_mk,List.length_map,fn,hb3,hb4,hb5,fg,wz,ez]
   cases b3<;>cases b4<;>cases b5<;>simp only[go_sem,List.length_map,hb3,hb4,hb5,fg,wz,ez]
   all_goals repeat' (first | (refine aCall_intro hL ?_;simp only[go_sem,List.length_map,hb5,fg,wz,ez]) | (refine aCall_intro hI ?_;simp only[go_sem,List.length_map,hb5,fg,wz,ez]) | (refine condK_intro (fun _=>?_) (fun _=>?_)<;>simp only[go_sem,List.length_map,hb5,fg,wz,ez]) | (refine guardK_intro (fun _=>?_) (fun _=>?_)<;>simp only[go_sem,List.length_map,hb5,fg,wz,ez]))
   all_goals (clear hL hI f fn wz ez fg hs;subst hres;simp_all<;>first|omega | (intro h;have:=hL1 h;omega) | (rw[Bool.eq_iff_iff,beq_iff_eq,beq_iff_eq];omega) | (rintro rfl;simp at *;done) | (cases l<;>simp))
 by_cases c6:op=6
 · subst c6
   simp only[Int.reduceEq,if_true,if_false,Bool.true_or,Bool.false_or,Bool.true_and,decide_eq_true_eq] at hres
   refine wk (rv:=[.tmp 2]) ann129 162 Tryz.func129 ?_
   simp only[go_sem,encV_mk,List.length_map,fn,hb3,hb4,hb5,fg,wz,ez]
   cases b3<;>cases b4<;>cases b5<;>simp only[go_sem,List.length_map,hb3,hb4,hb5,fg,wz,ez]
   all_goals repeat' (first | (refine aCall_intro hL ?_;simp only[go_sem,List.length_map,hb5,fg,wz,ez]) | (refine aCall_intro hI ?_;simp only[go_sem,List.length_map,hb5,fg,wz,ez]) | (refine condK_intro (fun _=>?_) (fun _=>?_)<;>simp only[go_sem,List.length_map,hb5,fg,wz,ez]) | (refine guardK_intro (fun _=>?_) (fun _=>?_)<;>simp only[go_sem,List.length_map,hb5,fg,wz,ez]))
   all_goals (clear hL hI f fn wz ez fg hs;subst hres;simp_all<;>first|omega | (intro h;have:=hL1 h;omega) | (rw[Bool.eq_iff_iff,beq_iff_eq,beq_iff_eq];omega) | (rintro rfl;simp at *;done) | (cases l<;>simp))
 by_cases c7:op=7
 · subst c7
   simp only[Int.reduceEq,if_true,if_false,Bool.true_or,Bool.false_or,Bool.true_and,decide_eq_true_eq] at hres
   refine wk (rv:=[.tmp 2]) ann129 162 Tryz.func129 ?_
   simp only[go_sem,encV_mk,List.length_map,fn,hb3,hb4,hb5,fg,wz,ez]
   cases b3<;>cases b4<;>cases b5<;>simp only[go_sem,List.length_map,hb3,hb4,hb5,fg,wz,ez]
   all_goals repeat' (first | (refine aCall_intro hL ?_;simp only[go_sem,List.length_map,hb5,fg,wz,ez]) | (refine aCall_intro hI ?_;simp only[go_sem,List.length_map,hb5,fg,wz,ez]) | (refine condK_intro (fun _=>?_) (fun _=>?_)<;>simp only[go_sem,List.length_map,hb5,fg,wz,ez]) | (refine guardK_intro (fun _=>?_) (fun _=>?_)<;>simp only[go_sem,List.length_map,hb5,fg,wz,ez]))
   all_goals (clear hL hI f fn wz ez fg hs;subst hres;simp_all<;>first|omega | (intro h;have:=hL1 h;omega) | (rw[Bool.eq_iff_iff,beq_iff_eq,beq_iff_eq];omega) | (rintro rfl;simp at *;done) | (cases l<;>simp))
 have e0:res=false:=by rw[←hres];simp only[c1,c2,c3,c4,c5,c6,c7,if_false]
 subst e0
 refine wk (rv:=[.tmp 2]) ann129 162 Tryz.func129 ?_
 simp only[go_sem,encV_mk,List.length_map,fn,hb3,hb4,hb5,f 1 c1,f 2 c2,f 3 c3,f 4 c4,f 5 c5,f 6 c6,f 7 c7]
theorem rvnodes_spec:∀(v:ValT),okW v→ndV v≤1000→sizedV v→Spec Tryz.prog 97 [pp (encV v)] [] (.bool (nodesV v)) []:=by
 refine ValT.ind1 fun op n s names l ih=>?_
 intro hok hn hsz
 rw[okW] at hok
 rw[sizedV] at hsz
 rw[ndV] at hn
 have hln:=ndVs_len l
 have hN:=rvnode_spec op n s names l hok.1 (by omega) (by omega) (by omega)
 rw[encV_mk] at hN
 rw[nodesV]
 cases hb:nodeV op n s names l.length with
 |false=>
   rw[hb] at hN
   rw[Bool.false_and,encV_mk]
   refine wk (rv:=[.tmp 2]) ann97 21 Tryz.func97 ?_
   simp only[go_sem]
   refine aCall_intro hN ?_
   simp only[go_sem]
 |true=>
   rw[hb] at hN
   rw[Bool.true_and]
   generalize hR:nodesVs l=R
   refine wk (rv:=[.tmp 2]) ann97 21 Tryz.func97 ?_
   simp only[go_sem,encV_mk]
   refine aCall_intro hN ?_
   simp only[go_sem]
   refine aLoop_list (α:=ValT) (β:=Nat) (fun rest b=>⟨[(3,ii b),(1,pp (.ep (encV (.mk op n s names l)) 0))],[],[]⟩)
     (fun rest b=>(∃pre,l=pre++rest∧b=pre.length)∧nodesVs rest=R) ?_ ?_ l 0 _ ?_ ⟨⟨[],rfl,rfl⟩,hR⟩
   · rintro m ⟨⟨pre,g1,g2⟩,g3⟩ K
     simp only[List.append_nil] at g1
     subst g1
     rw[nodesVs] at g3
     subst g3
     simp only[go_sem,encV_mk,g2,lt_false (Int.le_refl _),List.length_map]
   · rintro x rest m ⟨⟨pre,g1,g2⟩,g3⟩ K hK
     have hx:(l.map encV)[m]? = some (encV x):=by simp[g1,g2]
     have hlt:decide ((m:Int)<(l.length:Int))=true:=decide_eq_true (by rw[g1,g2];simp;omega)
     have hll:m<l.length:=by rw[g1,g2];simp
     have hm:x∈l:=by simp[g1]
     have hnd:=ndVs_mem hm
     have w4:IntKind.i64.wrap ((m:Int)+1)=((m+1:Nat):Int):=by rw[wrapI (by omega) (by omega)];simp
     have hI:=ih x hm (okWs_mem.1 hok.2 x hm) (by omega) (sizedVs_mem.1 hsz.2.2 x hm)
     rw[nodesVs] at g3
     cases hv:nodesV x with
     |false=>
       rw[hv,Bool.false_and] at g3
       rw[hv] at hI
       subst g3
       simp only[go_sem,encV_mk,hlt,hx,List.length_map]
       refine aCall_intro hI ?_
       simp only[go_sem]
     |true=>
       rw[hv,Bool.true_and] at g3
       rw[hv] at hI
       simp only[go_sem,encV_mk,hlt,hx,List.length_map]
       refine aCall_intro hI ?_
       simp only[go_sem,w4]
       refine hK (m+1) _ ?_ ⟨⟨pre++[x],by simp[g1],by simp[g2]⟩,g3⟩
       simp only[go_sem,encV_mk]
   · simp only[go_sem,encV_mk,Int.natCast_zero]
theorem rValid14_spec (v:ValT) (hok:okW v) (hsz:sizedV v) (hn:ndV v≤400):Spec Tryz.prog 54 [pp (encV v)] [] (.bool (nodesV v)) []:=by
 have hC:=vcount_spec v 20000 400 (by omega) (by omega) (by omega) (by omega)
 have hN:=rvnodes_spec v hok (by omega) hsz
 have d:decide (20000 - (ndV v:Int)≥0)=true:=decide_eq_true (by omega)
 refine wk (rv:=[.tmp 2]) ann54 10 Tryz.func54 ?_
 simp only[go_sem,encV_sz]
 refine aCall_intro hC ?_
 simp only[go_sem,encV_sz,d]
 refine aCall_intro hN ?_
 simp only[go_sem]
end Go.Abs.Kon
