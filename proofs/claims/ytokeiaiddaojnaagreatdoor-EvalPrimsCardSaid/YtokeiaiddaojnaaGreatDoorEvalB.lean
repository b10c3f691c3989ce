/- Evaluation: operations; what is invariant. -/
import Derived.Test.YtokeiaiddaojnaaGreatDoorEvalA
import Derived.Test.YtokeiaiddaojnaaGreatDoorStepX
set_option linter.unusedSimpArgs false
set_option linter.unusedVariables false
namespace Go.Abs.Kon
open Go Go.Proofs Go.Abs
set_option maxRecDepth 100000
set_option maxHeartbeats 4000000
attribute [go_sem] Int.reduceBEq Int.reduceNeg Int.reduceBNe Int.toNat_natCast Int.natCast_nonneg
theorem SpecR.walkE {P:Program}{f:FuncId}{fn:Func}{c:Code}{rv:List ResultVar}{args:List SV}{b:Box}{r:Ev}{F t:Nat}(A:Ann) (n:Nat) (hf:P.funcs[f]? = some fn) (hm:P.follows .mixedOrders=true) (hb:fn.body=some c) (hr:fn.results.toList=rv)
   (hk:fnChk fn n args.length c=true) (h:argsFit args→AWp P A c (Go.Abs.finT P rv (encEv F 0 r)) (start args [b])):SpecR P f args [b] (encEv F t r):=by
 cases r with
 |ok v st out=>exact SpecR.walkT (res:=encEv F 0 (.ok v st out)) t A n hf hm hb hr hk rfl rfl rfl h
 |bad op m st out=>exact SpecR.walkT (res:=encEv F 0 (.bad op m st out)) t A n hf hm hb hr hk rfl rfl rfl h
theorem wE {f:FuncId}{fn:Func}{c:Code}{rv:List ResultVar}{args:List SV}{b:Box}{r:Ev}{F t:Nat}(A:Ann) (n:Nat) (hf:Tryz.prog.funcs[f]? = some fn) (h:AWp Tryz.prog A c (Go.Abs.finT Tryz.prog rv (encEv F 0 r)) (start args [b])) (hb:fn.body=some c:=by exact rfl) (hr:fn.results.toList=rv:=by exact rfl) (hk:fnChk fn n args.length c=true:=by kernel_rfl):SpecR Tryz.prog f args [b] (encEv F t r):=
 SpecR.walkE A n hf mixed hb hr hk fun _=>h
theorem SpecR.run_in {P:Program}{f:FuncId}{args:List SV}{F st:Nat}{out:List ByteArray}{res:Res}(t:Nat) (ha:args.flatMap svToks=[]) (h:SpecR P f args [runB 0 F st out] res):SpecR P f args [runB t F st out] res:=
 SpecR.tok_in (refs:=[runB 0 F st out]) (t1:=0) t rfl rfl ha h
theorem IndexFuncH {α:Type}(enc:α→PV) (l:List α) (f:FuncId) (caps:List PV) (p:α→Bool) (hes:∀e∈l,PV.hasSz (.one) (enc e)=true) (hp:PredOn enc f caps p l):Spec Tryz.prog 144 [pp (.slice (l.map enc)),pp (.fn f caps)] [] (.int .i64 (findP p l 0)) []:=by
 refine wf (rv:=[.tmp 4]) ann144 19 Tryz.func144 fun hfit=>?_
 have hlen:l.length≤9223372036854775807:=by
   simp only[argsFit,SV.pv?,SC.pv?,PV.fit,maxLen_eq,List.length_map] at hfit
   exact hfit.1.1
 clear hfit
 generalize h0:findP p l 0=res
 simp only[go_sem,List.length_map]
 refine aLoop_list (α:=α) (β:=List α) (fun rest pre=>⟨[(8,ii pre.length),(0,pp (.slice (l.map enc))),(1,pp (.fn f caps)),(7,ii l.length)],[],[]⟩) (fun rest pre=>l=pre++rest∧findP p rest pre.length=res) ?_ ?_ l [] _ ?_ ⟨rfl,h0⟩
 · rintro pre ⟨h4,h5⟩ K
   rw[List.append_nil] at h4
   simp only[go_sem,h4,lt_false (Int.le_refl _)]
   simp only[findP] at h5
   rw[h5]
 · rintro x rest pre ⟨h4,h5⟩ K hK
   have hx:(l.map enc)[pre.length]? = some (enc x):=by simp[h4]
   have hlt:(pre.length:Int)<l.length:=by rw[h4];simp;omega
   have hm:x∈l:=by simp[h4]
   simp only[go_sem,decide_eq_true hlt,hx,hes x hm]
   refine aCall_intro (hp x hm) ?_
   simp only[go_sem]
   refine condK_intro (fun hb=>?_) (fun hb=>?_)
   · simp only[findP,hb,if_true] at h5
     simp only[go_sem,h5]
   · have w4:IntKind.i64.wrap ((pre.length:Int)+1)=((pre++[x]).length:Int):=by rw[wrap_id (by omega) (by omega)];simp
     simp only[findP,hb,Bool.false_eq_true,if_false] at h5
     simp only[go_sem,w4]
     refine hK (pre++[x]) _ ?_ ⟨by simp[h4],by simpa using h5⟩
     simp only[go_sem]
 · simp only[go_sem,List.length_nil,Int.natCast_zero]
/-! -/
theorem ContainsFuncH {α:Type}(enc:α→PV) (es:List α) (f:FuncId) (caps:List PV) (p:α→Bool) (hes:∀e∈es,PV.hasSz (.one) (enc e)=true) (hp:PredOn enc f caps p es):Spec Tryz.prog 117 [pp (.slice (es.map enc)),pp (.fn f caps)] [] (.bool (es.any p)) []:=by
 refine wk (rv:=[.tmp 4]) ann117 9 Tryz.func117 ?_
 simp only[go_sem]
 refine aCall_intro (IndexFuncH enc es f caps p hes hp) ?_
 have:decide (findP p es 0≥0)=es.any p:=by
   rw[Bool.eq_iff_iff,decide_eq_true_iff];exact findP_ge p es 0
 simp only[go_sem,this]
theorem kinds_spec (l:List Th) (k:Int):Spec Tryz.prog 117 [pp (.slice (l.map encH)),pp (.fn 118 [.ep (.int .i64 k) 0])] [] (.bool (l.any fun v=>v.op != k)) []:=
 ContainsFuncH encH l _ _ (fun v=>v.op != k) (fun e _=>encH_sz e) fun v _=>kind_spec v k
def okV (v:Th):Prop:=okN v∧v.s.size≤16384
theorem prim_spec (k:Int) (h1:1≤k) (h2:k≤14) (l:List Th) (hl:l.length=(opsP k).1) (hv:∀v∈l,okV v):SpecR Tryz.prog 53 [ii k,pp (.slice (l.map encH))] [] (encP (primP k (l.head?.getD zeroH) (lastH l))):=by
 have hk:k=1∨k=2∨k=3∨k=4∨k=5∨k=6∨k=7∨k=8∨k=9∨k=10∨k=11∨k=12∨k=13∨k=14:=by omega
 have two:∀{k},(opsP k).1=2→l.length=(opsP k).1→∃a b,l=[a,b]:=by
   intro k e hl
   rw[e] at hl
   match l,hl with
   | [a,b],_=>exact ⟨a,b,rfl⟩
 have one:∀{k},(opsP k).1=1→l.length=(opsP k).1→∃a,l=[a]:=by
   intro k e hl
   rw[e] at hl
   match l,hl with
   | [a],_=>exact ⟨a,rfl⟩
 rcases hk with rfl|rfl|rfl|rfl|rfl|rfl|rfl|rfl|rfl|rfl|rfl|rfl|rfl|rfl
 · obtain ⟨a,b,rfl⟩:=two rfl hl;exact prim_1 a b (hv a (by simp)).1 (hv b (by simp)).1
 · obtain ⟨a,b,rfl⟩:=two rfl hl;exact prim_2 a b (hv a (by simp)).1 (hv b (by simp)).1
 · obtain ⟨a,b,rfl⟩:=two rfl hl;exact prim_3 a b (hv a (by simp)).1 (hv b (by simp)).1
 · obtain ⟨a,b,rfl⟩:=two rfl hl;exact prim_4 a b (hv a (by simp)).1 (hv b (by simp)).1
 · obtain ⟨a,b,rfl⟩:=two rfl hl;exact prim_5 a b (hv a (by simp)).1 (hv b (by simp)).1
 · obtain ⟨a,rfl⟩:=one rfl hl;exact prim_6 a (hv a (by simp)).1
 · obtain ⟨a,b,rfl⟩:=two rfl hl;exact prim_7 a b
 · obtain ⟨a,b,rfl⟩:=two rfl hl;exact prim_8 a b
 · obtain ⟨a,b,rfl⟩:=two rfl hl;exact prim_9 a b
 · obtain ⟨a,b,rfl⟩:=two rfl hl;exact prim_10 a b (hv a (by simp)).2 (hv b (by simp)).2
 · obtain ⟨a,rfl⟩:=one rfl hl;exact prim_11 a
 · obtain ⟨a,b,rfl⟩:=two rfl hl;exact prim_12 a b
 · obtain ⟨a,rfl⟩:=one rfl hl;exact prim_13 a (hv a (by simp)).1
 · obtain ⟨a,rfl⟩:=one rfl hl;exact prim_14 a
def annRP:Ann:=⟨ann74.imm,[15],ann74.live,ann74.head⟩
@[go_sem] theorem annRP_imm:annRP.imm=ann74.imm:=rfl
@[go_sem] theorem annRP_frz:annRP.frz=[15]:=rfl
@[go_sem] theorem annRP_live:annRP.live=ann74.live:=rfl
@[go_sem] theorem annRP_head:annRP.head=ann74.head:=rfl
theorem opsP_kind {k:Int}(h1:1≤k) (h2:k≤14):(opsP k).2=kindP k:=by
 have hk:k=1∨k=2∨k=3∨k=4∨k=5∨k=6∨k=7∨k=8∨k=9∨k=10∨k=11∨k=12∨k=13∨k=14:=by omega
 rcases hk with rfl|rfl|rfl|rfl|rfl|rfl|rfl|rfl|rfl|rfl|rfl|rfl|rfl|rfl<;>rfl
theorem strs_len (l:List ByteArray):(strs l).length=l.length:=List.length_map ..
theorem strs_nil:strs []=[]:=rfl
theorem strs_cons (s:ByteArray) (l:List ByteArray):strs (s::l)=.str s::strs l:=rfl
theorem strs_app (l:List ByteArray) (s:ByteArray):strs l++[.str s]=strs (l++[s]):=by simp[strs]
theorem rprim_spec (t F st:Nat) (out:List ByteArray) (k:Int) (l:List Th) (h1:1≤k) (h2:k≤14) (hl:l.length=(opsP k).1) (hv:∀v∈l,l.any (fun v=>v.op != kindP k)=false→okV v) (ho:out.length≤1000) :
   SpecR Tryz.prog 74 [.one (.ptr (.ref 0) 0),ii k,pp (.slice (l.map encH))] [runB t F st out] (encEv F t (primE k l st out)):=by
 refine SpecR.run_in t rfl ?_
 rw[primE]
 by_cases hb:l.any (fun v=>v.op != kindP k)=true
 · rw[if_pos hb]
   refine wE (rv:=[.tmp 6]) annRP 46 Tryz.func74 ?_
   simp only[go_sem,runB]
   refine aCall_intro (operands_spec k) ?_
   simp only[go_sem]
   rw[opsP_kind h1 h2]
   refine aCall_intro (kinds_spec l (kindP k)) ?_
   rw[hb]
   simp only[go_sem]
   refine aCall_pan stuck_bad ?_
   simp only[go_sem,encEv,runB,finT_def]
   exact ⟨_,rfl⟩
 · rw[if_neg hb]
   have hb':l.any (fun v=>v.op != kindP k)=false:=by simpa using hb
   have hv':∀v∈l,okV v:=fun v hx=>hv v hx hb'
   by_cases h14:k=14
   · subst h14
     rw[if_pos rfl]
     obtain ⟨a,rfl⟩:∃a,l=[a]:=by
       match l,hl with
       | [a],_=>exact ⟨a,rfl⟩
     by_cases hlen:out.length=1000
     · rw[if_pos hlen]
       refine wE (rv:=[.tmp 6]) annRP 46 Tryz.func74 ?_
       have d1:((out.length:Int)==1000)=true:=by rw[hlen];rfl
       simp only[go_sem,runB]
       refine aCall_intro (operands_spec 14) ?_
       simp only[go_sem]
       rw[opsP_kind h1 h2]
       refine aCall_intro (kinds_spec [a] (kindP 14)) ?_
       rw[hb']
       simp only[go_sem]
       refine aCall_intro stuck_ok ?_
       simp only[go_sem,strs_len,d1]
       refine aCall_pan (failed_spec 2) ?_
       simp only[go_sem,encEv,runB,finT_def]
       exact ⟨_,rfl⟩
     · rw[if_neg hlen]
       refine wE (rv:=[.tmp 6]) annRP 46 Tryz.func74 ?_
       have d1:((out.length:Int)==1000)=false:=by rw[beq_eq_false_iff_ne];omega
       have e0:(1≤maxLen)=True:=by rw[maxLen_eq];simp
       have hp:encP (primP 14 a a)=.ret (encH unitH) []:=rfl
       have hs:=prim_14 a
       rw[hp] at hs
       cases out with
       |nil=>
         simp only[go_sem,runB,strs_nil]
         refine aCall_intro (operands_spec 14) ?_
         simp only[go_sem]
         rw[opsP_kind h1 h2]
         refine aCall_intro (kinds_spec [a] (kindP 14)) ?_
         rw[hb']
         simp only[go_sem]
         refine aCall_intro stuck_ok ?_
         have d1':(((0:Nat):Int)==1000)=false:=rfl
         simp only[go_sem,strs_len,d1',e0]
         refine ⟨by kernel_rfl,?_⟩
         refine aCall_intro hs ?_
         simp only[go_sem,encEv,runB,finT_def,strs_cons,strs_nil,List.head?_cons,Option.getD_some]
         exact ⟨_,rfl⟩
       |cons x r=>
         have e1:((r.length+1+1)*16≤140737488355328)=True:=by simp at ho ⊢;omega
         have e2:(r.length+1+1≤maxLen)=True:=by rw[maxLen_eq];simp at ho ⊢;omega
         simp only[List.length_cons] at d1
         simp only[go_sem,runB,strs_cons]
         refine aCall_intro (operands_spec 14) ?_
         simp only[go_sem]
         rw[opsP_kind h1 h2]
         refine aCall_intro (kinds_spec [a] (kindP 14)) ?_
         rw[hb']
         simp only[go_sem]
         refine aCall_intro stuck_ok ?_
         simp only[go_sem,strs_len,d1,e1,e2]
         refine ⟨by kernel_rfl,?_⟩
         refine aCall_intro hs ?_
         simp only[go_sem,encEv,runB,finT_def,strs_cons,strs_app,List.head?_cons,Option.getD_some]
         exact ⟨_,rfl⟩
   · rw[if_neg h14]
     have hs:=prim_spec k h1 h2 l hl hv'
     have d0:(k==14)=false:=by rw[beq_eq_false_iff_ne];exact h14
     generalize primP k (l.head?.getD zeroH) (lastH l)=r at hs
     cases r with
     |inl e=>
       rw[endP]
       refine wE (rv:=[.tmp 6]) annRP 46 Tryz.func74 ?_
       simp only[go_sem,runB]
       refine aCall_intro (operands_spec k) ?_
       simp only[go_sem]
       rw[opsP_kind h1 h2]
       refine aCall_intro (kinds_spec l (kindP k)) ?_
       rw[hb']
       simp only[go_sem]
       refine aCall_intro stuck_ok ?_
       simp only[go_sem,d0]
       refine aCall_pan hs ?_
       simp only[go_sem,encEv,runB,finT_def]
       exact ⟨_,rfl⟩
     |inr v=>
       rw[endP]
       refine wE (rv:=[.tmp 6]) annRP 46 Tryz.func74 ?_
       simp only[go_sem,runB]
       refine aCall_intro (operands_spec k) ?_
       simp only[go_sem]
       rw[opsP_kind h1 h2]
       refine aCall_intro (kinds_spec l (kindP k)) ?_
       rw[hb']
       simp only[go_sem]
       refine aCall_intro stuck_ok ?_
       simp only[go_sem,d0]
       refine aCall_intro hs ?_
       simp only[go_sem,encEv,runB,finT_def]
       exact ⟨_,rfl⟩
mutual
def scT:TermT→Int→Prop
 | .mk op n _ _ _ _ _ l,w=>(op=1→n<w)∧scL op l 0 w
def scL (op:Int):List TermT→Nat→Int→Prop
 | [],_,_=>True
 |x::r,i,w=>scT x (w+insT op i)∧scL op r (i+1) w
end
mutual
theorem cl_sc:∀(t:TermT) (u w:Int),clTm t u w→scT t w
 | .mk op n s con to k names l,u,w,h=>by
   rw[clTm] at h
   rw[scT]
   exact ⟨h.2.2.1,cl_scL op l 0 u w h.2.2.2⟩
theorem cl_scL (op:Int):∀(l:List TermT) (i:Nat) (u w:Int),clTs op l i u w→scL op l i w
 | [],_,_,_,_=>by rw[scL];trivial
 |x::r,i,u,w,h=>by
   rw[clTs] at h
   rw[scL]
   exact ⟨cl_sc x _ _ h.1,cl_scL op r (i+1) u w h.2⟩
end
mutual
def okH:Th→Prop
 | .mk op n s names l part env fix=>(-4503599627370496≤n∧n≤4503599627370496)∧(op=1∨op=2→s.size≤16384)∧(op=3→names.length=l.length)∧(op=4∨op=5∨op=6→l.length=1) ∧
   (op=7→(part.op=4∨part.op=6)∧wfT part=true∧scT part ((env.length:Int)+if fix=true then 1 else 0))∧okHs l∧okHs env∧names.length≤1000000
def okHs:List Th→Prop
 | []=>True
 |x::r=>okH x∧okHs r
end
theorem okHs_mem:∀{l:List Th},okHs l↔∀x∈l,okH x
 | []=>by simp[okHs]
 |x::r=>by simp[okHs,okHs_mem (l:=r)]
theorem okH_def (v:Th):okH v↔(-4503599627370496≤v.n∧v.n≤4503599627370496)∧(v.op=1∨v.op=2→v.s.size≤16384)∧(v.op=3→v.names.length=v.l.length)∧(v.op=4∨v.op=5∨v.op=6→v.l.length=1) ∧
   (v.op=7→(v.part.op=4∨v.part.op=6)∧wfT v.part=true∧scT v.part (v.envOf.length))∧okHs v.l∧okHs v.env∧v.names.length≤1000000:=by
 cases v with
 |mk op n s names l part env fix=>
   rw[okH]
   have e:((Th.envOf (.mk op n s names l part env fix)).length:Int)=(env.length:Int)+if fix=true then 1 else 0:=by
     cases fix<;>simp[Th.envOf,Th.fix,Th.env]
   rw[e]
   exact Iff.rfl
theorem okH_env {v:Th}(h:okH v):okHs v.envOf:=by
 have h':=(okH_def v).1 h
 unfold Th.envOf
 split
 · exact ⟨h,h'.2.2.2.2.2.2.1⟩
 · exact h'.2.2.2.2.2.2.1
def evOK (t:TermT) (env:List Th):Prop:=wfT t=true∧scT t env.length∧okHs env
def evI (F:Nat) (st:Nat):Ev→Prop
 | .ok v st' out'=>okH v∧st≤st'∧st'≤F∧out'.length≤1000
 | .bad op _ st' out'=>op≠0∧st≤st'∧st'≤F∧out'.length≤1000
theorem evI_mono {F st st':Nat}{r:Ev}(h:st≤st') (hr:evI F st' r):evI F st r:=by
 cases r with
 |ok v s o=>exact ⟨hr.1,Nat.le_trans h hr.2.1,hr.2.2⟩
 |bad op n s o=>exact ⟨hr.1,Nat.le_trans h hr.2.1,hr.2.2⟩
theorem evI_then {F st:Nat}{r:Ev}{k:Th→Nat→List ByteArray→Ev}(hr:evI F st r) (hk:∀v st' out',okH v→st≤st'→st'≤F→out'.length≤1000→evI F st' (k v st' out')):evI F st (andThen r k):=by
 cases r with
 |ok v s o=>exact evI_mono hr.2.1 (hk v s o hr.1 hr.2.1 hr.2.2.1 hr.2.2.2)
 |bad op n s o=>exact hr
theorem wfL_nth {l:List TermT}(h:wfL l=true) {i:Nat}(hi:i<l.length):wfT (nthT l i)=true:=by
 rw[nthT,List.getD_eq_getElem?_getD,List.getElem?_eq_getElem hi]
 exact wfL_mem.1 h _ (List.getElem_mem hi)
theorem scL_nth {op:Int}:∀{l:List TermT}{i j:Nat}{w:Int},scL op l i w→j<l.length→scT (nthT l j) (w+insT op (i+j))
 | [],i,j,w,_,h=>by simp at h
 |x::r,i,0,w,h,_=>by rw[scL] at h;exact h.1
 |x::r,i,j+1,w,h,hj=>by
   rw[scL] at h
   have:=scL_nth h.2 (by simpa using hj)
   rw[show i+(j+1)=i+1+j by omega]
   exact this
theorem okH_nth {l:List Th}(h:okHs l) {i:Nat}(hi:i<l.length):okH (nthH l i):=by
 rw[nthH,List.getD_eq_getElem?_getD,List.getElem?_eq_getElem hi]
 exact okHs_mem.1 h _ (List.getElem_mem hi)
theorem okH_zero:okH zeroH:=by
 rw[zeroH,okH]
 exact ⟨⟨by decide,by decide⟩,fun e=>absurd e (by decide),fun e=>absurd e (by decide),fun e=>absurd e (by decide),fun e=>absurd e (by decide),trivial,trivial,Nat.zero_le _⟩
theorem okH_int {n:Int}(h1:-4503599627370496≤n) (h2:n≤4503599627370496):okH (intH n):=by
 rw[intH,okH];exact ⟨⟨h1,h2⟩,fun _=>Nat.zero_le _,fun e=>absurd e (by decide),fun e=>absurd e (by decide),fun e=>absurd e (by decide),trivial,trivial,Nat.zero_le _⟩
theorem okH_txt {s:ByteArray}(h:s.size≤16384):okH (txtH s):=by
 rw[txtH,okH];exact ⟨⟨by decide,by decide⟩,fun _=>h,fun e=>absurd e (by decide),fun e=>absurd e (by decide),fun e=>absurd e (by decide),trivial,trivial,Nat.zero_le _⟩
theorem okH_rec {names:List ByteArray}{l:List Th}(h:names.length=l.length) (hl:okHs l) (hn:names.length≤1000000):okH (recH names l):=by
 rw[recH,okH];exact ⟨⟨by decide,by decide⟩,fun e=>absurd e (by decide),fun _=>h,fun e=>absurd e (by decide),fun e=>absurd e (by decide),hl,trivial,hn⟩
theorem okH_inj {s:ByteArray}{v:Th}(h:okH v):okH (injH s v):=by
 rw[injH,okH];exact ⟨⟨by decide,by decide⟩,fun e=>absurd e (by decide),fun e=>absurd e (by decide),fun _=>rfl,fun e=>absurd e (by decide),⟨h,trivial⟩,trivial,Nat.zero_le _⟩
theorem okH_roll {v:Th}(h:okH v):okH (rollH v):=by
 rw[rollH,okH];exact ⟨⟨by decide,by decide⟩,fun e=>absurd e (by decide),fun e=>absurd e (by decide),fun _=>rfl,fun e=>absurd e (by decide),⟨h,trivial⟩,trivial,Nat.zero_le _⟩
theorem okH_pack {v:Th}(h:okH v):okH (packH v):=by
 rw[packH,okH];exact ⟨⟨by decide,by decide⟩,fun e=>absurd e (by decide),fun e=>absurd e (by decide),fun _=>rfl,fun e=>absurd e (by decide),⟨h,trivial⟩,trivial,Nat.zero_le _⟩
theorem okH_unit:okH unitH:=okH_rec rfl trivial (Nat.zero_le _)
theorem okH_truth (b:Bool):okH (truthH b):=okH_roll (okH_inj okH_unit)
theorem okH_clo {t:TermT}{env:List Th}(h:t.op=4∨t.op=6) (hw:wfT t=true) (hs:scT t env.length) (he:okHs env):okH (cloH t env):=by
 rw[cloH,okH];exact ⟨⟨by decide,by decide⟩,fun e=>absurd e (by decide),fun e=>absurd e (by decide),fun e=>absurd e (by decide),fun _=>⟨h,hw,by simpa using hs⟩,trivial,he,Nat.zero_le _⟩
theorem okH_fix {t:TermT}{env:List Th}(h:t.op=4∨t.op=6) (hw:wfT t=true) (hs:scT t ((env.length:Int)+1)) (he:okHs env):okH (fixH t env):=by
 rw[fixH,okH];exact ⟨⟨by decide,by decide⟩,fun e=>absurd e (by decide),fun e=>absurd e (by decide),fun e=>absurd e (by decide),fun _=>⟨h,hw,by simpa using hs⟩,trivial,he,Nat.zero_le _⟩
def okP:Int ⊕ Th→Prop
 | .inl _=>True
 | .inr v=>okH v
theorem okP_num (n:Int):okP (numP n):=by
 unfold numP
 split
 · trivial
 · rename_i h;exact okH_int (by omega) (by omega)
theorem okP_txt (s:ByteArray):okP (txtP s):=by
 unfold txtP
 split
 · trivial
 · rename_i h;exact okH_txt (by omega)
theorem okP_ite {c:Prop} [Decidable c] {x y:Int ⊕ Th}(h1:okP x) (h2:okP y):okP (if c then x else y):=by split<;>assumption
theorem okP_prim (k:Int) (a b:Th):okP (primP k a b):=by
 have hm:okP (mulP a.n b.n):=okP_ite trivial (okP_num _)
 exact okP_ite (okP_num _) (okP_ite (okP_num _) (okP_ite hm (okP_ite (okP_ite trivial (okP_num _)) (okP_ite (okP_ite trivial (okP_num _)) (okP_ite (okP_num _) (okP_ite (okH_truth _) (okP_ite (okH_truth _) (okP_ite (okH_truth _)
   (okP_ite (okP_txt _) (okP_ite (okP_num _) (okP_ite (okH_truth _) (okP_ite (okP_txt _) okH_unit))))))))))))
theorem evI_prim {F st:Nat}{k:Int}{l:List Th}{out:List ByteArray}(hs:st≤F) (ho:out.length≤1000):evI F st (primE k l st out):=by
 unfold primE
 split
 · exact ⟨by decide,Nat.le_refl _,hs,ho⟩
 · split
   · split
     · exact ⟨by decide,Nat.le_refl _,hs,ho⟩
     · exact ⟨okH_unit,Nat.le_refl _,hs,by simp;omega⟩
   · have:=okP_prim k (l.head?.getD zeroH) (lastH l)
     cases hp:primP k (l.head?.getD zeroH) (lastH l) with
     |inl n=>exact ⟨by decide,Nat.le_refl _,hs,ho⟩
     |inr v=>rw[hp] at this;exact ⟨this,Nat.le_refl _,hs,ho⟩
theorem okHs_app {l:List Th}{v:Th}(h:okHs l) (hv:okH v):okHs (l++[v]):=by
 rw[okHs_mem] at h ⊢
 intro x hx
 rcases List.mem_append.1 hx with hx|hx
 · exact h x hx
 · rw[List.mem_singleton] at hx;rw[hx];exact hv
theorem evI_evs {F:Nat}{f:TermT→Nat→List ByteArray→Ev}{k:List Th→Nat→List ByteArray→Ev}:∀(ts:List TermT) (acc:List Th) (st:Nat) (out:List ByteArray),
   (∀t∈ts,∀st' out,st≤st'→st'≤F→out.length≤1000→evI F st' (f t st' out))→(∀vs st out,vs.length=acc.length+ts.length→okHs vs→st≤F→out.length≤1000→evI F st (k vs st out))→okHs acc→st≤F→out.length≤1000→evI F st (evs f k ts acc st out)
 | [],acc,st,out,_,hk,ha,hs,ho=>hk acc st out (by simp) ha hs ho
 |t::ts,acc,st,out,hf,hk,ha,hs,ho=>by
   rw[evs]
   refine evI_then (hf t (by simp) st out (Nat.le_refl _) hs ho) fun v st' out' hv h1 h2 h3=>?_
   exact evI_evs ts (acc++[v]) st' out' (fun t ht s o h=>hf t (List.mem_cons_of_mem _ ht) s o (Nat.le_trans h1 h)) (fun vs st out hl=>hk vs st out (by simp at hl ⊢;omega)) (okHs_app ha hv) h2 h3
theorem wf_node {t:TermT}(h:wfT t=true):(1≤t.op∧t.op≤19)∧(t.l.length:Int)=partsT t.op t.n t.names.length∧numT t.op t.n=true∧textT t.op t.s=true∧wfL t.l=true:=by
 cases t with
 |mk op n s con to k names l=>
   rw[wfT,Bool.and_eq_true,nodeT] at h
   simp only[Bool.and_eq_true,decide_eq_true_iff] at h
   obtain ⟨⟨h1,h2,h3,h4,h5,_⟩,h6⟩:=h
   exact ⟨⟨h1,h2⟩,h4,h3,h5,h6⟩
theorem node_names {t:TermT}(h:wfT t=true):t.names.length≤1000000:=by
 cases t with
 |mk op n s con to k names l=>
   rw[wfT,Bool.and_eq_true,nodeT] at h
   simp only[Bool.and_eq_true] at h
   have h6:=h.1.2.2.2.2.2.1
   rw[namesT] at h6
   show names.length≤1000000
   split at h6
   · rw[decide_eq_true_iff] at h6;omega
   · split at h6
     · cases h6
     · rename_i h7;omega
theorem sc_def {t:TermT}{w:Int}(h:scT t w):(t.op=1→t.n<w)∧scL t.op t.l 0 w:=by
 cases t with
 |mk op n s con to k names l=>rw[scT] at h;exact h
theorem isFun_iff {v:Th}{op:Int}:isFun v op=true↔v.op=7∧v.part.op=op:=by
 rw[isFun,Bool.and_eq_true,beq_iff_eq,beq_iff_eq]
theorem body_ok {v:Th}(h:okH v) {op:Int}(hf:isFun v op=true) (ho:op=4∨op=6):v.part.l.length=1∧wfT (nthT v.part.l 0)=true∧scT (nthT v.part.l 0) (v.envOf.length+if op=4 then 1 else 0):=by
 obtain ⟨h1,h2⟩:=isFun_iff.1 hf
 obtain ⟨_,hw,hs⟩:=((okH_def v).1 h).2.2.2.2.1 h1
 obtain ⟨_,hl,_,_,hwl⟩:=wf_node hw
 have hl1:v.part.l.length=1:=by
   rw[h2] at hl
   rcases ho with rfl|rfl
   · have:partsT 4 v.part.n v.part.names.length=1:=rfl
     omega
   · have:partsT 6 v.part.n v.part.names.length=1:=rfl
     omega
 refine ⟨hl1,wfL_nth hwl (by omega),?_⟩
 have:=scL_nth (j:=0) (sc_def hs).2 (by omega)
 rw[h2] at this
 rcases ho with rfl|rfl
 · exact this
 · exact this
theorem parts_two {t:TermT}(h:wfT t=true) (ho:t.op=5∨t.op=9∨t.op=17):t.l.length=2:=by
 have:=(wf_node h).2.1
 rcases ho with e|e|e<;>rw[e] at this
 · have e2:partsT 5 t.n t.names.length=2:=rfl
   omega
 · have e2:partsT 9 t.n t.names.length=2:=rfl
   omega
 · have e2:partsT 17 t.n t.names.length=2:=rfl
   omega
theorem parts_one {t:TermT}(h:wfT t=true) (ho:t.op=4∨t.op=6∨t.op=7∨t.op=8∨t.op=11∨t.op=12∨t.op=14∨t.op=15∨t.op=16):t.l.length=1:=by
 have:=(wf_node h).2.1
 have e2:partsT t.op t.n t.names.length=1:=by
   unfold partsT
   rw[if_neg (by omega),if_pos ho]
 omega
theorem parts_case {t:TermT}(h:wfT t=true) (ho:t.op=13):t.l.length=t.names.length+1:=by
 have:=(wf_node h).2.1
 rw[ho] at this
 have e2:partsT 13 t.n t.names.length=t.names.length+1:=rfl
 omega
theorem parts_rec {t:TermT}(h:wfT t=true) (ho:t.op=10):t.l.length=t.names.length:=by
 have:=(wf_node h).2.1
 rw[ho] at this
 have e2:partsT 10 t.n t.names.length=t.names.length:=rfl
 omega
theorem findS_lt:∀(l:List ByteArray) (s:ByteArray) (i:Int),0≤i→findS l s i=-1∨(i≤findS l s i∧findS l s i<i+l.length)
 | [],s,i,_=>.inl rfl
 |x::r,s,i,h=>by
   rw[findS,List.length_cons]
   split
   · exact .inr ⟨by omega,by omega⟩
   · rcases findS_lt r s (i+1) (by omega) with e|e
     · exact .inl e
     · exact .inr ⟨by omega,by omega⟩
theorem part_ok {t:TermT}{env:List Th}(h:evOK t env) {i:Nat}(hi:i<t.l.length) (h0:insT t.op i=0):evOK (nthT t.l i) env:=by
 obtain ⟨h1,h2,h3⟩:=h
 refine ⟨wfL_nth (wf_node h1).2.2.2.2 hi,?_,h3⟩
 have:=scL_nth (j:=i) (sc_def h2).2 hi
 rw[Nat.zero_add,h0,Int.add_zero] at this
 exact this
theorem part_ok1 {t:TermT}{env:List Th}{v:Th}(h:evOK t env) (hv:okH v) {i:Nat}(hi:i<t.l.length) (h0:insT t.op i=1):evOK (nthT t.l i) (v::env):=by
 obtain ⟨h1,h2,h3⟩:=h
 refine ⟨wfL_nth (wf_node h1).2.2.2.2 hi,?_,hv,h3⟩
 have:=scL_nth (j:=i) (sc_def h2).2 hi
 rw[Nat.zero_add,h0] at this
 simpa using this
theorem fun_ok {v:Th}(h:okH v) (hf:isFun v 4=true) {a:Th}(ha:okH a):evOK (nthT v.part.l 0) (a::v.envOf):=by
 obtain ⟨_,h2,h3⟩:=body_ok h hf (.inl rfl)
 exact ⟨h2,by simpa using h3,ha,okH_env h⟩
theorem tfun_ok {v:Th}(h:okH v) (hf:isFun v 6=true):evOK (nthT v.part.l 0) v.envOf:=by
 obtain ⟨_,h2,h3⟩:=body_ok h hf (.inr rfl)
 exact ⟨h2,by simpa using h3,okH_env h⟩
theorem insT_case (i:Nat):insT 13 (i+1)=1:=by
 unfold insT
 rw[if_neg (by decide),if_pos (by decide),if_neg (by omega)]
theorem evI_K {F st:Nat}{f:TermT→List Th→Nat→List ByteArray→Ev}(hf:∀t env st' out,evOK t env→st≤st'→st'≤F→out.length≤1000→evI F st' (f t env st' out)) {t:TermT}{env:List Th}(h:evOK t env)
   (ho:t.op=5∨t.op=7∨t.op=8∨t.op=12∨t.op=14∨t.op=9∨t.op=15∨t.op=11∨t.op=13∨t.op=17) {v:Th}(hv:okH v) {out:List ByteArray}(hs:st≤F) (hl:out.length≤1000) :
   evI F st (evK f t.op t.s t.names t.l env v st out):=by
 have hw:=h.1
 have hvd:=(okH_def v).1 hv
 have bad:∀n,evI F st (.bad 4 n st out):=fun n=>⟨by decide,Nat.le_refl _,hs,hl⟩
 unfold evK
 by_cases e:t.op=5
 · rw[if_pos e]
   refine evI_then (hf _ _ _ _ (part_ok h (i:=1) (by rw[parts_two hw (.inl e)];decide) (by rw[e];decide)) (Nat.le_refl _) hs hl) fun a st' out' ha h1 h2 h3=>?_
   split
   · rename_i hfn;exact hf _ _ _ _ (fun_ok hv hfn ha) h1 h2 h3
   · exact ⟨by decide,Nat.le_refl _,h2,h3⟩
 rw[if_neg e]
 by_cases e:t.op=7
 · rw[if_pos e]
   split
   · rename_i hfn;exact hf _ _ _ _ (tfun_ok hv hfn) (Nat.le_refl _) hs hl
   · exact bad 0
 rw[if_neg e]
 by_cases e:t.op=8
 · rw[if_pos e];exact ⟨okH_pack hv,Nat.le_refl _,hs,hl⟩
 rw[if_neg e]
 by_cases e:t.op=12
 · rw[if_pos e];exact ⟨okH_inj hv,Nat.le_refl _,hs,hl⟩
 rw[if_neg e]
 by_cases e:t.op=14
 · rw[if_pos e];exact ⟨okH_roll hv,Nat.le_refl _,hs,hl⟩
 rw[if_neg e]
 by_cases e:t.op=9
 · rw[if_pos e]
   split
   · rename_i h6
     exact hf _ _ _ _ (part_ok1 h (okH_nth hvd.2.2.2.2.2.1 (by rw[hvd.2.2.2.1 (.inr (.inr h6))];decide)) (by rw[parts_two hw (.inr (.inl e))];decide) (by rw[e];decide)) (Nat.le_refl _) hs hl
   · exact bad 0
 rw[if_neg e]
 by_cases e:t.op=15
 · rw[if_pos e]
   split
   · rename_i h5
     exact ⟨okH_nth hvd.2.2.2.2.2.1 (by rw[hvd.2.2.2.1 (.inr (.inl h5))];decide),Nat.le_refl _,hs,hl⟩
   · exact bad 0
 rw[if_neg e]
 by_cases e:t.op=11
 · rw[if_pos e]
   split
   · rename_i h3
     have hlt:=(findS_lt v.names t.s 0 (Int.le_refl _)).resolve_left (by omega)
     exact ⟨okH_nth hvd.2.2.2.2.2.1 (by rw[←hvd.2.2.1 h3.1];omega),Nat.le_refl _,hs,hl⟩
   · exact bad 0
 rw[if_neg e]
 by_cases e:t.op=13
 · rw[if_pos e]
   split
   · rename_i h4
     have hlt:=(findS_lt t.names v.s 0 (Int.le_refl _)).resolve_left (by omega)
     exact hf _ _ _ _ (part_ok1 h (okH_nth hvd.2.2.2.2.2.1 (by rw[hvd.2.2.2.1 (.inl h4.1)];decide)) (by rw[parts_case hw e];omega) (by rw[e];exact insT_case _)) (Nat.le_refl _) hs hl
   · exact bad 0
 rw[if_neg e]
 have e:t.op=17:=by omega
 exact hf _ _ _ _ (part_ok1 h hv (by rw[parts_two hw (.inr (.inr e))];decide) (by rw[e];decide)) (Nat.le_refl _) hs hl
theorem insT_0 {op:Int}(h:op=10∨op=18) (i:Nat):insT op i=0:=by
 rcases h with rfl|rfl<;>rfl
theorem evI_ev (F:Nat):∀(g:Nat) (t:TermT) (env:List Th) (st:Nat) (out:List ByteArray),evOK t env→st≤F→F - st<g→out.length≤1000→evI F st (ev F g t env st out)
 | 0,t,env,st,out,_,hs,hg,hl=>by omega
 |g+1,t,env,st,out,h,hs,hg,hl=>by
   have ih:=fun t env st' out h (h1:st+1≤st') h2=>evI_ev F g t env st' out h h2 (by omega)
   have hw:=h.1
   rw[ev]
   by_cases e0:st=F
   · rw[if_pos e0];exact ⟨by decide,Nat.le_refl _,hs,hl⟩
   rw[if_neg e0]
   have hs1:st+1≤F:=by omega
   have ok1:∀v,okH v→evI F st (.ok v (st+1) out):=fun v hv=>⟨hv,Nat.le_succ _,hs1,hl⟩
   have bad1:∀op n,op≠0→evI F st (.bad op n (st+1) out):=fun op n h=>⟨h,Nat.le_succ _,hs1,hl⟩
   by_cases e:t.op=1
   · rw[if_pos e]
     refine ok1 _ (okH_nth h.2.2 ?_)
     have h1:=(sc_def h.2.1).1 e
     have h2:=(wf_node hw).2.2.1
     rw[numT,if_pos e,Bool.and_eq_true,decide_eq_true_iff,decide_eq_true_iff] at h2
     omega
   rw[if_neg e]
   by_cases e:t.op=2
   · rw[if_pos e]
     have h2:=(wf_node hw).2.2.1
     rw[numT,if_neg (by omega),if_pos e,Bool.and_eq_true,decide_eq_true_iff,decide_eq_true_iff] at h2
     exact ok1 _ (okH_int (by omega) (by omega))
   rw[if_neg e]
   by_cases e:t.op=3
   · rw[if_pos e]
     have h2:=(wf_node hw).2.2.2.1
     rw[textT,if_pos e,decide_eq_true_iff] at h2
     exact ok1 _ (okH_txt (by omega))
   rw[if_neg e]
   by_cases e:t.op=4∨t.op=6
   · rw[if_pos e];exact ok1 _ (okH_clo e hw h.2.1 h.2.2)
   rw[if_neg e]
   by_cases e:t.op=16
   · rw[if_pos e]
     have hl1:t.l.length=1:=parts_one hw (by omega)
     split
     · rename_i h4
       split
       · exact bad1 _ _ (by decide)
       · rename_i h5
         have hp:=part_ok1 h okH_zero (i:=0) (by omega) (by rw[e];decide)
         exact ⟨okH_fix h4 hp.1 (by simpa using hp.2.1) h.2.2,by omega,by omega,hl⟩
     · exact bad1 _ _ (by decide)
   rw[if_neg e]
   by_cases e:t.op=19
   · rw[if_pos e];exact bad1 _ _ (by decide)
   rw[if_neg e]
   have hpart:∀{x},t.op=10∨t.op=18→x∈t.l→evOK x env:=by
     intro x ho hx
     obtain ⟨i,hi,rfl⟩:=List.mem_iff_getElem.1 hx
     have:=part_ok h hi (insT_0 ho i)
     rw[nthT,List.getD_eq_getElem?_getD,List.getElem?_eq_getElem hi] at this
     exact this
   by_cases e:t.op=10
   · rw[if_pos e]
     refine evI_mono (Nat.le_succ st) (evI_evs t.l [] (st+1) out (fun x hx s o h0 h1 h2=>ih x env s o (hpart (.inl e) hx) h0 h1 h2) (fun vs s o hv hok h1 h2=>?_) trivial hs1 hl)
     exact ⟨okH_rec (by rw[←parts_rec hw e,hv];simp) hok (node_names hw),Nat.le_refl _,h1,h2⟩
   rw[if_neg e]
   by_cases e:t.op=18
   · rw[if_pos e]
     exact evI_mono (Nat.le_succ st) (evI_evs t.l [] (st+1) out (fun x hx s o h0 h1 h2=>ih x env s o (hpart (.inr e) hx) h0 h1 h2) (fun vs s o hv hok h1 h2=>evI_prim h1 h2) trivial hs1 hl)
   rw[if_neg e]
   have hop:=(wf_node hw).1
   have hlen:0<t.l.length:=by
     by_cases h9:t.op=5∨t.op=9∨t.op=17
     · rw[parts_two hw h9];decide
     · by_cases h13:t.op=13
       · rw[parts_case hw h13];omega
       · rw[parts_one hw (by omega)];decide
   have hins:insT t.op 0=0:=by
     unfold insT
     rw[if_neg (by omega)]
     split
     · rfl
     · split<;>rfl
   exact evI_mono (Nat.le_succ st) (evI_then (ih _ _ _ _ (part_ok h hlen hins) (Nat.le_refl _) hs1 hl) fun v st' out' hv h1 h2 h3=>evI_K (fun t env s o h0 h4 h5=>ih t env s o h0 (Nat.le_trans h1 h4) h5) h (by omega) hv h2 h3)
end Go.Abs.Kon
