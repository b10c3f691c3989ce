/- Evaluation: the walk of the evaluator, lists; what is observed. -/
import Derived.Test.YtokeiaiddaojnaaGreatDoorEvalC
import Derived.Test.YtokeiaiddaojnaaGreatDoorKonE
set_option linter.unusedSimpArgs false
set_option linter.unusedVariables false
namespace Go.Abs.Kon
open Go Go.Proofs Go.Abs
set_option maxRecDepth 100000
set_option maxHeartbeats 4000000
def accH:List Th→SC
 | []=>.nilS
 |v::r=>.own 188 .one ((v::r).map encH)
def tkH:List Th→Nat
 | []=>34
 |_::_=>184
theorem accH_nil:accH []=.nilS:=rfl
theorem accH_cons (v:Th) (r:List Th):accH (v::r)=.own 188 .one (encH v::r.map encH):=rfl
theorem tkH_nil:tkH []=34:=rfl
theorem tkH_cons (v:Th) (r:List Th):tkH (v::r)=184:=rfl
theorem le_mx:(1≤maxLen)=True:=by rw[maxLen_eq];simp
theorem any_false {l:List Th}{k:Int}(h:l.any (fun v=>v.op != k)=false) {v:Th}(hv:v∈l):v.op=k:=by
 rw[List.any_eq_false] at h
 simpa using h v hv
theorem kindP_or (k:Int):kindP k=1∨kindP k=2:=by unfold kindP;split<;>simp
theorem okV_of {l:List Th}{k:Int}(hl:okHs l):∀v∈l,l.any (fun v=>v.op != kindP k)=false→okV v:=by
 intro v hv h
 have h1:=any_false h hv
 have h2:=(okH_def v).1 (okHs_mem.1 hl v hv)
 exact ⟨h2.1,h2.2.1 (by rw[h1];exact kindP_or k)⟩
theorem opsP_arity {k:Int}(h1:1≤k) (h2:k≤14):(((opsP k).1:Nat):Int)=arityF k:=by
 have hk:k=1∨k=2∨k=3∨k=4∨k=5∨k=6∨k=7∨k=8∨k=9∨k=10∨k=11∨k=12∨k=13∨k=14:=by omega
 rcases hk with rfl|rfl|rfl|rfl|rfl|rfl|rfl|rfl|rfl|rfl|rfl|rfl|rfl|rfl<;>rfl
theorem eval_10 (F g st:Nat) (hst:st≠F) (hF:F≤2000000) (hs:st≤F) (n:Int) (s:ByteArray) (con to:ConT) (k:List KindT) (names:List ByteArray) (l:List TermT) (env:List Th) (out:List ByteArray) (T':Nat) (ih:EvS F g) (h:evOK (.mk 10 n s con to k names l) env) (hlen0:l.length≤1000000000) (hg:F - st<g+1) (ho:out.length≤1000) :
   SpecR Tryz.prog 35 [.one (.ptr (.ref 0) 0),pp (encT (.mk 10 n s con to k names l)),pp (encEnv env)] [runB 0 F st out] (encEv F T' (ev F (g+1) (.mk 10 n s con to k names l) env st out)):=by
 have hr:ev F (g+1) (.mk 10 n s con to k names l) env st out=evs (fun x st out=>ev F g x env st out) (fun vs st out=>.ok (recH names vs) st out) l [] (st+1) out:=by rw[ev,if_neg hst];rfl
 rw[hr]
 have hparts:∀x∈l,evOK x env:=by
   intro x hx
   obtain ⟨i,hi,rfl⟩:=List.mem_iff_getElem.1 hx
   have:=part_ok h hi (insT_0 (by first|exact .inl rfl|exact .inr rfl) i)
   have e:nthT l i=l[i]:=by rw[nthT,List.getD_eq_getElem?_getD,List.getElem?_eq_getElem hi];rfl
   exact e ▸ this
 have hlen:l.length≤1000000000:=hlen0
 generalize hR:evs (fun x st out=>ev F g x env st out) (fun vs st out=>.ok (recH names vs) st out) l [] (st+1) out=R
 refine wE (rv:=[.tmp 6]) annEv 293 Tryz.func35 ?_
 simp only[go_sem,runB,encT_mk]
 refine aCall_intro (step_ok 0 F st out rfl hst (by omega)) ?_
 simp only[go_sem,runB]
 simp only[List.length_map]
 refine aLoop_list (α:=TermT) (β:=List Th×Nat×List ByteArray) (fun rest b=>⟨[(84,ii b.1.length),(2,pp (encEnv env)),(0,.one (.ptr (.ref 0) 0)),(9,.one (accH b.1)),(82,pp (.slice (l.map encT))),(4,pp (.ep (.agg [.int .i64 10,.int .i64 n,.str s,.int .i64 con.op,.int .i64 con.n,.str con.s,.slice (con.k.map encK),.slice (con.names.map .str),.slice (con.l.map encC),
     .int .i64 to.op,.int .i64 to.n,.str to.s,.slice (to.k.map encK),.slice (to.names.map .str),.slice (to.l.map encC),.slice (k.map encK),.slice (names.map .str),.slice (l.map encT)]) 0)),(83,ii l.length)],
     [(.ref 0,⟨.agg 3,.agg [.pv (.int .i64 F),.pv (.int .i64 b.2.1),.own (tkH b.1) .one (strs b.2.2)]⟩)],[]⟩)
   (fun rest b=>evs (fun x st out=>ev F g x env st out) (fun vs st out=>.ok (recH names vs) st out) rest b.1 b.2.1 b.2.2=R∧(∃pre,l=pre++rest∧b.1.length=pre.length)∧okHs b.1∧b.2.1≤F∧F - b.2.1<g∧b.2.2.length≤1000) ?_ ?_ l ([],st+1,out) _ ?_ ⟨hR,⟨[],rfl,rfl⟩,trivial,by show st+1≤F;omega,by show F - (st+1)<g;omega,ho⟩
 · rintro ⟨vs,st1,out1⟩ ⟨g1,⟨pre,g2,g3⟩,g4,g5,g6,g7⟩ K
   simp only at g1 g3 g4 g5 g6 g7
   rw[List.append_nil] at g2
   subst g2
   rw[evs] at g1
   subst g1
   have d0:decide ((vs.length:Int)<(l.length:Int))=false:=by rw[g3];exact lt_false (Int.le_refl _)
   cases vs with
   |nil=>
     simp only[List.length_nil] at d0
     simp only[go_sem,d0,accH_nil,tkH_nil,encEv,runB,finT_def,recH,enc_simple]
     exact ⟨_,rfl⟩
   |cons v0 vr=>
     simp only[List.length_cons] at d0
     simp only[go_sem,d0,accH_cons,tkH_cons,encEv,runB,finT_def,recH,enc_simple]
     exact ⟨_,rfl⟩
 · rintro x rest ⟨vs,st1,out1⟩ ⟨g1,⟨pre,g2,g3⟩,g4,g5,g6,g7⟩ K hK
   simp only at g1 g3 g4 g5 g6 g7
   have hx:(l.map encT)[vs.length]? = some (encT x):=by rw[g2,g3];simp
   have hlt:decide ((vs.length:Int)<(l.length:Int))=true:=decide_eq_true (by rw[g2,g3];simp;omega)
   have hvl:vs.length<l.length:=by rw[g2,g3];simp
   have w4:IntKind.i64.wrap ((vs.length:Int)+1)=((vs.length+1:Nat):Int):=by rw[wrapI (by omega) (by omega)];simp
   have hxk:=hparts x (by rw[g2];simp)
   rw[evs] at g1
   have hI:=evI_ev F g x env st1 out1 hxk g5 g6 g7
   have hsp:=fun T=>ih x env st1 out1 T 0 (encEnv env) hxk g5 g6 g7 (PV.imp_refl _)
   generalize ev F g x env st1 out1=r1 at hI hsp g1
   cases vs with
   |nil=>
     simp only[List.length_nil] at hx hlt w4
     simp only[go_sem,hlt,hx,accH_nil,tkH_nil]
     refine aCall_res (hsp 34) ?_
     cases r1 with
     |bad op1 m1 st2 out2=>
       subst g1
       simp only[go_sem,encEv,runB,finT_def,andThen]
       exact ⟨_,rfl⟩
     |ok v st2 out2=>
       obtain ⟨hv,i1,i2,i3⟩:=hI
       simp only[go_sem,encEv,runB,le_mx,w4]
       refine hK ([v],st2,out2) _ ?_ ⟨g1,⟨pre++[x],by rw[g2];simp,by rw[List.length_append,←g3];rfl⟩,⟨hv,trivial⟩,i2,by show F - st2<g;omega,i3⟩
       simp only[go_sem,accH_cons,tkH_cons]
   |cons v0 vr=>
     have e1:((vr.length+1+1)*8≤140737488355328)=True:=by simp at hvl ⊢;omega
     have e2:(vr.length+1+1≤maxLen)=True:=by rw[maxLen_eq];simp at hvl ⊢;omega
     simp only[List.length_cons] at hx hlt w4
     simp only[go_sem,hlt,hx,accH_cons,tkH_cons]
     refine aCall_res (hsp 184) ?_
     cases r1 with
     |bad op1 m1 st2 out2=>
       subst g1
       simp only[go_sem,encEv,runB,finT_def,andThen]
       exact ⟨_,rfl⟩
     |ok v st2 out2=>
       obtain ⟨hv,i1,i2,i3⟩:=hI
       simp only[go_sem,encEv,runB,e1,e2,List.length_map,w4]
       refine hK (v0::vr++[v],st2,out2) _ ?_ ⟨g1,⟨pre++[x],by rw[g2];simp,by simp at g3 ⊢;omega⟩,okHs_app g4 hv,i2,by show F - st2<g;omega,i3⟩
       simp only[go_sem,accH_cons,tkH_cons,List.map_append,List.length_append]
 · simp only[go_sem,accH_nil,tkH_nil,Int.natCast_zero]
theorem eval_18 (F g st:Nat) (hst:st≠F) (hF:F≤2000000) (hs:st≤F) (n:Int) (s:ByteArray) (con to:ConT) (k:List KindT) (names:List ByteArray) (l:List TermT) (env:List Th) (out:List ByteArray) (T':Nat) (ih:EvS F g) (h:evOK (.mk 18 n s con to k names l) env) (hlen0:l.length≤1000000000) (hg:F - st<g+1) (ho:out.length≤1000) :
   SpecR Tryz.prog 35 [.one (.ptr (.ref 0) 0),pp (encT (.mk 18 n s con to k names l)),pp (encEnv env)] [runB 0 F st out] (encEv F T' (ev F (g+1) (.mk 18 n s con to k names l) env st out)):=by
 have hr:ev F (g+1) (.mk 18 n s con to k names l) env st out=evs (fun x st out=>ev F g x env st out) (fun vs st out=>primE n vs st out) l [] (st+1) out:=by rw[ev,if_neg hst];rfl
 rw[hr]
 have hparts:∀x∈l,evOK x env:=by
   intro x hx
   obtain ⟨i,hi,rfl⟩:=List.mem_iff_getElem.1 hx
   have:=part_ok h hi (insT_0 (by first|exact .inl rfl|exact .inr rfl) i)
   have e:nthT l i=l[i]:=by rw[nthT,List.getD_eq_getElem?_getD,List.getElem?_eq_getElem hi];rfl
   exact e ▸ this
 have hlen:l.length≤1000000000:=hlen0
 generalize hR:evs (fun x st out=>ev F g x env st out) (fun vs st out=>primE n vs st out) l [] (st+1) out=R
 refine wE (rv:=[.tmp 6]) annEv 293 Tryz.func35 ?_
 simp only[go_sem,runB,encT_mk]
 refine aCall_intro (step_ok 0 F st out rfl hst (by omega)) ?_
 simp only[go_sem,runB]
 simp only[List.length_map]
 refine aLoop_list (α:=TermT) (β:=List Th×Nat×List ByteArray) (fun rest b=>⟨[(84,ii b.1.length),(2,pp (encEnv env)),(0,.one (.ptr (.ref 0) 0)),(9,.one (accH b.1)),(82,pp (.slice (l.map encT))),(4,pp (.ep (.agg [.int .i64 18,.int .i64 n,.str s,.int .i64 con.op,.int .i64 con.n,.str con.s,.slice (con.k.map encK),.slice (con.names.map .str),.slice (con.l.map encC),
     .int .i64 to.op,.int .i64 to.n,.str to.s,.slice (to.k.map encK),.slice (to.names.map .str),.slice (to.l.map encC),.slice (k.map encK),.slice (names.map .str),.slice (l.map encT)]) 0)),(83,ii l.length)],
     [(.ref 0,⟨.agg 3,.agg [.pv (.int .i64 F),.pv (.int .i64 b.2.1),.own (tkH b.1) .one (strs b.2.2)]⟩)],[]⟩)
   (fun rest b=>evs (fun x st out=>ev F g x env st out) (fun vs st out=>primE n vs st out) rest b.1 b.2.1 b.2.2=R∧(∃pre,l=pre++rest∧b.1.length=pre.length)∧okHs b.1∧b.2.1≤F∧F - b.2.1<g∧b.2.2.length≤1000) ?_ ?_ l ([],st+1,out) _ ?_ ⟨hR,⟨[],rfl,rfl⟩,trivial,by show st+1≤F;omega,by show F - (st+1)<g;omega,ho⟩
 · rintro ⟨vs,st1,out1⟩ ⟨g1,⟨pre,g2,g3⟩,g4,g5,g6,g7⟩ K
   simp only at g1 g3 g4 g5 g6 g7
   rw[List.append_nil] at g2
   subst g2
   rw[evs] at g1
   subst g1
   have d0:decide ((vs.length:Int)<(l.length:Int))=false:=by rw[g3];exact lt_false (Int.le_refl _)
   have hnum:=(wf_node h.1).2.2.1
   have hn1:1≤n∧n≤14:=by
     have:numT 18 n=true:=hnum
     rw[numT,if_neg (by decide),if_neg (by decide),if_pos rfl,Bool.and_eq_true,decide_eq_true_iff,decide_eq_true_iff] at this
     omega
   have hll:vs.length=(opsP n).1:=by
     have h5:=(wf_node h.1).2.1
     have h6:(l.length:Int)=arityF n:=h5
     have h7:=opsP_arity hn1.1 hn1.2
     omega
   have hsp:=rprim_spec (tkH vs) F st1 out1 n vs hn1.1 hn1.2 hll (okV_of g4) g7
   cases vs with
   |nil=>
     exfalso
     have h7:=opsP_arity hn1.1 hn1.2
     have:=arityF_le n
     rw[←hll] at h7
     simp at h7
     omega
   |cons v0 vr=>
     simp only[List.length_cons] at d0
     simp only[go_sem,d0,accH_cons,tkH_cons]
     rw[tkH_cons] at hsp
     generalize primE n (v0::vr) st1 out1=r3 at hsp ⊢
     refine aCall_res hsp ?_
     cases r3 with
     |bad op3 m3 st3 out3=>
       simp only[go_sem,encEv,runB,finT_def,andThen]
       exact ⟨_,rfl⟩
     |ok w st3 out3=>
       simp only[go_sem,encEv,runB,finT_def,andThen]
       exact ⟨_,rfl⟩
 · rintro x rest ⟨vs,st1,out1⟩ ⟨g1,⟨pre,g2,g3⟩,g4,g5,g6,g7⟩ K hK
   simp only at g1 g3 g4 g5 g6 g7
   have hx:(l.map encT)[vs.length]? = some (encT x):=by rw[g2,g3];simp
   have hlt:decide ((vs.length:Int)<(l.length:Int))=true:=decide_eq_true (by rw[g2,g3];simp;omega)
   have hvl:vs.length<l.length:=by rw[g2,g3];simp
   have w4:IntKind.i64.wrap ((vs.length:Int)+1)=((vs.length+1:Nat):Int):=by rw[wrapI (by omega) (by omega)];simp
   have hxk:=hparts x (by rw[g2];simp)
   rw[evs] at g1
   have hI:=evI_ev F g x env st1 out1 hxk g5 g6 g7
   have hsp:=fun T=>ih x env st1 out1 T 0 (encEnv env) hxk g5 g6 g7 (PV.imp_refl _)
   generalize ev F g x env st1 out1=r1 at hI hsp g1
   cases vs with
   |nil=>
     simp only[List.length_nil] at hx hlt w4
     simp only[go_sem,hlt,hx,accH_nil,tkH_nil]
     refine aCall_res (hsp 34) ?_
     cases r1 with
     |bad op1 m1 st2 out2=>
       subst g1
       simp only[go_sem,encEv,runB,finT_def,andThen]
       exact ⟨_,rfl⟩
     |ok v st2 out2=>
       obtain ⟨hv,i1,i2,i3⟩:=hI
       simp only[go_sem,encEv,runB,le_mx,w4]
       refine hK ([v],st2,out2) _ ?_ ⟨g1,⟨pre++[x],by rw[g2];simp,by rw[List.length_append,←g3];rfl⟩,⟨hv,trivial⟩,i2,by show F - st2<g;omega,i3⟩
       simp only[go_sem,accH_cons,tkH_cons]
   |cons v0 vr=>
     have e1:((vr.length+1+1)*8≤140737488355328)=True:=by simp at hvl ⊢;omega
     have e2:(vr.length+1+1≤maxLen)=True:=by rw[maxLen_eq];simp at hvl ⊢;omega
     simp only[List.length_cons] at hx hlt w4
     simp only[go_sem,hlt,hx,accH_cons,tkH_cons]
     refine aCall_res (hsp 184) ?_
     cases r1 with
     |bad op1 m1 st2 out2=>
       subst g1
       simp only[go_sem,encEv,runB,finT_def,andThen]
       exact ⟨_,rfl⟩
     |ok v st2 out2=>
       obtain ⟨hv,i1,i2,i3⟩:=hI
       simp only[go_sem,encEv,runB,e1,e2,List.length_map,w4]
       refine hK (v0::vr++[v],st2,out2) _ ?_ ⟨g1,⟨pre++[x],by rw[g2];simp,by simp at g3 ⊢;omega⟩,okHs_app g4 hv,i2,by show F - st2<g;omega,i3⟩
       simp only[go_sem,accH_cons,tkH_cons,List.map_append,List.length_append]
 · simp only[go_sem,accH_nil,tkH_nil,Int.natCast_zero]
theorem eval_step {F g:Nat}(hF:F≤2000000) (ih:EvS F g):EvS F (g+1):=by
 refine EvS.of fun t env st out T' h hs hg ho=>?_
 by_cases hst:st=F
 · subst hst;exact eval_out st g t env out T'
 obtain ⟨h1,h2⟩:=(wf_node h.1).1
 have hsc:=(sc_def h.2.1).1
 have hnum:=(wf_node h.1).2.2.1
 have hp1:=parts_one h.1
 have hp2:=parts_two h.1
 have hp13:=parts_case h.1
 have hp10:=parts_rec h.1
 have hp18:=(wf_node h.1).2.1
 have hnl:=node_names h.1
 cases t with
 |mk op n s con to k names l=>
   simp only[TermT.op,TermT.n,TermT.l,TermT.names] at h1 h2 hsc hnum hp1 hp2 hp13 hp10 hp18 hnl
   have hop:op=1∨op=2∨op=3∨op=4∨op=5∨op=6∨op=7∨op=8∨op=9∨op=10∨op=11∨op=12∨op=13∨op=14∨op=15∨op=16∨op=17∨op=18∨op=19:=by omega
   have one:l.length=1→∃x,l=[x]:=fun e=>by
     match l,e with
     | [x],_=>exact ⟨x,rfl⟩
   have two:l.length=2→∃x y,l=[x,y]:=fun e=>by
     match l,e with
     | [x,y],_=>exact ⟨x,y,rfl⟩
   rcases hop with rfl|rfl|rfl|rfl|rfl|rfl|rfl|rfl|rfl|rfl|rfl|rfl|rfl|rfl|rfl|rfl|rfl|rfl|rfl
   · rw[numT,if_pos rfl,Bool.and_eq_true,decide_eq_true_iff,decide_eq_true_iff] at hnum
     exact eval_1 F g st hst hF hs n s con to k names l env out T' hnum.1 (hsc rfl) hnum.2
   · exact eval_2 F g st hst hF hs n s con to k names l env out T'
   · exact eval_3 F g st hst hF hs n s con to k names l env out T'
   · exact eval_4 F g st hst hF hs n s con to k names l env out T'
   · obtain ⟨x,y,rfl⟩:=two (hp2 (.inl rfl));exact eval_5 F g st hst hF hs n s con to k names x y env out T' ih h hg ho
   · exact eval_6 F g st hst hF hs n s con to k names l env out T'
   · obtain ⟨x,rfl⟩:=one (hp1 (by decide));exact eval_7 F g st hst hF hs n s con to k names x env out T' ih h hg ho
   · obtain ⟨x,rfl⟩:=one (hp1 (by decide));exact eval_8 F g st hst hF hs n s con to k names x env out T' ih h hg ho
   · obtain ⟨x,y,rfl⟩:=two (hp2 (by decide));exact eval_9 F g st hst hF hs n s con to k names x y env out T' ih h hg ho
   · exact eval_10 F g st hst hF hs n s con to k names l env out T' ih h (by have:=hp10 rfl;omega) hg ho
   · obtain ⟨x,rfl⟩:=one (hp1 (by decide));exact eval_11 F g st hst hF hs n s con to k names x env out T' ih h hg ho
   · obtain ⟨x,rfl⟩:=one (hp1 (by decide));exact eval_12 F g st hst hF hs n s con to k names x env out T' ih h hg ho
   · have h13:=hp13 rfl
     obtain ⟨x,ys,rfl⟩:∃x ys,l=x::ys:=by
       match l,h13 with
       |x::ys,_=>exact ⟨x,ys,rfl⟩
     exact eval_13 F g st hst hF hs n s con to k names x ys env out T' ih h hg ho
   · obtain ⟨x,rfl⟩:=one (hp1 (by decide));exact eval_14 F g st hst hF hs n s con to k names x env out T' ih h hg ho
   · obtain ⟨x,rfl⟩:=one (hp1 (by decide));exact eval_15 F g st hst hF hs n s con to k names x env out T' ih h hg ho
   · obtain ⟨x,rfl⟩:=one (hp1 (by decide))
     cases x with
     |mk op2 n2 s2 con2 to2 k2 names2 l2=>
       by_cases h4:op2=4∨op2=6
       · by_cases h5:st+1=F
         · rcases h4 with rfl|rfl
           · exact eval_16out4 F g st hst hF hs n s con to k names n2 s2 con2 to2 k2 names2 l2 env out T' h5
           · exact eval_16out6 F g st hst hF hs n s con to k names n2 s2 con2 to2 k2 names2 l2 env out T' h5
         · rcases h4 with rfl|rfl
           · exact eval_16ok4 F g st hst hF hs n s con to k names n2 s2 con2 to2 k2 names2 l2 env out T' h5
           · exact eval_16ok6 F g st hst hF hs n s con to k names n2 s2 con2 to2 k2 names2 l2 env out T' h5
       · exact eval_16bad F g st hst hF hs n s con to k names op2 n2 s2 con2 to2 k2 names2 l2 env out T' h4
   · obtain ⟨x,y,rfl⟩:=two (hp2 (by decide));exact eval_17 F g st hst hF hs n s con to k names x y env out T' ih h hg ho
   · exact eval_18 F g st hst hF hs n s con to k names l env out T' ih h (by
       have:partsT 18 n names.length=arityF n:=rfl
       have:=arityF_le n
       omega) hg ho
   · exact eval_19 F g st hst hF hs n s con to k names l env out T'
theorem eval_spec {F:Nat}(hF:F≤2000000):∀g,EvS F g
 | 0=>fun t env st out T T' p h hs hg=>by omega
 |g+1=>eval_step hF (eval_spec hF g)
inductive ValT where
 |mk (op n:Int) (s:ByteArray) (names:List ByteArray) (l:List ValT)
mutual
def encV:ValT→PV
 | .mk op n s names l=>.agg [.int .i64 op,.int .i64 n,.str s,.slice (names.map .str),.slice (encVs l)]
def encVs:List ValT→List PV
 | []=>[]
 |c::l=>encV c::encVs l
end
theorem encVs_map:∀l,encVs l=l.map encV
 | []=>rfl
 |c::l=>by simp[encVs,encVs_map l]
theorem encV_mk (op n:Int) (s:ByteArray) (names:List ByteArray) (l:List ValT):encV (.mk op n s names l)=.agg [.int .i64 op,.int .i64 n,.str s,.slice (names.map .str),.slice (l.map encV)]:=by rw[encV,encVs_map]
@[go_sem] theorem encV_sz (c:ValT):PV.hasSz (.agg 5) (encV c)=true:=by cases c;rfl
mutual
def obsT:Th→Int→Int→Int ⊕ (ValT×Int)
 | .mk op n s names l _ _ _,left,depth=>if left - 1<0∨depth>400 then .inl (left - 1) else
   match obsL l (left - 1) (depth+1) with
   | .inl e=>.inl e
   | .inr (vs,lf)=>.inr (.mk op n s names vs,lf)
def obsL:List Th→Int→Int→Int ⊕ (List ValT×Int)
 | [],left,_=>.inr ([],left)
 |x::r,left,d=>match obsT x left d with
   | .inl e=>.inl e
   | .inr (v,lf)=>match obsL r lf d with
     | .inl e=>.inl e
     | .inr (vs,lf)=>.inr (v::vs,lf)
end
mutual
theorem obsT_le:∀(v:Th) (left d:Int) (w:ValT) (lf:Int),obsT v left d=.inr (w,lf)→0≤lf∧lf+1≤left
 | .mk op n s names l _ _ _,left,d,w,lf,h=>by
   rw[obsT] at h
   split at h
   · cases h
   · rename_i h0
     split at h
     · cases h
     · rename_i vs lf' hl
       cases h
       have:=obsL_le l (left - 1) (d+1) vs lf (by omega) hl
       omega
theorem obsL_le:∀(l:List Th) (left d:Int) (ws:List ValT) (lf:Int),0≤left→obsL l left d=.inr (ws,lf)→0≤lf∧lf+l.length≤left
 | [],left,d,ws,lf,h0,h=>by
   rw[obsL] at h
   cases h
   simp;omega
 |x::r,left,d,ws,lf,h0,h=>by
   rw[obsL] at h
   split at h
   · cases h
   · rename_i v lf1 hx
     split at h
     · cases h
     · rename_i vs lf2 hr
       cases h
       have h1:=obsT_le x left d v lf1 hx
       have h2:=obsL_le r lf1 d vs lf h1.1 hr
       simp only[List.length_cons]
       omega
end
def leftB (n:Int):Box:=⟨.one,.one (.pv (.int .i64 n))⟩
def encO:Int ⊕ (ValT×Int)→Res
 | .inl e=>.pan (endedE 2 2) [leftB e]
 | .inr r=>.ret (encV r.1) [leftB r.2]
def accO:List ValT→SC
 | []=>.nilS
 |v::r=>.own 118 (.agg 5) ((v::r).map encV)
theorem SpecR.walkO {P:Program}{f:FuncId}{fn:Func}{c:Code}{rv:List ResultVar}{args:List SV}{b:Box}{r:Int ⊕ (ValT×Int)}(A:Ann) (n:Nat) (hf:P.funcs[f]? = some fn) (hm:P.follows .mixedOrders=true) (hb:fn.body=some c) (hr:fn.results.toList=rv)
   (hk:fnChk fn n args.length c=true) (h:argsFit args→AWp P A c (finR P rv (encO r)) (start args [b])):SpecR P f args [b] (encO r):=by
 cases r with
 |inl e=>exact SpecR.walk (res:=encO (.inl e)) A n hf hm hb hr hk rfl rfl h
 |inr w=>exact SpecR.walk (res:=encO (.inr w)) A n hf hm hb hr hk rfl rfl h
def obsK (op n:Int) (s:ByteArray) (names:List ByteArray) (ws:List ValT):Int ⊕ (List ValT×Int)→Int ⊕ (ValT×Int)
 | .inl e=>.inl e
 | .inr r=>.inr (.mk op n s names (ws++r.1),r.2)
theorem obsK_cons (op n:Int) (s:ByteArray) (names:List ByteArray) (w:ValT) (ws:List ValT) (r:Int ⊕ (List ValT×Int)):obsK op n s names ws (match r with | .inl e=>.inl e | .inr (vs,lf)=>.inr (w::vs,lf))=obsK op n s names (ws++[w]) r:=by
 cases r with
 |inl e=>rfl
 |inr r=>simp[obsK]
theorem accO_nil:accO []=.nilS:=rfl
theorem accO_cons (v:ValT) (r:List ValT):accO (v::r)=.own 118 (.agg 5) (encV v::r.map encV):=rfl
theorem observe_spec (v:Th):∀(left depth:Int),okH v→0≤left→left≤20000→0≤depth→depth≤1000→SpecR Tryz.prog 34 [pp (encH v),.one (.ptr (.ref 0) 0),ii depth] [leftB left] (encO (obsT v left depth)):=by
 induction v using Th.ind1 with
 |h op n s names l part env fix ih1 ih2=>
   intro left depth hok h0 h1 h2 h3
   rw[obsT]
   have w1:IntKind.i64.wrap (left - 1)=left - 1:=wrapI (by omega) (by omega)
   by_cases hb:left - 1<0∨depth>400
   · rw[if_pos hb]
     show SpecP _ _ _ _ _ _
     refine SpecP.walk (rv:=[.cell 6 36]) ann34 63 Tryz.func34 mixed rfl rfl (by kernel_rfl) rfl rfl fun hfit=>?_
     clear hfit
     by_cases hl:left - 1<0
     · have d1:decide (left - 1<0)=true:=decide_eq_true hl
       simp only[go_sem,leftB,w1,d1]
       refine aCall_pan (failed_spec 2) ?_
       simp only[go_sem]
     · have d1:decide (left - 1<0)=false:=decide_eq_false hl
       have d2:decide (depth>400)=true:=decide_eq_true (hb.resolve_left hl)
       simp only[go_sem,leftB,w1,d1,d2]
       refine aCall_pan (failed_spec 2) ?_
       simp only[go_sem]
   · rw[if_neg hb]
     have hK:(match obsL l (left - 1) (depth+1) with
       | .inl e=>.inl e
       | .inr (vs,lf)=>.inr (ValT.mk op n s names vs,lf))=obsK op n s names [] (obsL l (left - 1) (depth+1)):=by
       cases obsL l (left - 1) (depth+1)<;>rfl
     rw[hK]
     generalize hR:obsK op n s names [] (obsL l (left - 1) (depth+1))=R
     have hn:=((okH_def _).1 hok).2.2.2.2.2.2.2
     have hls:=((okH_def _).1 hok).2.2.2.2.2.1
     refine SpecR.walkO (rv:=[.cell 6 36]) ann34 63 Tryz.func34 mixed rfl rfl (by kernel_rfl) fun hfit=>?_
     have hlen:l.length≤9223372036854775807:=by
       simp only[argsFit,SV.pv?,SC.pv?] at hfit
       have:=hfit.1
       cases fix with
       |true=>rw[encH_fix] at this;simp only[PV.fit,fitL,List.cons_append,List.nil_append,maxLen_eq,List.length_map] at this;exact this.1.2.2.2.2.1.1
       |false=>rw[encH_plain] at this;simp only[PV.fit,fitL,List.cons_append,List.nil_append,maxLen_eq,List.length_map] at this;exact this.2.2.2.2.1.1
     clear hfit
     have d1:decide (left - 1<0)=false:=decide_eq_false fun e=>hb (.inl e)
     have d2:decide (depth>400)=false:=decide_eq_false fun e=>hb (.inr e)
     have w2:IntKind.i64.wrap (depth+1)=depth+1:=wrapI (by omega) (by omega)
     simp only[go_sem,leftB,w1,d1,d2]
     refine aCall_intro (Clone_spec names (by have:names.length≤1000000:=hn;omega)) ?_
     simp only[go_sem,List.length_map]
     iterate 8 (try (refine ⟨by kernel_rfl,?_⟩))
     try simp only[go_sem,List.length_map]
     refine aLoop_list (α:=Th) (β:=List ValT×Int) (fun rest b=>⟨[(47,ii b.1.length),(7,.one (.ptr (.loc 7) 0)),(2,ii depth),(1,.one (.ptr (.ref 0) 0)),(45,pp (.slice (l.map encH))),(6,.one (.ptr (.loc 6) 0)),(46,ii l.length)],
         [(.ref 0,⟨.one,.one (.pv (.int .i64 b.2))⟩),(.loc 6,⟨.agg 5,.agg [.pv (.int .i64 0),.pv (.int .i64 0),.pv (.str ByteArray.empty),.nilS,.nilS]⟩),(.loc 7,⟨.agg 5,.agg [.pv (.int .i64 op),.pv (.int .i64 n),.pv (.str s),.pv (.slice (names.map .str)),accO b.1]⟩)],[]⟩)
       (fun rest b=>obsK op n s names b.1 (obsL rest b.2 (depth+1))=R∧(∃pre,l=pre++rest∧b.1.length=pre.length)∧0≤b.2∧b.1.length+b.2≤20000) ?_ ?_ l ([],left - 1) _ ?_ ⟨hR,⟨[],rfl,rfl⟩,by show 0≤left - 1;omega,by show ((0:Nat):Int)+(left - 1)≤20000;omega⟩
     · rintro ⟨ws,lf⟩ ⟨g1,⟨pre,g2,g3⟩,g5,g6⟩ K
       simp only at g1 g3 g5 g6
       rw[List.append_nil] at g2
       subst g2
       rw[obsL] at g1
       have d0:decide ((ws.length:Int)<(l.length:Int))=false:=by rw[g3];exact lt_false (Int.le_refl _)
       simp only[obsK,List.append_nil] at g1
       subst g1
       cases ws with
       |nil=>
         simp only[List.length_nil] at d0
         simp only[go_sem,d0,accO_nil,encO,leftB,encV_mk]
       |cons w0 wr=>
         simp only[List.length_cons] at d0
         simp only[go_sem,d0,accO_cons,encO,leftB,encV_mk]
     · rintro x rest ⟨ws,lf⟩ ⟨g1,⟨pre,g2,g3⟩,g5,g6⟩ K hK
       simp only at g1 g3 g5 g6
       have hx:(l.map encH)[ws.length]? = some (encH x):=by rw[g2,g3];simp
       have hlt:decide ((ws.length:Int)<(l.length:Int))=true:=decide_eq_true (by rw[g2,g3];simp;omega)
       have hvl:ws.length<l.length:=by rw[g2,g3];simp
       have w4:IntKind.i64.wrap ((ws.length:Int)+1)=((ws.length+1:Nat):Int):=by rw[wrapI (by omega) (by omega)];simp
       have hxm:x∈l:=by rw[g2];simp
       rw[obsL] at g1
       have hsp:=ih1 x hxm lf (depth+1) (okHs_mem.1 hls x hxm) g5 (by omega) (by omega) (by omega)
       generalize hr1:obsT x lf (depth+1)=r1 at hsp g1
       cases ws with
       |nil=>
         simp only[List.length_nil] at hx hlt w4 g6
         simp only[go_sem,hlt,hx,accO_nil,w2]
         refine aCall_res hsp ?_
         cases r1 with
         |inl e=>
           subst g1
           simp only[go_sem,obsK,encO,leftB]
           first|exact harm_desc (by kernel_rfl) | (refine ⟨harm_desc (by kernel_rfl),?_⟩;simp only[go_sem])
         |inr r=>
           obtain ⟨w,lf1⟩:=r
           have hle:=obsT_le x lf (depth+1) w lf1 hr1
           have g1:=(obsK_cons op n s names w _ (obsL rest lf1 (depth+1))).symm.trans g1
           simp only[encO]
           simp only[go_sem,leftB,le_mx,w4]
           iterate 8 (try (refine ⟨by kernel_rfl,?_⟩))
           try simp only[go_sem,leftB,le_mx,w4]
           refine hK ([w],lf1) _ ?_ ⟨g1,⟨pre++[x],by rw[g2];simp,by rw[List.length_append,←g3];rfl⟩,hle.1,by show ((1:Nat):Int)+lf1≤20000;omega⟩
           simp only[go_sem,accO_cons]
       |cons w0 wr=>
         simp only[List.length_cons] at hx hlt w4 g6
         have e1:((wr.length+1+1)*80≤140737488355328)=True:=by simp;omega
         have e2:(wr.length+1+1≤maxLen)=True:=by rw[maxLen_eq];simp;omega
         simp only[go_sem,hlt,hx,accO_cons,w2]
         refine aCall_res hsp ?_
         cases r1 with
         |inl e=>
           subst g1
           simp only[go_sem,obsK,encO,leftB]
           first|exact harm_desc (by kernel_rfl) | (refine ⟨harm_desc (by kernel_rfl),?_⟩;simp only[go_sem])
         |inr r=>
           obtain ⟨w,lf1⟩:=r
           have hle:=obsT_le x lf (depth+1) w lf1 hr1
           have g1:=(obsK_cons op n s names w _ (obsL rest lf1 (depth+1))).symm.trans g1
           simp only[encO]
           simp only[go_sem,leftB,e1,e2,List.length_map,w4]
           iterate 8 (try (refine ⟨by kernel_rfl,?_⟩))
           try simp only[go_sem,leftB,e1,e2,List.length_map,w4]
           refine hK (w0::wr++[w],lf1) _ ?_ ⟨g1,⟨pre++[x],by rw[g2];simp,by simp at g3 ⊢;omega⟩,hle.1,by simp only[List.length_append,List.length_cons,List.length_nil];omega⟩
           simp only[go_sem,accO_cons,List.map_append,List.length_append]
     · simp only[go_sem,accO_nil,Int.natCast_zero,Th.l,Th.op,Th.n,Th.s]
end Go.Abs.Kon
