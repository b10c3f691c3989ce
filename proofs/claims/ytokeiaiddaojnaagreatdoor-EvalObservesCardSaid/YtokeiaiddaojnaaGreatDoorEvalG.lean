/- Evaluation: the reference's functions and simple terms. -/
import Derived.Test.YtokeiaiddaojnaaGreatDoorEvalF
set_option linter.unusedSimpArgs false
set_option linter.unusedVariables false
namespace Go.Abs.Kon
open Go Go.Proofs Go.Abs
set_option maxRecDepth 100000
set_option maxHeartbeats 400000
theorem texts_spec (k:Int):Spec Tryz.prog 98 [ii k] [] (.bool (kindP k==2)) []:=by
 refine wk (rv:=[.tmp 2]) ann98 17 Tryz.func98 ?_
 simp only[go_sem]
 repeat' ((first|refine condK_intro (fun _=>?_) (fun _=>?_)|refine guardK_intro (fun _=>?_) (fun _=>?_))<;>simp only[go_sem,List.length_map])
 all_goals (unfold kindP;by_cases h14:k=14<;>simp_all)
theorem arity_spec (k:Int):Spec Tryz.prog 99 [ii k] [] (.int .i64 (if k=6∨k=11∨k=13∨k=14 then 1 else 2)) []:=by
 refine wk (rv:=[.tmp 2]) ann99 17 Tryz.func99 ?_
 simp only[go_sem]
 repeat' ((first|refine condK_intro (fun _=>?_) (fun _=>?_)|refine guardK_intro (fun _=>?_) (fun _=>?_))<;>simp only[go_sem,List.length_map])
 all_goals simp_all
theorem Fit_spec (k:Int) (h1:1≤k) (h2:k≤14) (l:List Th) (hl:l.length=(opsP k).1):Spec Tryz.prog 56 [ii k,pp (.slice (l.map encW))] [] (.bool (!(l.any fun v=>v.op != kindP k))) []:=by
 have har:(if k=6∨k=11∨k=13∨k=14 then (1:Int) else 2)=l.length:=by
  rw[hl]
  have hk:k=1∨k=2∨k=3∨k=4∨k=5∨k=6∨k=7∨k=8∨k=9∨k=10∨k=11∨k=12∨k=13∨k=14:=by omega
  rcases hk with rfl|rfl|rfl|rfl|rfl|rfl|rfl|rfl|rfl|rfl|rfl|rfl|rfl|rfl<;>rfl
 have hlen:l.length≤2:=by
  rw[hl]
  have hk:k=1∨k=2∨k=3∨k=4∨k=5∨k=6∨k=7∨k=8∨k=9∨k=10∨k=11∨k=12∨k=13∨k=14:=by omega
  rcases hk with rfl|rfl|rfl|rfl|rfl|rfl|rfl|rfl|rfl|rfl|rfl|rfl|rfl|rfl<;>decide
 have hk2:kindP k=1∨kindP k=2:=kindP_or k
 have ht:=texts_spec k
 have ha:=arity_spec k
 rw[har] at ha
 generalize kindP k=kk at hk2 ht ⊢
 generalize hR:(!(l.any fun v=>v.op != kk))=R
 refine wk (rv:=[.tmp 4]) ann56 27 Tryz.func56 ?_
 simp only[go_sem]
 refine aCall_intro ht ?_
 rcases hk2 with rfl|rfl
 ·have d1:((1:Int)==2)=false:=rfl
  rw[d1]
  simp only[go_sem]
  refine aLoop_list (α:=Th) (β:=Nat) (fun rest m=>⟨[(6,ii m),(5,ii 1),(1,pp (.slice (l.map encW))),(0,ii k)],[],[]⟩) (fun rest m=>(∃pre,l=pre++rest∧m=pre.length)∧(!(rest.any fun v=>v.op != 1))=R) ?_ ?_ l 0 _ ?_ ⟨⟨[],rfl,rfl⟩,hR⟩
  ·rintro m ⟨⟨pre,g1,g2⟩,g3⟩ K
   simp only[List.append_nil] at g1
   subst g1
   rw[List.any_nil] at g3
   subst g3
   have d2:((l.length:Int)==(l.length:Int))=true:=by rw[beq_iff_eq]
   simp only[go_sem,g2,lt_false (Int.le_refl _),List.length_map]
   refine aCall_intro ha ?_
   simp only[go_sem,d2,Bool.not_false,List.length_map]
  ·rintro x rest m ⟨⟨pre,g1,g2⟩,g3⟩ K hK
   have hx:(l.map encW)[m]? = some (encW x):=by simp[g1,g2]
   have hlt:decide ((m:Int)<(l.length:Int))=true:=decide_eq_true (by rw[g1,g2];simp;omega)
   have hll:m<l.length:=by rw[g1,g2];simp
   have w4:IntKind.i64.wrap ((m:Int)+1)=((m+1:Nat):Int):=by rw[wrapI (by omega) (by omega)];simp
   cases x with
   |mk op1 n1 s1 names1 l1 part1 env1 fix1=>
    rw[List.any_cons,Th.op] at g3
    cases hb:(op1 != 1) with
    |true=>
     rw[hb,Bool.true_or] at g3
     subst g3
     simp only[go_sem,hlt,hx,encW_mk,hb,List.length_map,Bool.not_true]
    |false=>
     rw[hb,Bool.false_or] at g3
     simp only[go_sem,hlt,hx,encW_mk,hb,w4,List.length_map]
     refine hK (m+1) _ ?_ ⟨⟨pre++[Th.mk op1 n1 s1 names1 l1 part1 env1 fix1],by simp[g1],by simp[g2]⟩,g3⟩
     simp only[go_sem]
  ·simp only[go_sem,Int.natCast_zero]
 ·have d1:((2:Int)==2)=true:=rfl
  rw[d1]
  simp only[go_sem]
  refine aLoop_list (α:=Th) (β:=Nat) (fun rest m=>⟨[(6,ii m),(5,ii 2),(1,pp (.slice (l.map encW))),(0,ii k)],[],[]⟩) (fun rest m=>(∃pre,l=pre++rest∧m=pre.length)∧(!(rest.any fun v=>v.op != 2))=R) ?_ ?_ l 0 _ ?_ ⟨⟨[],rfl,rfl⟩,hR⟩
  ·rintro m ⟨⟨pre,g1,g2⟩,g3⟩ K
   simp only[List.append_nil] at g1
   subst g1
   rw[List.any_nil] at g3
   subst g3
   have d2:((l.length:Int)==(l.length:Int))=true:=by rw[beq_iff_eq]
   simp only[go_sem,g2,lt_false (Int.le_refl _),List.length_map]
   refine aCall_intro ha ?_
   simp only[go_sem,d2,Bool.not_false,List.length_map]
  ·rintro x rest m ⟨⟨pre,g1,g2⟩,g3⟩ K hK
   have hx:(l.map encW)[m]? = some (encW x):=by simp[g1,g2]
   have hlt:decide ((m:Int)<(l.length:Int))=true:=decide_eq_true (by rw[g1,g2];simp;omega)
   have hll:m<l.length:=by rw[g1,g2];simp
   have w4:IntKind.i64.wrap ((m:Int)+1)=((m+1:Nat):Int):=by rw[wrapI (by omega) (by omega)];simp
   cases x with
   |mk op1 n1 s1 names1 l1 part1 env1 fix1=>
    rw[List.any_cons,Th.op] at g3
    cases hb:(op1 != 2) with
    |true=>
     rw[hb,Bool.true_or] at g3
     subst g3
     simp only[go_sem,hlt,hx,encW_mk,hb,List.length_map,Bool.not_true]
    |false=>
     rw[hb,Bool.false_or] at g3
     simp only[go_sem,hlt,hx,encW_mk,hb,w4,List.length_map]
     refine hK (m+1) _ ?_ ⟨⟨pre++[Th.mk op1 n1 s1 names1 l1 part1 env1 fix1],by simp[g1],by simp[g2]⟩,g3⟩
     simp only[go_sem]
  ·simp only[go_sem,Int.natCast_zero]
theorem open_bad (t F st:Nat) (out:List ByteArray) (v:Th) (op:Int) (ho:v.op≠op) (T:Nat):SpecR Tryz.prog 82 [.one (.ptr (.ref 0) 0),pp (encW v),ii op] [stB t F st out 0 0] (encS F T (.bad 4 0 st out)):=by
 refine SpecR.st_in t rfl ?_
 have d0:(v.op != op)=true:=by simp[ho]
 cases v with
 |mk op1 n1 s1 names1 l1 part1 env1 fix1=>
  rw[Th.op] at d0
  refine wS (rv:=[.cell 6 83]) ann82 23 Tryz.func82 ?_
  simp only[go_sem,stB,d0,encW_mk]
  refine aCall_res (stop_spec 0 F st out 4 0 0) ?_
  simp only[go_sem,stB,encS_bad,finT_def]
  exact ⟨_,rfl⟩
theorem open_ok (t F st:Nat) (out:List ByteArray) (v w:Th) (op:Int) (ho:v.op=op) (hw:v.l=[w]) (T:Nat):SpecR Tryz.prog 82 [.one (.ptr (.ref 0) 0),pp (encW v),ii op] [stB t F st out 0 0] (encS F T (.ok w st out)):=by
 refine SpecR.st_in t rfl ?_
 have d0:(v.op != op)=false:=by simp[ho]
 cases v with
 |mk op1 n1 s1 names1 l1 part1 env1 fix1=>
  rw[Th.op] at d0
  rw[Th.l] at hw
  subst hw
  refine wS (rv:=[.cell 6 83]) ann82 23 Tryz.func82 ?_
  simp only[go_sem,stB,d0,encW_mk,List.map_cons,List.map_nil,encS_ok,finT_def]
  exact ⟨_,rfl⟩
theorem eval_stopped (t F st:Nat) (out:List ByteArray) (e m:Int) (he:e≠0) (x:TermT) (env:PV) (T:Nat):SpecR Tryz.prog 38 [.one (.ptr (.ref 0) 0),pp (encT x),pp env] [stB t F st out e m] (encS F T (.bad e m st out)):=by
 refine SpecR.st_in t rfl ?_
 have d0:(e != 0)=true:=by simp[he]
 refine wS (rv:=[.cell 6 83]) ann38 307 Tryz.func38 ?_
 simp only[go_sem,stB,d0,encS_bad,finT_def,encW_z,encW_simple,List.map_nil]
 exact ⟨_,rfl⟩
theorem enter_stopped (t F st:Nat) (out:List ByteArray) (e m:Int) (he:e≠0) (v:Th) (op:Int) (asv:List Th) (T:Nat):SpecR Tryz.prog 81 [.one (.ptr (.ref 0) 0),pp (encW v),ii op,pp (.slice (asv.map encW))] [stB t F st out e m] (encS F T (.bad e m st out)):=by
 refine SpecR.st_in t rfl ?_
 have d0:(e != 0)=true:=by simp[he]
 refine wS (rv:=[.cell 8 83]) ann81 56 Tryz.func81 ?_
 simp only[go_sem,stB,d0,encS_bad,finT_def,encW_z,encW_simple,List.map_nil]
 exact ⟨_,rfl⟩
theorem enter_bad (t F st:Nat) (out:List ByteArray) (v:Th) (op:Int) (hf:isFun v op=false) (asv:List Th) (T:Nat):SpecR Tryz.prog 81 [.one (.ptr (.ref 0) 0),pp (encW v),ii op,pp (.slice (asv.map encW))] [stB t F st out 0 0] (encS F T (.bad 4 0 st out)):=by
 refine SpecR.st_in t rfl ?_
 cases v with
 |mk op1 n1 s1 names1 l1 part1 env1 fix1=>
  rw[isFun,Th.op,Th.part] at hf
  refine wS (rv:=[.cell 8 83]) ann81 56 Tryz.func81 ?_
  cases h7:(op1==7) with
  |false=>
   have d0:(op1 != 7)=true:=by rw[bne,h7];rfl
   simp only[go_sem,stB,d0,encW_mk]
   refine aCall_res (stop_spec 0 F st out 4 0 0) ?_
   simp only[go_sem,stB,encS_bad,finT_def]
   exact ⟨_,rfl⟩
  |true=>
   have d0:(op1 != 7)=false:=by rw[bne,h7];rfl
   rw[h7,Bool.true_and] at hf
   have d1:(part1.op != op)=true:=by rw[bne,hf];rfl
   simp only[go_sem,stB,d0,d1,encW_mk]
   refine aCall_res (stop_spec 0 F st out 4 0 0) ?_
   simp only[go_sem,stB,encS_bad,finT_def]
   exact ⟨_,rfl⟩
theorem enter_ok (t F st:Nat) (out:List ByteArray) (v:Th) (op:Int) (hf:isFun v op=true) (asv:List Th) (b:TermT) (hb:v.part.l=[b]) (hl:v.envOf.length+asv.length≤1000000000) (r:Ev)
  (hev:∀T,SpecR Tryz.prog 38 [.one (.ptr (.ref 0) 0),pp (encT b),pp (.slice ((asv.reverse++v.envOf).map encW).reverse)] [stB T F st out 0 0] (encS F 0 r)) (T:Nat) :
  SpecR Tryz.prog 81 [.one (.ptr (.ref 0) 0),pp (encW v),ii op,pp (.slice (asv.map encW))] [stB t F st out 0 0] (encS F T r):=by
 refine SpecR.st_in t rfl ?_
 obtain ⟨h7,h8⟩:=isFun_iff.1 hf
 cases v with
 |mk op1 n1 s1 names1 l1 part1 env1 fix1=>
  rw[Th.op] at h7
  rw[Th.part] at h8 hb
  subst h7
  have d0:((7:Int) != 7)=false:=rfl
  have d1:(part1.op != op)=false:=by rw[h8];simp
  cases fix1 with
  |false=>
   have he:Th.envOf (.mk 7 n1 s1 names1 l1 part1 env1 false)=env1:=rfl
   rw[he] at hev hl
   refine wS (rv:=[.cell 8 83]) ann81 56 Tryz.func81 ?_
   simp only[go_sem,stB,d0,d1,encW_mk]
   refine aLoop_list (α:=Th) (β:=Nat×List Th) (fun rest p=>⟨[(10,ii p.1),(3,pp (.slice (asv.map encW))),(9,pp (.slice (p.2.map encW).reverse)),(8,.one (.ptr (.loc 8) 0)),(5,pp (.ep (encW (.mk 7 n1 s1 names1 l1 part1 env1 false)) 0)),(0,.one (.ptr (.ref 0) 0))],
     [(.ref 0,stB 0 F st out 0 0),(.loc 8,⟨.agg 25,.agg [.pv (.int .i64 0),.pv (.int .i64 0),.pv (.str ByteArray.empty),.nilS,.nilS,.pv (.int .i64 0),.pv (.int .i64 0),.pv (.str ByteArray.empty),.pv (.int .i64 0),.pv (.int .i64 0),.pv (.str ByteArray.empty),.nilS,.nilS,.nilS,.pv (.int .i64 0),.pv (.int .i64 0),.pv (.str ByteArray.empty),.nilS,.nilS,.nilS,.nilS,.nilS,.nilS,.nilS,.pv (.bool false)]⟩)],[]⟩)
    (fun rest p=>∃pre,asv=pre++rest∧p.1=pre.length∧p.2=pre.reverse++env1) ?_ ?_ asv (0,env1) _ ?_ ⟨[],rfl,rfl,rfl⟩
   ·rintro ⟨m,e⟩ ⟨pre,g1,g2,g3⟩ K
    simp only at g2 g3
    rw[List.append_nil] at g1
    subst g1 g3
    simp only[go_sem,g2,lt_false (Int.le_refl _),List.length_map,stB,encW_mk,hb,List.map_cons,List.map_nil]
    refine aCall_res (hev 0) ?_
    cases r with
    |ok v st1 out1=>simp only[go_sem,stB,encS_ok,finT_def];exact ⟨_,rfl⟩
    |bad op1 m1 st1 out1=>simp only[go_sem,stB,encS_bad,finT_def];exact ⟨_,rfl⟩
   ·rintro x rest ⟨m,e⟩ ⟨pre,g1,g2,g3⟩ K hK
    simp only at g2 g3
    have hx:(asv.map encW)[m]? = some (encW x):=by simp[g1,g2]
    have hlt:decide ((m:Int)<(asv.length:Int))=true:=decide_eq_true (by rw[g1,g2];simp;omega)
    have hll:m<asv.length:=by rw[g1,g2];simp
    have w4:IntKind.i64.wrap ((m:Int)+1)=((m+1:Nat):Int):=by rw[wrapI (by omega) (by omega)];simp
    have hel:e.length≤1000000000:=by rw[g3];simp;omega
    simp only[go_sem,hlt,hx,stB,List.length_map]
    refine aCall_intro (with_spec e x hel) ?_
    simp only[go_sem,w4]
    refine hK (m+1,x::e) _ ?_ ⟨pre++[x],by simp[g1],by simp[g2],by simp[g3]⟩
    simp only[go_sem,stB]
   ·simp only[go_sem,Int.natCast_zero,stB,encW_mk,List.map_cons]
  |true=>
   have he:Th.envOf (.mk 7 n1 s1 names1 l1 part1 env1 true)=(Th.mk 7 n1 s1 names1 l1 part1 env1 true::env1):=rfl
   rw[he] at hev hl
   rw[List.length_cons] at hl
   have hw:=with_spec env1 (.mk 7 n1 s1 names1 l1 part1 env1 true) (by omega)
   rw[encW_mk] at hw
   refine wS (rv:=[.cell 8 83]) ann81 56 Tryz.func81 ?_
   simp only[go_sem,stB,d0,d1,encW_mk]
   refine aCall_intro hw ?_
   simp only[go_sem]
   refine aLoop_list (α:=Th) (β:=Nat×List Th) (fun rest p=>⟨[(10,ii p.1),(3,pp (.slice (asv.map encW))),(9,pp (.slice (p.2.map encW).reverse)),(8,.one (.ptr (.loc 8) 0)),(5,pp (.ep (encW (.mk 7 n1 s1 names1 l1 part1 env1 true)) 0)),(0,.one (.ptr (.ref 0) 0))],
     [(.ref 0,stB 0 F st out 0 0),(.loc 8,⟨.agg 25,.agg [.pv (.int .i64 0),.pv (.int .i64 0),.pv (.str ByteArray.empty),.nilS,.nilS,.pv (.int .i64 0),.pv (.int .i64 0),.pv (.str ByteArray.empty),.pv (.int .i64 0),.pv (.int .i64 0),.pv (.str ByteArray.empty),.nilS,.nilS,.nilS,.pv (.int .i64 0),.pv (.int .i64 0),.pv (.str ByteArray.empty),.nilS,.nilS,.nilS,.nilS,.nilS,.nilS,.nilS,.pv (.bool false)]⟩)],[]⟩)
    (fun rest p=>∃pre,asv=pre++rest∧p.1=pre.length∧p.2=pre.reverse++(Th.mk 7 n1 s1 names1 l1 part1 env1 true::env1)) ?_ ?_ asv (0,(Th.mk 7 n1 s1 names1 l1 part1 env1 true::env1)) _ ?_ ⟨[],rfl,rfl,rfl⟩
   ·rintro ⟨m,e⟩ ⟨pre,g1,g2,g3⟩ K
    simp only at g2 g3
    rw[List.append_nil] at g1
    subst g1 g3
    simp only[go_sem,g2,lt_false (Int.le_refl _),List.length_map,stB,encW_mk,hb,List.map_cons,List.map_nil]
    refine aCall_res (hev 0) ?_
    cases r with
    |ok v st1 out1=>simp only[go_sem,stB,encS_ok,finT_def];exact ⟨_,rfl⟩
    |bad op1 m1 st1 out1=>simp only[go_sem,stB,encS_bad,finT_def];exact ⟨_,rfl⟩
   ·rintro x rest ⟨m,e⟩ ⟨pre,g1,g2,g3⟩ K hK
    simp only at g2 g3
    have hx:(asv.map encW)[m]? = some (encW x):=by simp[g1,g2]
    have hlt:decide ((m:Int)<(asv.length:Int))=true:=decide_eq_true (by rw[g1,g2];simp;omega)
    have hll:m<asv.length:=by rw[g1,g2];simp
    have w4:IntKind.i64.wrap ((m:Int)+1)=((m+1:Nat):Int):=by rw[wrapI (by omega) (by omega)];simp
    have hel:e.length≤1000000000:=by rw[g3];simp;omega
    simp only[go_sem,hlt,hx,stB,List.length_map]
    refine aCall_intro (with_spec e x hel) ?_
    simp only[go_sem,w4]
    refine hK (m+1,x::e) _ ?_ ⟨pre++[x],by simp[g1],by simp[g2],by simp[g3]⟩
    simp only[go_sem,stB]
   ·simp only[go_sem,Int.natCast_zero,stB,encW_mk,List.map_cons]
end Go.Abs.Kon
namespace Go.Abs.Kon
open Go Go.Proofs Go.Abs
set_option maxRecDepth 100000
set_option maxHeartbeats 400000
def RvS (F g:Nat):Prop:=∀(t:TermT) (env:List Th) (st:Nat) (out:List ByteArray) (T T':Nat),evOK t env→env.length≤2*st→wHs (2*st) env→st≤F→F - st<g→out.length≤1000 →
 SpecR Tryz.prog 38 [.one (.ptr (.ref 0) 0),pp (encT t),pp (.slice (env.map encW).reverse)] [stB T F st out 0 0] (encS F T' (ev F g t env st out))
theorem w_succ {st:Nat}(h:st≤2000000):IntKind.i64.wrap ((st:Int)+1)=((st+1:Nat):Int):=by rw[wrapI (by omega) (by omega)];simp
theorem st_ne {st F:Nat}(h:st≠F):((st:Int)==(F:Int))=false:=by rw[beq_eq_false_iff_ne];omega
theorem st_eq {st F:Nat}(h:st=F):((st:Int)==(F:Int))=true:=by rw[h,beq_iff_eq]
theorem rval_out (F g:Nat) (t:TermT) (env:List Th) (out:List ByteArray) (T':Nat):SpecR Tryz.prog 38 [.one (.ptr (.ref 0) 0),pp (encT t),pp (.slice (env.map encW).reverse)] [stB 0 F F out 0 0] (encS F T' (ev F (g+1) t env F out)):=by
 rw[ev,if_pos rfl]
 have e1:=st_eq (st:=F) (F:=F) rfl
 refine wS (rv:=[.cell 6 83]) ann38 307 Tryz.func38 ?_
 simp only[go_sem,stB,e1]
 refine aCall_res (stop_spec 0 F F out 3 0 0) ?_
 simp only[go_sem,stB,encS_bad,finT_def]
 exact ⟨_,rfl⟩
theorem rval_1 (F g st:Nat) (hst:st≠F) (hF:F≤2000000) (hs:st≤F) (n:Int) (s:ByteArray) (con to:ConT) (k:List KindT) (names:List ByteArray) (l:List TermT) (env:List Th) (out:List ByteArray) (T':Nat) (h0:0≤n) (hn:n<env.length) (hl:env.length≤1000000000) :
  SpecR Tryz.prog 38 [.one (.ptr (.ref 0) 0),pp (encT (.mk 1 n s con to k names l)),pp (.slice (env.map encW).reverse)] [stB 0 F st out 0 0] (encS F T' (ev F (g+1) (.mk 1 n s con to k names l) env st out)):=by
 have hr:ev F (g+1) (.mk 1 n s con to k names l) env st out=.ok (nthH env n.toNat) (st+1) out:=by rw[ev,if_neg hst];rfl
 rw[hr]
 obtain ⟨m,rfl⟩:=Int.eq_ofNat_of_zero_le h0
 rw[Int.toNat_natCast]
 have w2:IntKind.i64.wrap ((env.length:Int) - 1)=(env.length:Int) - 1:=wrapI (by omega) (by omega)
 have w3:IntKind.i64.wrap ((env.length:Int) - 1 - (m:Int))=((env.length - 1 - m:Nat):Int):=by rw[wrapI (by omega) (by omega)];omega
 have hx:(env.map encW).reverse[env.length - 1 - m]? = some (encW (nthH env m)):=by
  rw[List.getElem?_reverse (by simp;omega),List.length_map,List.getElem?_map,nthH,List.getD_eq_getElem?_getD]
  rw[show env.length - 1 - (env.length - 1 - m)=m by omega,List.getElem?_eq_getElem (by omega)];rfl
 have w1:=w_succ (show st≤2000000 by omega)
 have e1:=st_ne hst
 refine wS (rv:=[.cell 6 83]) ann38 307 Tryz.func38 ?_
 simp only[go_sem,stB,encT_mk,w1,e1,w2,w3,hx,List.length_reverse,List.length_map,Int.natCast_nonneg,Int.toNat_natCast]
 try simp only[encS_ok,finT_def,go_sem]
 exact ⟨_,rfl⟩
theorem rval_2 (F g st:Nat) (hst:st≠F) (hF:F≤2000000) (hs:st≤F) (n:Int) (s:ByteArray) (con to:ConT) (k:List KindT) (names:List ByteArray) (l:List TermT) (env:List Th) (out:List ByteArray) (T':Nat) :
  SpecR Tryz.prog 38 [.one (.ptr (.ref 0) 0),pp (encT (.mk 2 n s con to k names l)),pp (.slice (env.map encW).reverse)] [stB 0 F st out 0 0] (encS F T' (ev F (g+1) (.mk 2 n s con to k names l) env st out)):=by
 have hr:ev F (g+1) (.mk 2 n s con to k names l) env st out=.ok (intH n) (st+1) out:=by rw[ev,if_neg hst];rfl
 rw[hr]
 have w1:=w_succ (show st≤2000000 by omega)
 have e1:=st_ne hst
 refine wS (rv:=[.cell 6 83]) ann38 307 Tryz.func38 ?_
 simp only[go_sem,stB,encT_mk,w1,e1]
 simp only[go_sem,stB,encS_ok,encS_bad,finT_def,intH,encW_simple,List.map_nil]
 exact ⟨_,rfl⟩
theorem rval_3 (F g st:Nat) (hst:st≠F) (hF:F≤2000000) (hs:st≤F) (n:Int) (s:ByteArray) (con to:ConT) (k:List KindT) (names:List ByteArray) (l:List TermT) (env:List Th) (out:List ByteArray) (T':Nat) :
  SpecR Tryz.prog 38 [.one (.ptr (.ref 0) 0),pp (encT (.mk 3 n s con to k names l)),pp (.slice (env.map encW).reverse)] [stB 0 F st out 0 0] (encS F T' (ev F (g+1) (.mk 3 n s con to k names l) env st out)):=by
 have hr:ev F (g+1) (.mk 3 n s con to k names l) env st out=.ok (txtH s) (st+1) out:=by rw[ev,if_neg hst];rfl
 rw[hr]
 have w1:=w_succ (show st≤2000000 by omega)
 have e1:=st_ne hst
 refine wS (rv:=[.cell 6 83]) ann38 307 Tryz.func38 ?_
 simp only[go_sem,stB,encT_mk,w1,e1]
 simp only[go_sem,stB,encS_ok,encS_bad,finT_def,txtH,encW_simple,List.map_nil]
 exact ⟨_,rfl⟩
theorem rval_4 (F g st:Nat) (hst:st≠F) (hF:F≤2000000) (hs:st≤F) (n:Int) (s:ByteArray) (con to:ConT) (k:List KindT) (names:List ByteArray) (l:List TermT) (env:List Th) (out:List ByteArray) (T':Nat) :
  SpecR Tryz.prog 38 [.one (.ptr (.ref 0) 0),pp (encT (.mk 4 n s con to k names l)),pp (.slice (env.map encW).reverse)] [stB 0 F st out 0 0] (encS F T' (ev F (g+1) (.mk 4 n s con to k names l) env st out)):=by
 have hr:ev F (g+1) (.mk 4 n s con to k names l) env st out=.ok (cloH (.mk 4 n s con to k names l) env) (st+1) out:=by rw[ev,if_neg hst];rfl
 rw[hr]
 have w1:=w_succ (show st≤2000000 by omega)
 have e1:=st_ne hst
 refine wS (rv:=[.cell 6 83]) ann38 307 Tryz.func38 ?_
 simp only[go_sem,stB,encT_mk,w1,e1]
 simp only[go_sem,stB,encS_ok,encS_bad,finT_def,cloH,encW_mk,TermT.op,TermT.n,TermT.s,TermT.con,TermT.to,TermT.k,TermT.names,TermT.l,List.map_nil]
 exact ⟨_,rfl⟩
theorem rval_6 (F g st:Nat) (hst:st≠F) (hF:F≤2000000) (hs:st≤F) (n:Int) (s:ByteArray) (con to:ConT) (k:List KindT) (names:List ByteArray) (l:List TermT) (env:List Th) (out:List ByteArray) (T':Nat) :
  SpecR Tryz.prog 38 [.one (.ptr (.ref 0) 0),pp (encT (.mk 6 n s con to k names l)),pp (.slice (env.map encW).reverse)] [stB 0 F st out 0 0] (encS F T' (ev F (g+1) (.mk 6 n s con to k names l) env st out)):=by
 have hr:ev F (g+1) (.mk 6 n s con to k names l) env st out=.ok (cloH (.mk 6 n s con to k names l) env) (st+1) out:=by rw[ev,if_neg hst];rfl
 rw[hr]
 have w1:=w_succ (show st≤2000000 by omega)
 have e1:=st_ne hst
 refine wS (rv:=[.cell 6 83]) ann38 307 Tryz.func38 ?_
 simp only[go_sem,stB,encT_mk,w1,e1]
 simp only[go_sem,stB,encS_ok,encS_bad,finT_def,cloH,encW_mk,TermT.op,TermT.n,TermT.s,TermT.con,TermT.to,TermT.k,TermT.names,TermT.l,List.map_nil]
 exact ⟨_,rfl⟩
theorem rval_16bad (F g st:Nat) (hst:st≠F) (hF:F≤2000000) (hs:st≤F) (n:Int) (s:ByteArray) (con to:ConT) (k:List KindT) (names:List ByteArray) (op2 n2:Int) (s2:ByteArray) (con2 to2:ConT) (k2:List KindT) (names2:List ByteArray) (l2:List TermT) (env:List Th) (out:List ByteArray) (T':Nat) (h4:¬(op2=4∨op2=6)) :
  SpecR Tryz.prog 38 [.one (.ptr (.ref 0) 0),pp (encT (.mk 16 n s con to k names [(.mk op2 n2 s2 con2 to2 k2 names2 l2)])),pp (.slice (env.map encW).reverse)] [stB 0 F st out 0 0] (encS F T' (ev F (g+1) (.mk 16 n s con to k names [(.mk op2 n2 s2 con2 to2 k2 names2 l2)]) env st out)):=by
 have hr:ev F (g+1) (.mk 16 n s con to k names [(.mk op2 n2 s2 con2 to2 k2 names2 l2)]) env st out=.bad 4 0 (st+1) out:=by rw[ev,if_neg hst];show (if op2=4∨op2=6 then _ else _)=_;rw[if_neg h4]
 rw[hr]
 have d1:(op2 != 4)=true:=by simp;exact fun e=>h4 (.inl e)
 have d2:(op2 != 6)=true:=by simp;exact fun e=>h4 (.inr e)
 have w1:=w_succ (show st≤2000000 by omega)
 have e1:=st_ne hst
 refine wS (rv:=[.cell 6 83]) ann38 307 Tryz.func38 ?_
 simp only[go_sem,stB,encT_mk,w1,e1,d1,d2]
 refine aCall_res (stop_spec 0 F (st+1) out 4 0 0) ?_
 simp only[go_sem,stB,encS_ok,encS_bad,finT_def]
 exact ⟨_,rfl⟩
theorem rval_16out4 (F g st:Nat) (hst:st≠F) (hF:F≤2000000) (hs:st≤F) (n:Int) (s:ByteArray) (con to:ConT) (k:List KindT) (names:List ByteArray) (n2:Int) (s2:ByteArray) (con2 to2:ConT) (k2:List KindT) (names2:List ByteArray) (l2:List TermT) (env:List Th) (out:List ByteArray) (T':Nat) (h5:st+1=F) :
  SpecR Tryz.prog 38 [.one (.ptr (.ref 0) 0),pp (encT (.mk 16 n s con to k names [(.mk 4 n2 s2 con2 to2 k2 names2 l2)])),pp (.slice (env.map encW).reverse)] [stB 0 F st out 0 0] (encS F T' (ev F (g+1) (.mk 16 n s con to k names [(.mk 4 n2 s2 con2 to2 k2 names2 l2)]) env st out)):=by
 have hr:ev F (g+1) (.mk 16 n s con to k names [(.mk 4 n2 s2 con2 to2 k2 names2 l2)]) env st out=.bad 3 0 (st+1) out:=by rw[ev,if_neg hst];show (if st+1=F then _ else _)=_;rw[if_pos h5]
 rw[hr]
 have e2:=st_eq h5
 have w1:=w_succ (show st≤2000000 by omega)
 have e1:=st_ne hst
 refine wS (rv:=[.cell 6 83]) ann38 307 Tryz.func38 ?_
 simp only[go_sem,stB,encT_mk,w1,e1,e2]
 refine aCall_res (stop_spec 0 F (st+1) out 3 0 0) ?_
 simp only[go_sem,stB,encS_ok,encS_bad,finT_def]
 exact ⟨_,rfl⟩
theorem rval_16ok4 (F g st:Nat) (hst:st≠F) (hF:F≤2000000) (hs:st≤F) (n:Int) (s:ByteArray) (con to:ConT) (k:List KindT) (names:List ByteArray) (n2:Int) (s2:ByteArray) (con2 to2:ConT) (k2:List KindT) (names2:List ByteArray) (l2:List TermT) (env:List Th) (out:List ByteArray) (T':Nat) (h5:st+1≠F) :
  SpecR Tryz.prog 38 [.one (.ptr (.ref 0) 0),pp (encT (.mk 16 n s con to k names [(.mk 4 n2 s2 con2 to2 k2 names2 l2)])),pp (.slice (env.map encW).reverse)] [stB 0 F st out 0 0] (encS F T' (ev F (g+1) (.mk 16 n s con to k names [(.mk 4 n2 s2 con2 to2 k2 names2 l2)]) env st out)):=by
 have hr:ev F (g+1) (.mk 16 n s con to k names [(.mk 4 n2 s2 con2 to2 k2 names2 l2)]) env st out=.ok (fixH (.mk 4 n2 s2 con2 to2 k2 names2 l2) env) (st+2) out:=by rw[ev,if_neg hst];show (if st+1=F then _ else _)=_;rw[if_neg h5];rfl
 rw[hr]
 have e2:=st_ne h5
 have w2:=w_succ (show st+1≤2000000 by omega)
 have w1:=w_succ (show st≤2000000 by omega)
 have e1:=st_ne hst
 refine wS (rv:=[.cell 6 83]) ann38 307 Tryz.func38 ?_
 simp only[go_sem,stB,encT_mk,w1,e1,e2,w2]
 simp only[go_sem,stB,encS_ok,encS_bad,finT_def,fixH,encT_mk,encW_mk,TermT.op,TermT.n,TermT.s,TermT.con,TermT.to,TermT.k,TermT.names,TermT.l,List.map_nil]
 exact ⟨_,rfl⟩
theorem rval_16out6 (F g st:Nat) (hst:st≠F) (hF:F≤2000000) (hs:st≤F) (n:Int) (s:ByteArray) (con to:ConT) (k:List KindT) (names:List ByteArray) (n2:Int) (s2:ByteArray) (con2 to2:ConT) (k2:List KindT) (names2:List ByteArray) (l2:List TermT) (env:List Th) (out:List ByteArray) (T':Nat) (h5:st+1=F) :
  SpecR Tryz.prog 38 [.one (.ptr (.ref 0) 0),pp (encT (.mk 16 n s con to k names [(.mk 6 n2 s2 con2 to2 k2 names2 l2)])),pp (.slice (env.map encW).reverse)] [stB 0 F st out 0 0] (encS F T' (ev F (g+1) (.mk 16 n s con to k names [(.mk 6 n2 s2 con2 to2 k2 names2 l2)]) env st out)):=by
 have hr:ev F (g+1) (.mk 16 n s con to k names [(.mk 6 n2 s2 con2 to2 k2 names2 l2)]) env st out=.bad 3 0 (st+1) out:=by rw[ev,if_neg hst];show (if st+1=F then _ else _)=_;rw[if_pos h5]
 rw[hr]
 have e2:=st_eq h5
 have w1:=w_succ (show st≤2000000 by omega)
 have e1:=st_ne hst
 refine wS (rv:=[.cell 6 83]) ann38 307 Tryz.func38 ?_
 simp only[go_sem,stB,encT_mk,w1,e1,e2]
 refine aCall_res (stop_spec 0 F (st+1) out 3 0 0) ?_
 simp only[go_sem,stB,encS_ok,encS_bad,finT_def]
 exact ⟨_,rfl⟩
theorem rval_16ok6 (F g st:Nat) (hst:st≠F) (hF:F≤2000000) (hs:st≤F) (n:Int) (s:ByteArray) (con to:ConT) (k:List KindT) (names:List ByteArray) (n2:Int) (s2:ByteArray) (con2 to2:ConT) (k2:List KindT) (names2:List ByteArray) (l2:List TermT) (env:List Th) (out:List ByteArray) (T':Nat) (h5:st+1≠F) :
  SpecR Tryz.prog 38 [.one (.ptr (.ref 0) 0),pp (encT (.mk 16 n s con to k names [(.mk 6 n2 s2 con2 to2 k2 names2 l2)])),pp (.slice (env.map encW).reverse)] [stB 0 F st out 0 0] (encS F T' (ev F (g+1) (.mk 16 n s con to k names [(.mk 6 n2 s2 con2 to2 k2 names2 l2)]) env st out)):=by
 have hr:ev F (g+1) (.mk 16 n s con to k names [(.mk 6 n2 s2 con2 to2 k2 names2 l2)]) env st out=.ok (fixH (.mk 6 n2 s2 con2 to2 k2 names2 l2) env) (st+2) out:=by rw[ev,if_neg hst];show (if st+1=F then _ else _)=_;rw[if_neg h5];rfl
 rw[hr]
 have e2:=st_ne h5
 have w2:=w_succ (show st+1≤2000000 by omega)
 have w1:=w_succ (show st≤2000000 by omega)
 have e1:=st_ne hst
 refine wS (rv:=[.cell 6 83]) ann38 307 Tryz.func38 ?_
 simp only[go_sem,stB,encT_mk,w1,e1,e2,w2]
 simp only[go_sem,stB,encS_ok,encS_bad,finT_def,fixH,encT_mk,encW_mk,TermT.op,TermT.n,TermT.s,TermT.con,TermT.to,TermT.k,TermT.names,TermT.l,List.map_nil]
 exact ⟨_,rfl⟩
theorem rval_19 (F g st:Nat) (hst:st≠F) (hF:F≤2000000) (hs:st≤F) (n:Int) (s:ByteArray) (con to:ConT) (k:List KindT) (names:List ByteArray) (l:List TermT) (env:List Th) (out:List ByteArray) (T':Nat) :
  SpecR Tryz.prog 38 [.one (.ptr (.ref 0) 0),pp (encT (.mk 19 n s con to k names l)),pp (.slice (env.map encW).reverse)] [stB 0 F st out 0 0] (encS F T' (ev F (g+1) (.mk 19 n s con to k names l) env st out)):=by
 have hr:ev F (g+1) (.mk 19 n s con to k names l) env st out=.bad 2 n (st+1) out:=by rw[ev,if_neg hst];rfl
 rw[hr]
 have w1:=w_succ (show st≤2000000 by omega)
 have e1:=st_ne hst
 refine wS (rv:=[.cell 6 83]) ann38 307 Tryz.func38 ?_
 simp only[go_sem,stB,encT_mk,w1,e1]
 refine aCall_res (stop_spec 0 F (st+1) out 2 n 0) ?_
 simp only[go_sem,stB,encS_ok,encS_bad,finT_def]
 exact ⟨_,rfl⟩
end Go.Abs.Kon