/- Evaluation: the walk of the evaluator, first parts. -/
import Derived.Test.YtokeiaiddaojnaaGreatDoorEvalB
import Derived.Test.YtokeiaiddaojnaaGreatDoorStepA
set_option linter.unusedSimpArgs false
set_option linter.unusedVariables false
namespace Go.Abs.Kon
open Go Go.Proofs Go.Abs
set_option maxRecDepth 100000
set_option maxHeartbeats 4000000
def EvS (F g:Nat):Prop:=∀(t:TermT) (env:List Th) (st:Nat) (out:List ByteArray) (T T':Nat) (p:PV),evOK t env→st≤F→F - st<g→out.length≤1000→p.imp (encEnv env) →
 SpecR Tryz.prog 35 [.one (.ptr (.ref 0) 0),pp (encT t),pp p] [runB T F st out] (encEv F T' (ev F g t env st out))
theorem EvS.of {F g:Nat}(h:∀(t:TermT) (env:List Th) (st:Nat) (out:List ByteArray) (T':Nat),evOK t env→st≤F→F - st<g→out.length≤1000 →
   SpecR Tryz.prog 35 [.one (.ptr (.ref 0) 0),pp (encT t),pp (encEnv env)] [runB 0 F st out] (encEv F T' (ev F g t env st out))):EvS F g:=by
 intro t env st out T T' p h1 h2 h3 h4 h5
 refine SpecR.argsW (SpecR.run_in T rfl (h t env st out T' h1 h2 h3 h4)) fun G vs hr=>?_
 simp only[RepSVs,pp,RepSV,RepSC] at hr ⊢
 obtain ⟨v1,r1,e1,q1,v2,r2,e2,q2,v3,r3,e3,q3,e4⟩:=hr
 exact ⟨v1,r1,e1,q1,v2,r2,e2,q2,v3,r3,e3,h5 _ _ q3,e4⟩
def annEv:Ann:=⟨[4,31,37,44,103,144,169,177,183,205,281,291],[2000018,6800018,4018064,4018069],ann35.live,ann35.head⟩
@[go_sem] theorem annEv_imm:annEv.imm=[4,31,37,44,103,144,169,177,183,205,281,291]:=rfl
@[go_sem] theorem annEv_frz:annEv.frz=[2000018,6800018,4018064,4018069]:=rfl
@[go_sem] theorem annEv_live:annEv.live=ann35.live:=rfl
@[go_sem] theorem annEv_head:annEv.head=ann35.head:=rfl
theorem eval_out (F g:Nat) (t:TermT) (env:List Th) (out:List ByteArray) (T':Nat):SpecR Tryz.prog 35 [.one (.ptr (.ref 0) 0),pp (encT t),pp (encEnv env)] [runB 0 F F out] (encEv F T' (ev F (g+1) t env F out)):=by
 rw[ev,if_pos rfl]
 refine wE (rv:=[.tmp 6]) ann35 293 Tryz.func35 ?_
 simp only[go_sem,runB]
 refine aCall_pan (step_bad 0 F out rfl) ?_
 simp only[go_sem,encEv,runB,finT_def]
 exact ⟨_,rfl⟩
theorem eval_1 (F g st:Nat) (hst:st≠F) (hF:F≤2000000) (hs:st≤F) (n:Int) (s:ByteArray) (con to:ConT) (k:List KindT) (names:List ByteArray) (l:List TermT) (env:List Th) (out:List ByteArray) (T':Nat) (h0:0≤n) (hn:n<env.length) (hn2:n≤20000) :
   SpecR Tryz.prog 35 [.one (.ptr (.ref 0) 0),pp (encT (.mk 1 n s con to k names l)),pp (encEnv env)] [runB 0 F st out] (encEv F T' (ev F (g+1) (.mk 1 n s con to k names l) env st out)):=by
 have hr:ev F (g+1) (.mk 1 n s con to k names l) env st out=.ok (nthH env n.toNat) (st+1) out:=by rw[ev,if_neg hst];rfl
 rw[hr]
 obtain ⟨m,rfl⟩:=Int.eq_ofNat_of_zero_le h0
 rw[Int.toNat_natCast]
 refine wE (rv:=[.tmp 6]) annEv 293 Tryz.func35 ?_
 simp only[go_sem,runB,encT_mk]
 refine aCall_intro (step_ok 0 F st out rfl hst (by omega)) ?_
 simp only[go_sem,runB]
 refine aCall_intro (get_spec env m (by omega) (by omega)) ?_
 simp only[go_sem,encEv,runB,finT_def]
 exact ⟨_,rfl⟩
theorem eval_2 (F g st:Nat) (hst:st≠F) (hF:F≤2000000) (hs:st≤F) (n:Int) (s:ByteArray) (con to:ConT) (k:List KindT) (names:List ByteArray) (l:List TermT) (env:List Th) (out:List ByteArray) (T':Nat) :
   SpecR Tryz.prog 35 [.one (.ptr (.ref 0) 0),pp (encT (.mk 2 n s con to k names l)),pp (encEnv env)] [runB 0 F st out] (encEv F T' (ev F (g+1) (.mk 2 n s con to k names l) env st out)):=by
 have hr:ev F (g+1) (.mk 2 n s con to k names l) env st out=.ok (intH n) (st+1) out:=by rw[ev,if_neg hst];rfl
 rw[hr]
 refine wE (rv:=[.tmp 6]) annEv 293 Tryz.func35 ?_
 simp only[go_sem,runB,encT_mk]
 refine aCall_intro (step_ok 0 F st out rfl hst (by omega)) ?_
 simp only[go_sem,encEv,runB,finT_def,intH,enc_simple]
 exact ⟨_,rfl⟩
theorem eval_3 (F g st:Nat) (hst:st≠F) (hF:F≤2000000) (hs:st≤F) (n:Int) (s:ByteArray) (con to:ConT) (k:List KindT) (names:List ByteArray) (l:List TermT) (env:List Th) (out:List ByteArray) (T':Nat) :
   SpecR Tryz.prog 35 [.one (.ptr (.ref 0) 0),pp (encT (.mk 3 n s con to k names l)),pp (encEnv env)] [runB 0 F st out] (encEv F T' (ev F (g+1) (.mk 3 n s con to k names l) env st out)):=by
 have hr:ev F (g+1) (.mk 3 n s con to k names l) env st out=.ok (txtH s) (st+1) out:=by rw[ev,if_neg hst];rfl
 rw[hr]
 refine wE (rv:=[.tmp 6]) annEv 293 Tryz.func35 ?_
 simp only[go_sem,runB,encT_mk]
 refine aCall_intro (step_ok 0 F st out rfl hst (by omega)) ?_
 simp only[go_sem,encEv,runB,finT_def,txtH,enc_simple]
 exact ⟨_,rfl⟩
theorem eval_4 (F g st:Nat) (hst:st≠F) (hF:F≤2000000) (hs:st≤F) (n:Int) (s:ByteArray) (con to:ConT) (k:List KindT) (names:List ByteArray) (l:List TermT) (env:List Th) (out:List ByteArray) (T':Nat) :
   SpecR Tryz.prog 35 [.one (.ptr (.ref 0) 0),pp (encT (.mk 4 n s con to k names l)),pp (encEnv env)] [runB 0 F st out] (encEv F T' (ev F (g+1) (.mk 4 n s con to k names l) env st out)):=by
 have hr:ev F (g+1) (.mk 4 n s con to k names l) env st out=.ok (cloH (.mk 4 n s con to k names l) env) (st+1) out:=by rw[ev,if_neg hst];rfl
 rw[hr]
 refine wE (rv:=[.tmp 6]) annEv 293 Tryz.func35 ?_
 simp only[go_sem,runB,encT_mk]
 refine aCall_intro (step_ok 0 F st out rfl hst (by omega)) ?_
 simp only[go_sem,encEv,runB,finT_def,cloH,encH_plain,TermT.cells,TermT.op,TermT.n,TermT.s,TermT.con,TermT.to,TermT.k,TermT.names,TermT.l]
 exact ⟨_,rfl⟩
theorem eval_6 (F g st:Nat) (hst:st≠F) (hF:F≤2000000) (hs:st≤F) (n:Int) (s:ByteArray) (con to:ConT) (k:List KindT) (names:List ByteArray) (l:List TermT) (env:List Th) (out:List ByteArray) (T':Nat) :
   SpecR Tryz.prog 35 [.one (.ptr (.ref 0) 0),pp (encT (.mk 6 n s con to k names l)),pp (encEnv env)] [runB 0 F st out] (encEv F T' (ev F (g+1) (.mk 6 n s con to k names l) env st out)):=by
 have hr:ev F (g+1) (.mk 6 n s con to k names l) env st out=.ok (cloH (.mk 6 n s con to k names l) env) (st+1) out:=by rw[ev,if_neg hst];rfl
 rw[hr]
 refine wE (rv:=[.tmp 6]) annEv 293 Tryz.func35 ?_
 simp only[go_sem,runB,encT_mk]
 refine aCall_intro (step_ok 0 F st out rfl hst (by omega)) ?_
 simp only[go_sem,encEv,runB,finT_def,cloH,encH_plain,TermT.cells,TermT.op,TermT.n,TermT.s,TermT.con,TermT.to,TermT.k,TermT.names,TermT.l]
 exact ⟨_,rfl⟩
theorem eval_16bad (F g st:Nat) (hst:st≠F) (hF:F≤2000000) (hs:st≤F) (n:Int) (s:ByteArray) (con to:ConT) (k:List KindT) (names:List ByteArray) (op2 n2:Int) (s2:ByteArray) (con2 to2:ConT) (k2:List KindT) (names2:List ByteArray) (l2:List TermT) (env:List Th) (out:List ByteArray) (T':Nat) (h4:¬(op2=4∨op2=6)) :
   SpecR Tryz.prog 35 [.one (.ptr (.ref 0) 0),pp (encT (.mk 16 n s con to k names [(.mk op2 n2 s2 con2 to2 k2 names2 l2)])),pp (encEnv env)] [runB 0 F st out] (encEv F T' (ev F (g+1) (.mk 16 n s con to k names [(.mk op2 n2 s2 con2 to2 k2 names2 l2)]) env st out)):=by
 have hr:ev F (g+1) (.mk 16 n s con to k names [(.mk op2 n2 s2 con2 to2 k2 names2 l2)]) env st out=.bad 4 0 (st+1) out:=by rw[ev,if_neg hst];show (if op2=4∨op2=6 then _ else _)=_;rw[if_neg h4]
 rw[hr]
 have d1:(op2==4)=false:=by rw[beq_eq_false_iff_ne];exact fun e=>h4 (.inl e)
 have d2:(op2==6)=false:=by rw[beq_eq_false_iff_ne];exact fun e=>h4 (.inr e)
 refine wE (rv:=[.tmp 6]) annEv 293 Tryz.func35 ?_
 simp only[go_sem,runB,encT_mk]
 refine aCall_intro (step_ok 0 F st out rfl hst (by omega)) ?_
 simp only[go_sem,runB,d1,d2]
 refine aCall_pan stuck_bad ?_
 simp only[go_sem,encEv,runB,finT_def]
 exact ⟨_,rfl⟩
theorem eval_16out4 (F g st:Nat) (hst:st≠F) (hF:F≤2000000) (hs:st≤F) (n:Int) (s:ByteArray) (con to:ConT) (k:List KindT) (names:List ByteArray) (n2:Int) (s2:ByteArray) (con2 to2:ConT) (k2:List KindT) (names2:List ByteArray) (l2:List TermT) (env:List Th) (out:List ByteArray) (T':Nat) (h5:st+1=F) :
   SpecR Tryz.prog 35 [.one (.ptr (.ref 0) 0),pp (encT (.mk 16 n s con to k names [(.mk 4 n2 s2 con2 to2 k2 names2 l2)])),pp (encEnv env)] [runB 0 F st out] (encEv F T' (ev F (g+1) (.mk 16 n s con to k names [(.mk 4 n2 s2 con2 to2 k2 names2 l2)]) env st out)):=by
 have hr:ev F (g+1) (.mk 16 n s con to k names [(.mk 4 n2 s2 con2 to2 k2 names2 l2)]) env st out=.bad 3 0 (st+1) out:=by rw[ev,if_neg hst];show (if st+1=F then _ else _)=_;rw[if_pos h5]
 rw[hr]
 refine wE (rv:=[.tmp 6]) annEv 293 Tryz.func35 ?_
 simp only[go_sem,runB,encT_mk]
 refine aCall_intro (step_ok 0 F st out rfl hst (by omega)) ?_
 simp only[go_sem,runB]
 refine aCall_intro stuck_ok ?_
 simp only[go_sem]
 rw[h5]
 refine aCall_pan (step_bad 34 F out rfl) ?_
 simp only[go_sem,encEv,runB,finT_def]
 exact ⟨_,rfl⟩
theorem eval_16ok4 (F g st:Nat) (hst:st≠F) (hF:F≤2000000) (hs:st≤F) (n:Int) (s:ByteArray) (con to:ConT) (k:List KindT) (names:List ByteArray) (n2:Int) (s2:ByteArray) (con2 to2:ConT) (k2:List KindT) (names2:List ByteArray) (l2:List TermT) (env:List Th) (out:List ByteArray) (T':Nat) (h5:st+1≠F) :
   SpecR Tryz.prog 35 [.one (.ptr (.ref 0) 0),pp (encT (.mk 16 n s con to k names [(.mk 4 n2 s2 con2 to2 k2 names2 l2)])),pp (encEnv env)] [runB 0 F st out] (encEv F T' (ev F (g+1) (.mk 16 n s con to k names [(.mk 4 n2 s2 con2 to2 k2 names2 l2)]) env st out)):=by
 have hr:ev F (g+1) (.mk 16 n s con to k names [(.mk 4 n2 s2 con2 to2 k2 names2 l2)]) env st out=.ok (fixH (.mk 4 n2 s2 con2 to2 k2 names2 l2) env) (st+2) out:=by rw[ev,if_neg hst];show (if st+1=F then _ else _)=_;rw[if_neg h5];rfl
 rw[hr]
 refine wE (rv:=[.tmp 6]) annEv 293 Tryz.func35 ?_
 simp only[go_sem,runB,encT_mk]
 refine aCall_intro (step_ok 0 F st out rfl hst (by omega)) ?_
 simp only[go_sem,runB]
 refine aCall_intro stuck_ok ?_
 simp only[go_sem]
 refine aCall_intro (step_ok 34 F (st+1) out rfl h5 (by omega)) ?_
 simp only[go_sem,runB]
 refine aFlipOr_ops ?_
 simp only[go_sem,Nat.reduceLT,Nat.reduceAdd,ne_eq]
 simp only[go_sem,encEv,runB,finT_def,fixH,encH_fix,TermT.cells,TermT.op,TermT.n,TermT.s,TermT.con,TermT.to,TermT.k,TermT.names,TermT.l,encT_mk]
 exact ⟨_,rfl⟩
theorem eval_16out6 (F g st:Nat) (hst:st≠F) (hF:F≤2000000) (hs:st≤F) (n:Int) (s:ByteArray) (con to:ConT) (k:List KindT) (names:List ByteArray) (n2:Int) (s2:ByteArray) (con2 to2:ConT) (k2:List KindT) (names2:List ByteArray) (l2:List TermT) (env:List Th) (out:List ByteArray) (T':Nat) (h5:st+1=F) :
   SpecR Tryz.prog 35 [.one (.ptr (.ref 0) 0),pp (encT (.mk 16 n s con to k names [(.mk 6 n2 s2 con2 to2 k2 names2 l2)])),pp (encEnv env)] [runB 0 F st out] (encEv F T' (ev F (g+1) (.mk 16 n s con to k names [(.mk 6 n2 s2 con2 to2 k2 names2 l2)]) env st out)):=by
 have hr:ev F (g+1) (.mk 16 n s con to k names [(.mk 6 n2 s2 con2 to2 k2 names2 l2)]) env st out=.bad 3 0 (st+1) out:=by rw[ev,if_neg hst];show (if st+1=F then _ else _)=_;rw[if_pos h5]
 rw[hr]
 refine wE (rv:=[.tmp 6]) annEv 293 Tryz.func35 ?_
 simp only[go_sem,runB,encT_mk]
 refine aCall_intro (step_ok 0 F st out rfl hst (by omega)) ?_
 simp only[go_sem,runB]
 refine aCall_intro stuck_ok ?_
 simp only[go_sem]
 rw[h5]
 refine aCall_pan (step_bad 34 F out rfl) ?_
 simp only[go_sem,encEv,runB,finT_def]
 exact ⟨_,rfl⟩
theorem eval_16ok6 (F g st:Nat) (hst:st≠F) (hF:F≤2000000) (hs:st≤F) (n:Int) (s:ByteArray) (con to:ConT) (k:List KindT) (names:List ByteArray) (n2:Int) (s2:ByteArray) (con2 to2:ConT) (k2:List KindT) (names2:List ByteArray) (l2:List TermT) (env:List Th) (out:List ByteArray) (T':Nat) (h5:st+1≠F) :
   SpecR Tryz.prog 35 [.one (.ptr (.ref 0) 0),pp (encT (.mk 16 n s con to k names [(.mk 6 n2 s2 con2 to2 k2 names2 l2)])),pp (encEnv env)] [runB 0 F st out] (encEv F T' (ev F (g+1) (.mk 16 n s con to k names [(.mk 6 n2 s2 con2 to2 k2 names2 l2)]) env st out)):=by
 have hr:ev F (g+1) (.mk 16 n s con to k names [(.mk 6 n2 s2 con2 to2 k2 names2 l2)]) env st out=.ok (fixH (.mk 6 n2 s2 con2 to2 k2 names2 l2) env) (st+2) out:=by rw[ev,if_neg hst];show (if st+1=F then _ else _)=_;rw[if_neg h5];rfl
 rw[hr]
 refine wE (rv:=[.tmp 6]) annEv 293 Tryz.func35 ?_
 simp only[go_sem,runB,encT_mk]
 refine aCall_intro (step_ok 0 F st out rfl hst (by omega)) ?_
 simp only[go_sem,runB]
 refine aCall_intro stuck_ok ?_
 simp only[go_sem]
 refine aCall_intro (step_ok 34 F (st+1) out rfl h5 (by omega)) ?_
 simp only[go_sem,runB]
 refine aFlipOr_ops ?_
 simp only[go_sem,Nat.reduceLT,Nat.reduceAdd,ne_eq]
 simp only[go_sem,encEv,runB,finT_def,fixH,encH_fix,TermT.cells,TermT.op,TermT.n,TermT.s,TermT.con,TermT.to,TermT.k,TermT.names,TermT.l,encT_mk]
 exact ⟨_,rfl⟩
theorem eval_19 (F g st:Nat) (hst:st≠F) (hF:F≤2000000) (hs:st≤F) (n:Int) (s:ByteArray) (con to:ConT) (k:List KindT) (names:List ByteArray) (l:List TermT) (env:List Th) (out:List ByteArray) (T':Nat) :
   SpecR Tryz.prog 35 [.one (.ptr (.ref 0) 0),pp (encT (.mk 19 n s con to k names l)),pp (encEnv env)] [runB 0 F st out] (encEv F T' (ev F (g+1) (.mk 19 n s con to k names l) env st out)):=by
 have hr:ev F (g+1) (.mk 19 n s con to k names l) env st out=.bad 2 n (st+1) out:=by rw[ev,if_neg hst];rfl
 rw[hr]
 refine wE (rv:=[.tmp 6]) annEv 293 Tryz.func35 ?_
 simp only[go_sem,runB,encT_mk]
 refine aCall_intro (step_ok 0 F st out rfl hst (by omega)) ?_
 simp only[go_sem,runB]
 refine aCall_pan (failed_spec n) ?_
 simp only[go_sem,encEv,runB,finT_def]
 exact ⟨_,rfl⟩
theorem evOK_part0 {op n:Int}{s:ByteArray}{con to:ConT}{k:List KindT}{names:List ByteArray}{x:TermT}{r:List TermT}{env:List Th}(h:evOK (.mk op n s con to k names (x::r)) env) (h0:insT op 0=0):evOK x env:=
 part_ok (i:=0) h (Nat.succ_pos _) h0
theorem evOK_part1 {op n:Int}{s:ByteArray}{con to:ConT}{k:List KindT}{names:List ByteArray}{x y:TermT}{env:List Th}(h:evOK (.mk op n s con to k names [x,y]) env) (h0:insT op 1=0):evOK y env:=
 part_ok (i:=1) h (Nat.lt_succ_self 1) h0
theorem evOK_part1v {op n:Int}{s:ByteArray}{con to:ConT}{k:List KindT}{names:List ByteArray}{x y:TermT}{env:List Th}{v:Th}(h:evOK (.mk op n s con to k names [x,y]) env) (hv:okH v) (h0:insT op 1=1):evOK y (v::env):=
 part_ok1 (i:=1) h hv (Nat.lt_succ_self 1) h0
theorem eval_8 (F g st:Nat) (hst:st≠F) (hF:F≤2000000) (hs:st≤F) (n:Int) (s:ByteArray) (con to:ConT) (k:List KindT) (names:List ByteArray) (x:TermT) (env:List Th) (out:List ByteArray) (T':Nat) (ih:EvS F g) (h:evOK (.mk 8 n s con to k names [x]) env) (hg:F - st<g+1) (ho:out.length≤1000) :
   SpecR Tryz.prog 35 [.one (.ptr (.ref 0) 0),pp (encT (.mk 8 n s con to k names [x])),pp (encEnv env)] [runB 0 F st out] (encEv F T' (ev F (g+1) (.mk 8 n s con to k names [x]) env st out)):=by
 have hr:ev F (g+1) (.mk 8 n s con to k names [x]) env st out=andThen (ev F g x env (st+1) out) fun v st out=>.ok (packH v) st out:=by rw[ev,if_neg hst];rfl
 have h1:=evOK_part0 h (by decide)
 have hI:=evI_ev F g x env (st+1) out h1 (by omega) (by omega) ho
 have hsp:=ih x env (st+1) out 34 0 (encEnv env) h1 (by omega) (by omega) ho (PV.imp_refl _)
 rw[hr]
 generalize ev F g x env (st+1) out=r1 at hI hsp ⊢
 refine wE (rv:=[.tmp 6]) annEv 293 Tryz.func35 ?_
 simp only[go_sem,runB,encT_mk]
 refine aCall_intro (step_ok 0 F st out rfl hst (by omega)) ?_
 simp only[go_sem,runB]
 refine aCall_res hsp ?_
 cases r1 with
 |bad op1 m1 st1 out1=>
   simp only[go_sem,encEv,runB,finT_def,andThen]
   exact ⟨_,rfl⟩
 |ok v st1 out1=>
   obtain ⟨hv,i1,i2,i3⟩:=hI
   simp only[go_sem,encEv,runB,andThen,packH,enc_simple,finT_def]
   exact ⟨_,rfl⟩
theorem eval_12 (F g st:Nat) (hst:st≠F) (hF:F≤2000000) (hs:st≤F) (n:Int) (s:ByteArray) (con to:ConT) (k:List KindT) (names:List ByteArray) (x:TermT) (env:List Th) (out:List ByteArray) (T':Nat) (ih:EvS F g) (h:evOK (.mk 12 n s con to k names [x]) env) (hg:F - st<g+1) (ho:out.length≤1000) :
   SpecR Tryz.prog 35 [.one (.ptr (.ref 0) 0),pp (encT (.mk 12 n s con to k names [x])),pp (encEnv env)] [runB 0 F st out] (encEv F T' (ev F (g+1) (.mk 12 n s con to k names [x]) env st out)):=by
 have hr:ev F (g+1) (.mk 12 n s con to k names [x]) env st out=andThen (ev F g x env (st+1) out) fun v st out=>.ok (injH s v) st out:=by rw[ev,if_neg hst];rfl
 have h1:=evOK_part0 h (by decide)
 have hI:=evI_ev F g x env (st+1) out h1 (by omega) (by omega) ho
 have hsp:=ih x env (st+1) out 34 0 (encEnv env) h1 (by omega) (by omega) ho (PV.imp_refl _)
 rw[hr]
 generalize ev F g x env (st+1) out=r1 at hI hsp ⊢
 refine wE (rv:=[.tmp 6]) annEv 293 Tryz.func35 ?_
 simp only[go_sem,runB,encT_mk]
 refine aCall_intro (step_ok 0 F st out rfl hst (by omega)) ?_
 simp only[go_sem,runB]
 refine aCall_res hsp ?_
 cases r1 with
 |bad op1 m1 st1 out1=>
   simp only[go_sem,encEv,runB,finT_def,andThen]
   exact ⟨_,rfl⟩
 |ok v st1 out1=>
   obtain ⟨hv,i1,i2,i3⟩:=hI
   simp only[go_sem,encEv,runB,andThen,injH,enc_simple,finT_def]
   exact ⟨_,rfl⟩
theorem eval_14 (F g st:Nat) (hst:st≠F) (hF:F≤2000000) (hs:st≤F) (n:Int) (s:ByteArray) (con to:ConT) (k:List KindT) (names:List ByteArray) (x:TermT) (env:List Th) (out:List ByteArray) (T':Nat) (ih:EvS F g) (h:evOK (.mk 14 n s con to k names [x]) env) (hg:F - st<g+1) (ho:out.length≤1000) :
   SpecR Tryz.prog 35 [.one (.ptr (.ref 0) 0),pp (encT (.mk 14 n s con to k names [x])),pp (encEnv env)] [runB 0 F st out] (encEv F T' (ev F (g+1) (.mk 14 n s con to k names [x]) env st out)):=by
 have hr:ev F (g+1) (.mk 14 n s con to k names [x]) env st out=andThen (ev F g x env (st+1) out) fun v st out=>.ok (rollH v) st out:=by rw[ev,if_neg hst];rfl
 have h1:=evOK_part0 h (by decide)
 have hI:=evI_ev F g x env (st+1) out h1 (by omega) (by omega) ho
 have hsp:=ih x env (st+1) out 34 0 (encEnv env) h1 (by omega) (by omega) ho (PV.imp_refl _)
 rw[hr]
 generalize ev F g x env (st+1) out=r1 at hI hsp ⊢
 refine wE (rv:=[.tmp 6]) annEv 293 Tryz.func35 ?_
 simp only[go_sem,runB,encT_mk]
 refine aCall_intro (step_ok 0 F st out rfl hst (by omega)) ?_
 simp only[go_sem,runB]
 refine aCall_res hsp ?_
 cases r1 with
 |bad op1 m1 st1 out1=>
   simp only[go_sem,encEv,runB,finT_def,andThen]
   exact ⟨_,rfl⟩
 |ok v st1 out1=>
   obtain ⟨hv,i1,i2,i3⟩:=hI
   simp only[go_sem,encEv,runB,andThen,rollH,enc_simple,finT_def]
   exact ⟨_,rfl⟩
theorem eval_17 (F g st:Nat) (hst:st≠F) (hF:F≤2000000) (hs:st≤F) (n:Int) (s:ByteArray) (con to:ConT) (k:List KindT) (names:List ByteArray) (x y:TermT) (env:List Th) (out:List ByteArray) (T':Nat) (ih:EvS F g) (h:evOK (.mk 17 n s con to k names [x,y]) env) (hg:F - st<g+1) (ho:out.length≤1000) :
   SpecR Tryz.prog 35 [.one (.ptr (.ref 0) 0),pp (encT (.mk 17 n s con to k names [x,y])),pp (encEnv env)] [runB 0 F st out] (encEv F T' (ev F (g+1) (.mk 17 n s con to k names [x,y]) env st out)):=by
 have hr:ev F (g+1) (.mk 17 n s con to k names [x,y]) env st out=andThen (ev F g x env (st+1) out) fun v st out=>ev F g y (v::env) st out:=by rw[ev,if_neg hst];rfl
 have h1:=evOK_part0 h (by decide)
 have hI:=evI_ev F g x env (st+1) out h1 (by omega) (by omega) ho
 have hsp:=ih x env (st+1) out 34 0 (encEnv env) h1 (by omega) (by omega) ho (PV.imp_refl _)
 rw[hr]
 generalize ev F g x env (st+1) out=r1 at hI hsp ⊢
 refine wE (rv:=[.tmp 6]) annEv 293 Tryz.func35 ?_
 simp only[go_sem,runB,encT_mk]
 refine aCall_intro (step_ok 0 F st out rfl hst (by omega)) ?_
 simp only[go_sem,runB]
 refine aCall_res hsp ?_
 cases r1 with
 |bad op1 m1 st1 out1=>
   simp only[go_sem,encEv,runB,finT_def,andThen]
   exact ⟨_,rfl⟩
 |ok v st1 out1=>
   obtain ⟨hv,i1,i2,i3⟩:=hI
   simp only[go_sem,encEv,runB,andThen]
   have hsp2:=ih y (v::env) st1 out1 230 0 (.ep (.agg [encH v,encEnv env]) 0) (evOK_part1v h hv (by decide)) i2 (by omega) i3 (cons_imp (PV.imp_refl _))
   generalize ev F g y (v::env) st1 out1=r3 at hsp2 ⊢
   refine aCall_res hsp2 ?_
   cases r3 with
   |bad op3 m3 st3 out3=>
     simp only[go_sem,encEv,runB,finT_def,andThen]
     exact ⟨_,rfl⟩
   |ok w st3 out3=>
     simp only[go_sem,encEv,runB,finT_def,andThen]
     exact ⟨_,rfl⟩
theorem eval_15 (F g st:Nat) (hst:st≠F) (hF:F≤2000000) (hs:st≤F) (n:Int) (s:ByteArray) (con to:ConT) (k:List KindT) (names:List ByteArray) (x:TermT) (env:List Th) (out:List ByteArray) (T':Nat) (ih:EvS F g) (h:evOK (.mk 15 n s con to k names [x]) env) (hg:F - st<g+1) (ho:out.length≤1000) :
   SpecR Tryz.prog 35 [.one (.ptr (.ref 0) 0),pp (encT (.mk 15 n s con to k names [x])),pp (encEnv env)] [runB 0 F st out] (encEv F T' (ev F (g+1) (.mk 15 n s con to k names [x]) env st out)):=by
 have hr:ev F (g+1) (.mk 15 n s con to k names [x]) env st out=andThen (ev F g x env (st+1) out) fun v st out=>if v.op=5 then .ok (nthH v.l 0) st out else .bad 4 0 st out:=by rw[ev,if_neg hst];rfl
 have h1:=evOK_part0 h (by decide)
 have hI:=evI_ev F g x env (st+1) out h1 (by omega) (by omega) ho
 have hsp:=ih x env (st+1) out 34 0 (encEnv env) h1 (by omega) (by omega) ho (PV.imp_refl _)
 rw[hr]
 generalize ev F g x env (st+1) out=r1 at hI hsp ⊢
 refine wE (rv:=[.tmp 6]) annEv 293 Tryz.func35 ?_
 simp only[go_sem,runB,encT_mk]
 refine aCall_intro (step_ok 0 F st out rfl hst (by omega)) ?_
 simp only[go_sem,runB]
 refine aCall_res hsp ?_
 cases r1 with
 |bad op1 m1 st1 out1=>
   simp only[go_sem,encEv,runB,finT_def,andThen]
   exact ⟨_,rfl⟩
 |ok v st1 out1=>
   obtain ⟨hv,i1,i2,i3⟩:=hI
   simp only[go_sem,encEv,runB,andThen]
   by_cases h5:v.op=5
   · obtain ⟨w,hw⟩:∃w,v.l=[w]:=by
       have:=((okH_def v).1 hv).2.2.2.1 (.inr (.inl h5))
       match hl:v.l,this with
       | [w],_=>exact ⟨w,rfl⟩
     have d1:(v.op==5)=true:=by rw[h5];rfl
     rw[if_pos h5,hw]
     simp only[go_sem,d1]
     refine aCall_intro stuck_ok ?_
     simp only[go_sem,hw,encEv,runB,finT_def,nthH_zero]
     exact ⟨_,rfl⟩
   · have d1:(v.op==5)=false:=by rw[beq_eq_false_iff_ne];exact h5
     rw[if_neg h5]
     simp only[go_sem,d1]
     refine aCall_pan stuck_bad ?_
     simp only[go_sem,encEv,runB,finT_def,andThen]
     exact ⟨_,rfl⟩
theorem eval_5 (F g st:Nat) (hst:st≠F) (hF:F≤2000000) (hs:st≤F) (n:Int) (s:ByteArray) (con to:ConT) (k:List KindT) (names:List ByteArray) (x y:TermT) (env:List Th) (out:List ByteArray) (T':Nat) (ih:EvS F g) (h:evOK (.mk 5 n s con to k names [x,y]) env) (hg:F - st<g+1) (ho:out.length≤1000) :
   SpecR Tryz.prog 35 [.one (.ptr (.ref 0) 0),pp (encT (.mk 5 n s con to k names [x,y])),pp (encEnv env)] [runB 0 F st out] (encEv F T' (ev F (g+1) (.mk 5 n s con to k names [x,y]) env st out)):=by
 have hr:ev F (g+1) (.mk 5 n s con to k names [x,y]) env st out=andThen (ev F g x env (st+1) out) fun v st out=>andThen (ev F g y env st out) fun a st out=>if isFun v 4=true then ev F g (nthT v.part.l 0) (a::v.envOf) st out else .bad 4 0 st out:=by rw[ev,if_neg hst];rfl
 have h1:=evOK_part0 h (by decide)
 have hI:=evI_ev F g x env (st+1) out h1 (by omega) (by omega) ho
 have hsp:=ih x env (st+1) out 34 0 (encEnv env) h1 (by omega) (by omega) ho (PV.imp_refl _)
 rw[hr]
 generalize ev F g x env (st+1) out=r1 at hI hsp ⊢
 refine wE (rv:=[.tmp 6]) annEv 293 Tryz.func35 ?_
 simp only[go_sem,runB,encT_mk]
 refine aCall_intro (step_ok 0 F st out rfl hst (by omega)) ?_
 simp only[go_sem,runB]
 refine aCall_res hsp ?_
 cases r1 with
 |bad op1 m1 st1 out1=>
   simp only[go_sem,encEv,runB,finT_def,andThen]
   exact ⟨_,rfl⟩
 |ok v st1 out1=>
   obtain ⟨hv,i1,i2,i3⟩:=hI
   simp only[go_sem,encEv,runB,andThen]
   have h2:=evOK_part1 h (by decide)
   have hI2:=evI_ev F g y env st1 out1 h2 i2 (by omega) i3
   have hsp2:=ih y env st1 out1 230 0 (encEnv env) h2 i2 (by omega) i3 (PV.imp_refl _)
   generalize ev F g y env st1 out1=r2 at hI2 hsp2 ⊢
   refine aCall_res hsp2 ?_
   cases r2 with
   |bad op2 m2 st2 out2=>
     simp only[go_sem,encEv,runB,finT_def,andThen]
     exact ⟨_,rfl⟩
   |ok a st2 out2=>
     obtain ⟨ha,j1,j2,j3⟩:=hI2
     simp only[go_sem,encEv,runB,andThen]
     refine aCall_intro (function_spec v 4) ?_
     cases hf:isFun v 4 with
     |false=>
       simp only[go_sem]
       refine aCall_pan stuck_bad ?_
       simp only[go_sem,encEv,runB,finT_def,andThen]
       exact ⟨_,rfl⟩
     |true=>
       simp only[go_sem]
       refine aCall_intro stuck_ok ?_
       obtain ⟨b,hb⟩:∃b,v.part.l=[b]:=by
         have:=(body_ok hv hf (.inl rfl)).1
         match hl:v.part.l,this with
         | [b],_=>exact ⟨b,rfl⟩
       have h3:=fun_ok hv hf ha
       have e3:nthT v.part.l 0=b:=by rw[hb];rfl
       rw[e3] at h3 ⊢
       have hsp3:=ih b (a::v.envOf) st2 out2 252 0 (.ep (.agg [encH a,v.cellEnv]) 0) h3 j2 (by omega) j3 (cons_imp (cellEnv_imp v))
       simp only[go_sem,hb,encEv,runB]
       generalize ev F g b (a::v.envOf) st2 out2=r3 at hsp3 ⊢
       refine aCall_res hsp3 ?_
       cases r3 with
       |bad op3 m3 st3 out3=>
         simp only[go_sem,encEv,runB,finT_def,andThen]
         exact ⟨harm_desc (by kernel_rfl),_,rfl⟩
       |ok w st3 out3=>
         simp only[go_sem,encEv,runB,finT_def,andThen]
         exact ⟨_,rfl⟩
theorem eval_7 (F g st:Nat) (hst:st≠F) (hF:F≤2000000) (hs:st≤F) (n:Int) (s:ByteArray) (con to:ConT) (k:List KindT) (names:List ByteArray) (x:TermT) (env:List Th) (out:List ByteArray) (T':Nat) (ih:EvS F g) (h:evOK (.mk 7 n s con to k names [x]) env) (hg:F - st<g+1) (ho:out.length≤1000) :
   SpecR Tryz.prog 35 [.one (.ptr (.ref 0) 0),pp (encT (.mk 7 n s con to k names [x])),pp (encEnv env)] [runB 0 F st out] (encEv F T' (ev F (g+1) (.mk 7 n s con to k names [x]) env st out)):=by
 have hr:ev F (g+1) (.mk 7 n s con to k names [x]) env st out=andThen (ev F g x env (st+1) out) fun v st out=>if isFun v 6=true then ev F g (nthT v.part.l 0) v.envOf st out else .bad 4 0 st out:=by rw[ev,if_neg hst];rfl
 have h1:=evOK_part0 h (by decide)
 have hI:=evI_ev F g x env (st+1) out h1 (by omega) (by omega) ho
 have hsp:=ih x env (st+1) out 34 0 (encEnv env) h1 (by omega) (by omega) ho (PV.imp_refl _)
 rw[hr]
 generalize ev F g x env (st+1) out=r1 at hI hsp ⊢
 refine wE (rv:=[.tmp 6]) annEv 293 Tryz.func35 ?_
 simp only[go_sem,runB,encT_mk]
 refine aCall_intro (step_ok 0 F st out rfl hst (by omega)) ?_
 simp only[go_sem,runB]
 refine aCall_res hsp ?_
 cases r1 with
 |bad op1 m1 st1 out1=>
   simp only[go_sem,encEv,runB,finT_def,andThen]
   exact ⟨_,rfl⟩
 |ok v st1 out1=>
   obtain ⟨hv,i1,i2,i3⟩:=hI
   simp only[go_sem,encEv,runB,andThen]
   refine aCall_intro (function_spec v 6) ?_
   cases hf:isFun v 6 with
   |false=>
     simp only[go_sem]
     refine aCall_pan stuck_bad ?_
     simp only[go_sem,encEv,runB,finT_def,andThen,Bool.false_eq_true,if_false]
     exact ⟨_,rfl⟩
   |true=>
     simp only[go_sem]
     refine aCall_intro stuck_ok ?_
     obtain ⟨b,hb⟩:∃b,v.part.l=[b]:=by
       have:=(body_ok hv hf (.inr rfl)).1
       match hl:v.part.l,this with
       | [b],_=>exact ⟨b,rfl⟩
     have h3:=tfun_ok hv hf
     have e3:nthT v.part.l 0=b:=by rw[hb];rfl
     rw[e3] at h3 ⊢
     have hsp3:=ih b v.envOf st1 out1 230 0 v.cellEnv h3 i2 (by omega) i3 (cellEnv_imp v)
     simp only[go_sem,hb,encEv,runB]
     generalize ev F g b v.envOf st1 out1=r3 at hsp3 ⊢
     refine aCall_res hsp3 ?_
     cases r3 with
     |bad op3 m3 st3 out3=>
       simp only[go_sem,encEv,runB,finT_def,andThen]
       exact ⟨harm_desc (by kernel_rfl),_,rfl⟩
     |ok w st3 out3=>
       simp only[go_sem,encEv,runB,finT_def,andThen]
       exact ⟨_,rfl⟩
theorem eval_9 (F g st:Nat) (hst:st≠F) (hF:F≤2000000) (hs:st≤F) (n:Int) (s:ByteArray) (con to:ConT) (k:List KindT) (names:List ByteArray) (x y:TermT) (env:List Th) (out:List ByteArray) (T':Nat) (ih:EvS F g) (h:evOK (.mk 9 n s con to k names [x,y]) env) (hg:F - st<g+1) (ho:out.length≤1000) :
   SpecR Tryz.prog 35 [.one (.ptr (.ref 0) 0),pp (encT (.mk 9 n s con to k names [x,y])),pp (encEnv env)] [runB 0 F st out] (encEv F T' (ev F (g+1) (.mk 9 n s con to k names [x,y]) env st out)):=by
 have hr:ev F (g+1) (.mk 9 n s con to k names [x,y]) env st out=andThen (ev F g x env (st+1) out) fun v st out=>if v.op=6 then ev F g y (nthH v.l 0::env) st out else .bad 4 0 st out:=by rw[ev,if_neg hst];rfl
 have h1:=evOK_part0 h (by decide)
 have hI:=evI_ev F g x env (st+1) out h1 (by omega) (by omega) ho
 have hsp:=ih x env (st+1) out 34 0 (encEnv env) h1 (by omega) (by omega) ho (PV.imp_refl _)
 rw[hr]
 generalize ev F g x env (st+1) out=r1 at hI hsp ⊢
 refine wE (rv:=[.tmp 6]) annEv 293 Tryz.func35 ?_
 simp only[go_sem,runB,encT_mk]
 refine aCall_intro (step_ok 0 F st out rfl hst (by omega)) ?_
 simp only[go_sem,runB]
 refine aCall_res hsp ?_
 cases r1 with
 |bad op1 m1 st1 out1=>
   simp only[go_sem,encEv,runB,finT_def,andThen]
   exact ⟨_,rfl⟩
 |ok v st1 out1=>
   obtain ⟨hv,i1,i2,i3⟩:=hI
   simp only[go_sem,encEv,runB,andThen]
   by_cases h5:v.op=6
   · obtain ⟨w,hw⟩:∃w,v.l=[w]:=by
       have:=((okH_def v).1 hv).2.2.2.1 (.inr (.inr h5))
       match hl:v.l,this with
       | [w],_=>exact ⟨w,rfl⟩
     have hwok:okH w:=by have:=((okH_def v).1 hv).2.2.2.2.2.1;rw[hw] at this;exact this.1
     have d1:(v.op==6)=true:=by rw[h5];rfl
     have hsp3:=ih y (w::env) st1 out1 230 0 (.ep (.agg [encH w,encEnv env]) 0) (evOK_part1v h hwok (by decide)) i2 (by omega) i3 (cons_imp (PV.imp_refl _))
     rw[if_pos h5,hw,nthH_zero]
     simp only[go_sem,d1]
     refine aCall_intro stuck_ok ?_
     simp only[go_sem,hw,encEv,runB]
     generalize ev F g y (w::env) st1 out1=r3 at hsp3 ⊢
     refine aCall_res hsp3 ?_
     cases r3 with
     |bad op3 m3 st3 out3=>
       simp only[go_sem,encEv,runB,finT_def,andThen]
       exact ⟨harm_desc (by kernel_rfl),_,rfl⟩
     |ok w st3 out3=>
       simp only[go_sem,encEv,runB,finT_def,andThen]
       exact ⟨_,rfl⟩
   · have d1:(v.op==6)=false:=by rw[beq_eq_false_iff_ne];exact h5
     rw[if_neg h5]
     simp only[go_sem,d1]
     refine aCall_pan stuck_bad ?_
     simp only[go_sem,encEv,runB,finT_def,andThen]
     exact ⟨_,rfl⟩
theorem eval_11 (F g st:Nat) (hst:st≠F) (hF:F≤2000000) (hs:st≤F) (n:Int) (s:ByteArray) (con to:ConT) (k:List KindT) (names:List ByteArray) (x:TermT) (env:List Th) (out:List ByteArray) (T':Nat) (ih:EvS F g) (h:evOK (.mk 11 n s con to k names [x]) env) (hg:F - st<g+1) (ho:out.length≤1000) :
   SpecR Tryz.prog 35 [.one (.ptr (.ref 0) 0),pp (encT (.mk 11 n s con to k names [x])),pp (encEnv env)] [runB 0 F st out] (encEv F T' (ev F (g+1) (.mk 11 n s con to k names [x]) env st out)):=by
 have hr:ev F (g+1) (.mk 11 n s con to k names [x]) env st out=andThen (ev F g x env (st+1) out) fun v st out=>if v.op=3∧0≤findS v.names s 0 then .ok (nthH v.l (findS v.names s 0).toNat) st out else .bad 4 0 st out:=by rw[ev,if_neg hst];rfl
 have h1:=evOK_part0 h (by decide)
 have hI:=evI_ev F g x env (st+1) out h1 (by omega) (by omega) ho
 have hsp:=ih x env (st+1) out 34 0 (encEnv env) h1 (by omega) (by omega) ho (PV.imp_refl _)
 rw[hr]
 generalize ev F g x env (st+1) out=r1 at hI hsp ⊢
 refine wE (rv:=[.tmp 6]) annEv 293 Tryz.func35 ?_
 simp only[go_sem,runB,encT_mk]
 refine aCall_intro (step_ok 0 F st out rfl hst (by omega)) ?_
 simp only[go_sem,runB]
 refine aCall_res hsp ?_
 cases r1 with
 |bad op1 m1 st1 out1=>
   simp only[go_sem,encEv,runB,finT_def,andThen]
   exact ⟨_,rfl⟩
 |ok v st1 out1=>
   obtain ⟨hv,i1,i2,i3⟩:=hI
   simp only[go_sem,encEv,runB,andThen]
   refine aCall_intro (Index_spec v.names s) ?_
   by_cases h5:v.op=3
   · have d1:(v.op==3)=true:=by rw[h5];rfl
     by_cases h6:0≤findS v.names s 0
     · have d2:decide (findS v.names s 0≥0)=true:=decide_eq_true h6
       have hlt:=(findS_lt v.names s 0 (Int.le_refl _)).resolve_left (by omega)
       have hll:=((okH_def v).1 hv).2.2.1 h5
       have hx:(v.l.map encH)[(findS v.names s 0).toNat]? = some (encH (nthH v.l (findS v.names s 0).toNat)):=by
         rw[List.getElem?_map,nthH,List.getD_eq_getElem?_getD,List.getElem?_eq_getElem (by omega)];rfl
       rw[if_pos ⟨h5,h6⟩]
       simp only[go_sem,d1,d2]
       refine aCall_intro stuck_ok ?_
       simp only[go_sem,h6,hx,encEv,runB,finT_def]
       exact ⟨_,rfl⟩
     · have d2:decide (findS v.names s 0≥0)=false:=decide_eq_false h6
       rw[if_neg (fun e=>h6 e.2)]
       simp only[go_sem,d1,d2]
       refine aCall_pan stuck_bad ?_
       simp only[go_sem,encEv,runB,finT_def,andThen]
       exact ⟨_,rfl⟩
   · have d1:(v.op==3)=false:=by rw[beq_eq_false_iff_ne];exact h5
     rw[if_neg (fun e=>h5 e.1)]
     simp only[go_sem,d1]
     refine aCall_pan stuck_bad ?_
     simp only[go_sem,encEv,runB,finT_def,andThen]
     exact ⟨_,rfl⟩
theorem eval_13 (F g st:Nat) (hst:st≠F) (hF:F≤2000000) (hs:st≤F) (n:Int) (s:ByteArray) (con to:ConT) (k:List KindT) (names:List ByteArray) (x:TermT) (ys:List TermT) (env:List Th) (out:List ByteArray) (T':Nat) (ih:EvS F g) (h:evOK (.mk 13 n s con to k names (x::ys)) env) (hg:F - st<g+1) (ho:out.length≤1000) :
   SpecR Tryz.prog 35 [.one (.ptr (.ref 0) 0),pp (encT (.mk 13 n s con to k names (x::ys))),pp (encEnv env)] [runB 0 F st out] (encEv F T' (ev F (g+1) (.mk 13 n s con to k names (x::ys)) env st out)):=by
 have hr:ev F (g+1) (.mk 13 n s con to k names (x::ys)) env st out=andThen (ev F g x env (st+1) out) fun v st out=>if v.op=4∧0≤findS names v.s 0 then ev F g (nthT (x::ys) ((findS names v.s 0).toNat+1)) (nthH v.l 0::env) st out else .bad 4 0 st out:=by rw[ev,if_neg hst];rfl
 have h1:=evOK_part0 h (by decide)
 have hI:=evI_ev F g x env (st+1) out h1 (by omega) (by omega) ho
 have hsp:=ih x env (st+1) out 34 0 (encEnv env) h1 (by omega) (by omega) ho (PV.imp_refl _)
 rw[hr]
 generalize ev F g x env (st+1) out=r1 at hI hsp ⊢
 refine wE (rv:=[.tmp 6]) annEv 293 Tryz.func35 ?_
 simp only[go_sem,runB,encT_mk]
 refine aCall_intro (step_ok 0 F st out rfl hst (by omega)) ?_
 simp only[go_sem,runB]
 refine aCall_res hsp ?_
 cases r1 with
 |bad op1 m1 st1 out1=>
   simp only[go_sem,encEv,runB,finT_def,andThen]
   exact ⟨_,rfl⟩
 |ok v st1 out1=>
   obtain ⟨hv,i1,i2,i3⟩:=hI
   simp only[go_sem,encEv,runB,andThen]
   refine aCall_intro (Index_spec names v.s) ?_
   by_cases h5:v.op=4
   · have d1:(v.op==4)=true:=by rw[h5];rfl
     by_cases h6:0≤findS names v.s 0
     · have d2:decide (findS names v.s 0≥0)=true:=decide_eq_true h6
       have hlt:=(findS_lt names v.s 0 (Int.le_refl _)).resolve_left (by omega)
       obtain ⟨w,hw⟩:∃w,v.l=[w]:=by
         have:=((okH_def v).1 hv).2.2.2.1 (.inl h5)
         match hl:v.l,this with
         | [w],_=>exact ⟨w,rfl⟩
       have hwok:okH w:=by have:=((okH_def v).1 hv).2.2.2.2.2.1;rw[hw] at this;exact this.1
       have hlen:=parts_case h.1 rfl
       have hlen':(x::ys).length=names.length+1:=hlen
       have hnl:names.length≤1000000:=by
         have hn:=node_names h.1
         exact hn
       have hj:(findS names v.s 0).toNat+1<(x::ys).length:=by omega
       obtain ⟨j,hje⟩:=Int.eq_ofNat_of_zero_le h6
       have hje':(findS names v.s 0).toNat=j:=by rw[hje];rfl
       rw[hje'] at hj ⊢
       have w4:IntKind.i64.wrap ((j:Int)+1)=((j+1:Nat):Int):=by rw[wrapI (by omega) (by omega)];simp
       have hok:=part_ok1 (i:=j+1) h hwok hj (insT_case j)
       have hok':evOK (nthT (x::ys) (j+1)) (w::env):=hok
       have hx:(encT x::ys.map encT)[j+1]? = some (encT (nthT (x::ys) (j+1))):=by
         have:(encT x::ys.map encT)=(x::ys).map encT:=rfl
         rw[this,List.getElem?_map,nthT,List.getD_eq_getElem?_getD,List.getElem?_eq_getElem hj];rfl
       have hsp3:=ih (nthT (x::ys) (j+1)) (w::env) st1 out1 230 0 (.ep (.agg [encH w,encEnv env]) 0) hok' i2 (by omega) i3 (cons_imp (PV.imp_refl _))
       rw[if_pos ⟨h5,h6⟩,hw,nthH_zero]
       simp only[go_sem,d1,d2]
       refine aCall_intro stuck_ok ?_
       rw[hje]
       simp only[go_sem,w4,Int.natCast_nonneg,Int.toNat_natCast,hx,hw,encEv,runB]
       generalize ev F g (nthT (x::ys) (j+1)) (w::env) st1 out1=r3 at hsp3 ⊢
       refine aCall_res hsp3 ?_
       cases r3 with
       |bad op3 m3 st3 out3=>
         simp only[go_sem,encEv,runB,finT_def,andThen]
         exact ⟨harm_desc (by kernel_rfl),_,rfl⟩
       |ok w st3 out3=>
         simp only[go_sem,encEv,runB,finT_def,andThen]
         exact ⟨_,rfl⟩
     · have d2:decide (findS names v.s 0≥0)=false:=decide_eq_false h6
       rw[if_neg (fun e=>h6 e.2)]
       simp only[go_sem,d1,d2]
       refine aCall_pan stuck_bad ?_
       simp only[go_sem,encEv,runB,finT_def,andThen]
       exact ⟨_,rfl⟩
   · have d1:(v.op==4)=false:=by rw[beq_eq_false_iff_ne];exact h5
     rw[if_neg (fun e=>h5 e.1)]
     simp only[go_sem,d1]
     refine aCall_pan stuck_bad ?_
     simp only[go_sem,encEv,runB,finT_def,andThen]
     exact ⟨_,rfl⟩
end Go.Abs.Kon
