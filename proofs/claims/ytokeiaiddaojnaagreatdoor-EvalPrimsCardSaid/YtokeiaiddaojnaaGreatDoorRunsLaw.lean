/- The law EvalRuns. -/
import Derived.Test.YtokeiaiddaojnaaGreatDoorGuardB
set_option linter.unusedSimpArgs false
set_option linter.unusedVariables false
namespace Go.Abs.Kon
open Go Go.Proofs Go.Abs
set_option maxRecDepth 100000
set_option maxHeartbeats 1000000
@[go_sem] theorem encOut_sz (o:OutT):PV.hasSz (.agg 9) (encOut o)=true:=rfl
def numE (n:Int):TermT:=.mk 2 n ByteArray.empty zeroC zeroC [] [] []
def opE (k:Int) (a b:TermT):TermT:=.mk 18 k ByteArray.empty zeroC zeroC [] [] [a,b]
def varE:TermT:=.mk 1 0 ByteArray.empty zeroC zeroC [] [] []
def awakeT:TermT:=.mk 17 0 ByteArray.empty zeroC zeroC [] [] [numE 2,opE 1 (opE 3 varE varE) (numE 1)]
def fiveO:OutT:=⟨1,0,7,.mk 1 5 ByteArray.empty [] [],[]⟩
theorem awake_closed:closedT awakeT=true:=by kernel_rfl
theorem awake_ev:ev 100 101 awakeT [] 0 []=.ok (intH 5) 7 []:=by kernel_rfl
theorem awake_run:runP awakeT 100=(fiveO,0):=by
 rw[runP,if_neg (by rw[awake_closed];decide),if_neg (by decide),runE]
 show (outE (ev 100 101 awakeT [] 0 []),(0:Int))=_
 rw[awake_ev]
 rfl
theorem awake_okT:okT awakeT∧wcT awakeT:=by
 have:=fewT_ok awakeT 1500 0 (by decide) (by decide) (by kernel_rfl)
 exact ⟨this.1,this.2.1⟩
theorem awake1_spec (n:Int):Spec Tryz.prog 26 [ii n] [] (encT (numE n)) []:=by
 refine wk (rv:=[.cell 2 31]) ann26 5 Tryz.func26 ?_
 simp only[go_sem,numE,encT_mk,zeroC,ConT.op,ConT.n,ConT.s,ConT.k,ConT.names,ConT.l,List.map_nil]
theorem awake2_spec (k:Int) (a b:TermT):Spec Tryz.prog 27 [ii k,pp (encT a),pp (encT b)] [] (encT (opE k a b)) []:=by
 refine wk (rv:=[.cell 6 31]) ann27 12 Tryz.func27 ?_
 simp only[go_sem,opE,encT_mk,zeroC,ConT.op,ConT.n,ConT.s,ConT.k,ConT.names,ConT.l,List.map_nil,List.map_cons]
theorem awake_spec:Spec Tryz.prog 8 [] [] (.bool true) []:=by
 have hr:=run_spec awakeT 100 awake_okT.1 awake_okT.2
 rw[awake_run] at hr
 have e1:encT awakeT=.agg [.int .i64 17,.int .i64 0,.str ByteArray.empty,.int .i64 0,.int .i64 0,.str ByteArray.empty,.slice [],.slice [],.slice [],.int .i64 0,.int .i64 0,.str ByteArray.empty,.slice [],.slice [],.slice [],.slice [],.slice [],.slice [encT (numE 2),encT (opE 1 (opE 3 varE varE) (numE 1))]]:=by
   rw[awakeT,encT_mk];rfl
 rw[e1] at hr
 have e2:encT varE=.agg [.int .i64 1,.int .i64 0,.str ByteArray.empty,.int .i64 0,.int .i64 0,.str ByteArray.empty,.slice [],.slice [],.slice [],.int .i64 0,.int .i64 0,.str ByteArray.empty,.slice [],.slice [],.slice [],.slice [],.slice [],.slice []]:=by
   rw[varE,encT_mk];rfl
 have h3:=awake2_spec 3 varE varE
 rw[e2] at h3
 refine wk (rv:=[.tmp 0]) ann8 47 Tryz.func8 ?_
 simp only[go_sem]
 iterate 8 (try (refine ⟨by kernel_rfl,?_⟩))
 refine aCall_intro (awake1_spec 2) ?_
 simp only[go_sem]
 iterate 8 (try (refine ⟨by kernel_rfl,?_⟩))
 refine aCall_intro h3 ?_
 simp only[go_sem]
 iterate 8 (try (refine ⟨by kernel_rfl,?_⟩))
 refine aCall_intro (awake1_spec 1) ?_
 simp only[go_sem]
 iterate 8 (try (refine ⟨by kernel_rfl,?_⟩))
 refine aCall_intro (awake2_spec 1 (opE 3 varE varE) (numE 1)) ?_
 simp only[go_sem]
 iterate 8 (try (refine ⟨by kernel_rfl,?_⟩))
 refine aCall_intro hr ?_
 simp only[go_sem,fiveO,encOut,ValT.op,ValT.n,ValT.s,ValT.names,ValT.l]
 repeat' (first | (show anc _ _ _ _=true;kernel_rfl) | (refine And.intro ?_ ?_))
 all_goals try simp only[go_sem,fiveO,encOut,ValT.op,ValT.n,ValT.s,ValT.names,ValT.l]
end Go.Abs.Kon
