/- The law TermCommutes. -/
import Derived.Test.YtafhcphggdipaaaGreatDoorTermE
import Derived.Test.YtafhcphggdipaaaGreatDoorTermG
import Derived.Test.YtafhcphggdipaaaGreatDoorTermX
set_option linter.unusedSimpArgs false
set_option linter.unusedVariables false
namespace Go.Abs.Kon
open Go Go.Proofs Go.Abs
set_option maxRecDepth 100000
set_option maxHeartbeats 4000000
theorem kept_orC (a:TermT):((keptT a).2=0∧(keptT a).1=a∧validT a=true)∨(keptT a).2=6:=by
 rw[keptT]
 cases hx:validT a with
 |true=>left;rw[if_pos rfl];exact ⟨rfl,rfl,rfl⟩
 |false=>right;rw[if_neg (by decide)]
theorem TermCommutes_spec (t by':TermT) (l:List ConT) (hok:okT t) (hwc:wcT t) (hok':okT by') (hwc':wcT by') (hl:∀c∈l,wtF c≤900000000∧okS c) (hln:l.length≤100000000) :
   Spec Tryz.prog 5 [pp (encT t),pp (encT by'),pp (.slice (l.map encC))] [] (.bool true) []:=by
 have hAw:=tawake_spec
 have hB1:=big_spec t
 have hB2:=big_spec by'
 have hW:=wide_spec l
 have hV:=rtValid_spec t hok
 have hV':=rtValid_spec by' hok'
 have hVl:=rValidAll_spec l fun c hc=>(hl c hc).2
 have hX:=tSubst_specV t by' hok hok'
 have hA:=tSubstCons_specV t l hok hl hln
 have hB:=tSubstCons_specV by' l hok' hl hln
 have good:validT t=true→validT by'=true→l.all validF=true→l.length≤10 →
     ∃X A B K:TermT×Int,SubstT t by'=X∧SubstConsT t l=A∧SubstConsT by' l=B∧(X.2=0∨X.2=6)∧(A.2=0∨A.2=6)∧(B.2=0∨B.2=6) ∧
     (X.2=0→A.2=0→B.2=0→(K.2=0∨K.2=6)∧Spec Tryz.prog 21 [pp (encT X.1),pp (.slice (l.map encC))] [] (.tuple [encT K.1,.int .i64 K.2]) [] ∧
       Spec Tryz.prog 17 [pp (encT A.1),pp (encT B.1)] [] (.tuple [encT K.1,.int .i64 K.2]) []):=fun h1 h2 h3 h4=>by
   obtain ⟨hwf,_⟩:=valid_wf h1
   obtain ⟨hwf',_⟩:=valid_wf h2
   have hlS:∀x∈l,okS x:=fun x hx=>(hl x hx).2
   refine ⟨_,_,_,keptT (subCM l (subM by' t)),SubstT_M h1 h2,SubstConsT_M h1 h3 (by omega),SubstConsT_M h2 h3 (by omega),(kept_orC _).imp (fun h=>h.1) id,(kept_orC _).imp (fun h=>h.1) id,(kept_orC _).imp (fun h=>h.1) id,fun e1 e2 e3=>?_⟩
   have f1:=(kept_orC (subM by' t)).resolve_right (by omega)
   have f2:=(kept_orC (subCM l t)).resolve_right (by omega)
   have f3:=(kept_orC (subCM l by')).resolve_right (by omega)
   refine ⟨(kept_orC _).imp (fun h=>h.1) id,?_,?_⟩
   · have:=tSubstCons_specV (subM by' t) l (subM_okwc hok hwc hok' hwc').1 hl hln
     rw[SubstConsT_M f1.2.2 h3 (by omega)] at this
     rw[f1.2.1]
     exact this
   · have:=tSubst_specV (subCM l t) (subCM l by') (subCM_okT l h3 hlS hok hwf) (subCM_okT l h3 hlS hok' hwf')
     rw[SubstT_M f2.2.2 f3.2.2,←sub_commutes l hwf hwf'] at this
     rw[f2.2.1,f3.2.1]
     exact this
 clear hok hwc hok' hwc' hl hln
 generalize SubstT t by'=X at *
 generalize SubstConsT t l=A at *
 generalize SubstConsT by' l=B at *
 generalize validT t=v at *
 generalize validT by'=v' at *
 generalize l.all validF=vl at *
 generalize bigT t=b1 at *
 generalize bigT by'=b2 at *
 generalize wideF l=b3 at *
 refine wk (rv:=[.tmp 6]) ann5 105 Tryz.func5 ?_
 simp only[go_sem]
 refine aCall_intro hAw ?_
 simp only[go_sem,encT_sz]
 refine aCall_intro hB1 ?_
 cases b1 with
 |true=>simp only[go_sem]
 |false=>
 simp only[go_sem,encT_sz]
 refine aCall_intro hB2 ?_
 cases b2 with
 |true=>simp only[go_sem]
 |false=>
 simp only[go_sem,encT_sz]
 refine aCall_intro hW ?_
 cases b3 with
 |true=>simp only[go_sem]
 |false=>
 by_cases h10:l.length≤10
 rotate_left
 · have d1:decide ((l.length:Int)>10)=true:=decide_eq_true (by omega)
   simp only[go_sem,List.length_map,d1]
 have d1:decide ((l.length:Int)>10)=false:=decide_eq_false (by omega)
 simp only[go_sem,List.length_map,d1,encT_sz]
 refine aCall_intro hV ?_
 cases v with
 |false=>simp only[go_sem]
 |true=>
 simp only[go_sem,encT_sz]
 refine aCall_intro hV' ?_
 cases v' with
 |false=>simp only[go_sem]
 |true=>
 simp only[go_sem,encT_sz]
 refine aCall_intro hVl ?_
 cases vl with
 |false=>simp only[go_sem]
 |true=>
 obtain ⟨_,_,_,K,rfl,rfl,rfl,hx,ha,hb,hg⟩:=good rfl rfl rfl h10
 have e00:((0:Int) != 0)=false:=rfl
 have e00':((0:Int)==0)=true:=rfl
 have e60:((6:Int)==0)=false:=rfl
 have e60':((6:Int) != 0)=true:=rfl
 have e66:((6:Int)==6)=true:=rfl
 simp only[go_sem,encT_sz]
 refine aCall_intro hX ?_
 simp only[go_sem,encT_sz]
 refine aCall_intro hA ?_
 simp only[go_sem,encT_sz]
 refine aCall_intro hB ?_
 rcases hx with hx|hx
 rotate_left
 · simp only[go_sem,encT_sz,hx,e60']
 rcases ha with ha|ha
 rotate_left
 · simp only[go_sem,encT_sz,hx,ha,e00,e60']
 rcases hb with hb|hb
 rotate_left
 · simp only[go_sem,encT_sz,hx,ha,hb,e00,e60']
 obtain ⟨hk,s1,s2⟩:=hg hx ha hb
 have hS:=rtSame_spec K.1 K.1
 rw[sameT_refl] at hS
 simp only[go_sem,encT_sz,hx,ha,hb,e00]
 refine aCall_intro s1 ?_
 simp only[go_sem,encT_sz]
 refine aCall_intro s2 ?_
 rcases hk with hk|hk
 all_goals
   simp only[go_sem,encT_sz,hk,e00',e60,e66]
   refine aCall_intro hS ?_
   simp only[go_sem,encT_sz,hk,e00',e60,e66]
theorem TermCommutes_all (t by':TermT) (l:List ConT) (h:okTL t) (h':okTL by') (hl:∀c∈l,okSL c) :
   Spec Tryz.prog 5 [pp (encT t),pp (encT by'),pp (.slice (l.map encC))] [] (.bool true) []:=by
 by_cases hg:validT t=true∧validT by'=true∧l.all validF=true∧l.length≤10
 · obtain ⟨g1,g2,g3,g4⟩:=hg
   exact TermCommutes_spec t by' l (valid_okwc g1).1 (valid_okwc g1).2 (valid_okwc g2).1 (valid_okwc g2).2 (fun c hc=>validF_okwc (List.all_eq_true.1 g3 c hc)) (by omega)
 have hAw:=tawake_spec
 have hB1:=big_spec t
 have hB2:=big_spec by'
 have hW:=wide_spec l
 have hV:=rtValid_specL t h
 have hV':=rtValid_specL by' h'
 have hVl:=rValidAll_specL l hl
 generalize validT t=v at *
 generalize validT by'=v' at *
 generalize l.all validF=vl at *
 generalize bigT t=b1 at *
 generalize bigT by'=b2 at *
 generalize wideF l=b3 at *
 clear h h' hl
 refine wk (rv:=[.tmp 6]) ann5 105 Tryz.func5 ?_
 simp only[go_sem]
 refine aCall_intro hAw ?_
 simp only[go_sem,encT_sz]
 refine aCall_intro hB1 ?_
 cases b1 with
 |true=>simp only[go_sem]
 |false=>
 simp only[go_sem,encT_sz]
 refine aCall_intro hB2 ?_
 cases b2 with
 |true=>simp only[go_sem]
 |false=>
 simp only[go_sem,encT_sz]
 refine aCall_intro hW ?_
 cases b3 with
 |true=>simp only[go_sem]
 |false=>
 by_cases h10:l.length≤10
 rotate_left
 · have d1:decide ((l.length:Int)>10)=true:=decide_eq_true (by omega)
   simp only[go_sem,List.length_map,d1]
 have d1:decide ((l.length:Int)>10)=false:=decide_eq_false (by omega)
 simp only[go_sem,List.length_map,d1,encT_sz]
 refine aCall_intro hV ?_
 cases v with
 |false=>simp only[go_sem]
 |true=>
 simp only[go_sem,encT_sz]
 refine aCall_intro hV' ?_
 cases v' with
 |false=>simp only[go_sem]
 |true=>
 simp only[go_sem,encT_sz]
 refine aCall_intro hVl ?_
 cases vl with
 |false=>simp only[go_sem]
 |true=>exact absurd ⟨rfl,rfl,rfl,h10⟩ hg
end Go.Abs.Kon
