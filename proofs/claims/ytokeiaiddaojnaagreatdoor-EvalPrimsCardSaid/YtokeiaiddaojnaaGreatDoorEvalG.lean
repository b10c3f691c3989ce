/- Evaluation: the reference's functions and simple terms. -/
import Derived.Test.YtokeiaiddaojnaaGreatDoorEvalF
set_option linter.unusedSimpArgs false
set_option linter.unusedVariables false
namespace Go.Abs.Kon
open Go Go.Proofs Go.Abs
set_option maxRecDepth 100000
set_option maxHeartbeats 400000
theorem texts_spec (k:Int):Spec Tryz.prog 98 [ii k] [] (.bool (kindP k==2)) []:=by
 refine wk (rv:=[.tmp 2]) ann98 17 Tryz.func98 ?_
 simp only[go_sem]
 repeat' ((first|refine condK_intro (fun _=>?_) (fun _=>?_)|refine guardK_intro (fun _=>?_) (fun _=>?_))<;>simp only[go_sem,List.length_map])
 all_goals (unfold kindP;by_cases h14:k=14<;>simp_all)
theorem arity_spec (k:Int):Spec Tryz.prog 99 [ii k] [] (.int .i64 (if k=6∨k=11∨k=13∨k=14 then 1 else 2)) []:=by
 refine wk (rv:=[.tmp 2]) ann99 17 Tryz.func99 ?_
 simp only[go_sem]
 repeat' ((first|refine condK_intro (fun _=>?_) (fun _=>?_)|refine guardK_intro (fun _=>?_) (fun _=>?_))<;>simp only[go_sem,List.length_map])
 all_goals simp_all
theorem Fit_spec (k:Int) (h1:1≤k) (h2:k≤14) (l:List Th) (hl:l.length=(opsP k).1):Spec Tryz.prog 56 [ii k,pp (.slice (l.map encW))] [] (.bool (!(l.any fun v=>v.op != kindP k))) []:=by
 have har:(if k=6∨k=11∨k=13∨k=14 then (1:Int) else 2)=l.length:=by
   rw[hl]
   have hk:k=1∨k=2∨k=3∨k=4∨k=5∨k=6∨k=7∨k=8∨k=9∨k=10∨k=11∨k=12∨k=13∨k=14:=by omega
   rcases hk with rfl|rfl|rfl|rfl|rfl|rfl|rfl|rfl|rfl|rfl|rfl|rfl|rfl|rfl<;>rfl
 have hlen:l.length≤2:=by
   rw[hl]
   have hk:k=1∨k=2∨k=3∨k=4∨k=5∨k=6∨k=7∨k=8∨k=9∨k=10∨k=11∨k=12∨k=13∨k=14:=by omega
   rcases hk with rfl|rfl|rfl|rfl|rfl|rfl|rfl|rfl|rfl|rfl|rfl|rfl|rfl|rfl<;>decide
 have hk2:kindP k=1∨kindP k=2:=kindP_or k
 have ht:=texts_spec k
 have ha:=arity_spec k
 rw[har] at ha
 generalize kindP k=kk at hk2 ht ⊢
 generalize hR:(!(l.any fun v=>v.op != kk))=R
 refine wk (rv:=[.tmp 4]) ann56 27 Tryz.func56 ?_
 simp only[go_sem]
 refine aCall_intro ht ?_
 rcases hk2 with rfl|rfl
 · have d1:((1:Int)==2)=false:=rfl
   rw[d1]
   simp only[go_sem]
   refine aLoop_list (α:=Th) (β:=Nat) (fun rest m=>⟨[(6,ii m),(5,ii 1),(1,pp (.slice (l.map encW))),(0,ii k)],[],[]⟩) (fun rest m=>(∃pre,l=pre++rest∧m=pre.length)∧(!(rest.any fun v=>v.op != 1))=R) ?_ ?_ l 0 _ ?_ ⟨⟨[],rfl,rfl⟩,hR⟩
   · rintro m ⟨⟨pre,g1,g2⟩,g3⟩ K
     simp only[List.append_nil] at g1
     subst g1
     rw[List.any_nil] at g3
     subst g3
     have d2:((l.length:Int)==(l.length:Int))=true:=by rw[beq_iff_eq]
     simp only[go_sem,g2,lt_false (Int.le_refl _),List.length_map]
     refine aCall_intro ha ?_
     simp only[go_sem,d2,Bool.not_false,List.length_map]
   · rintro x rest m ⟨⟨pre,g1,g2⟩,g3⟩ K hK
     have hx:(l.map encW)[m]? = some (encW x):=by simp[g1,g2]
     have hlt:decide ((m:Int)<(l.length:Int))=true:=decide_eq_true (by rw[g1,g2];simp;omega)
     have hll:m<l.length:=by rw[g1,g2];simp
     have w4:IntKind.i64.wrap ((m:Int)+1)=((m+1:Nat):Int):=by rw[wrapI (by omega) (by omega)];simp
     cases x with
     |mk op1 n1 s1 names1 l1 part1 env1 fix1=>
       rw[List.any_cons,Th.op] at g3
       cases hb:(op1 != 1) with
       |true=>
         rw[hb,Bool.true_or] at g3
         subst g3
         simp only[go_sem,hlt,hx,encW_mk,hb,List.length_map,Bool.not_true]
       |false=>
         rw[hb,Bool.false_or] at g3
         simp only[go_sem,hlt,hx,encW_mk,hb,w4,List.length_map]
         refine hK (m+1) _ ?_ ⟨⟨pre++[Th.mk op1 n1 s1 names1 l1 part1 env1 fix1],by simp[g1],by simp[g2]⟩,g3⟩
         simp only[go_sem]
   · simp only[go_sem,Int.natCast_zero]
 · have d1:((2:Int)==2)=true:=rfl
   rw[d1]
   simp only[go_sem]
   refine aLoop_list (α:=Th) (β:=Nat) (fun rest m=>⟨[(6,ii m),(5,ii 2),(1,pp (.slice (l.map encW))),(0,ii k)],[],[]⟩) (fun rest m=>(∃pre,l=pre++rest∧m=pre.length)∧(!(rest.any fun v=>v.op != 2))=R) ?_ ?_ l 0 _ ?_ ⟨⟨[],rfl,rfl⟩,hR⟩
   · rintro m ⟨⟨pre,g1,g2⟩,g3⟩ K
     simp only[List.append_nil] at g1
     subst g1
     rw[List.any_nil] at g3
     subst g3
     have d2:((l.length:Int)==(l.length:Int))=true:=by rw[beq_iff_eq]
     simp only[go_sem,g2,lt_false (Int.le_refl _),List.length_map]
     refine aCall_intro ha ?_
     simp only[go_sem,d2,Bool.not_false,List.length_map]
   · rintro x rest m ⟨⟨pre,g1,g2⟩,g3⟩ K hK
     have hx:(l.map encW)[m]? = some (encW x):=by simp[g1,g2]
     have hlt:decide ((m:Int)<(l.length:Int))=true:=decide_eq_true (by rw[g1,g2];simp;omega)
     have hll:m<l.length:=by rw[g1,g2];simp
     have w4:IntKind.i64.wrap ((m:Int)+1)=((m+1:Nat):Int):=by rw[wrapI (by omega) (by omega)];simp
     cases x with
     |mk op1 n1 s1 names1 l1 part1 env1 fix1=>
       rw[List.any_cons,Th.op] at g3
       cases hb:(op1 != 2) with
       |true=>
         rw[hb,Bool.true_or] at g3
         subst g3
         simp only[go_sem,hlt,hx,encW_mk,hb,List.length_map,Bool.not_true]
       |false=>
         rw[hb,Bool.false_or] at g3
         simp only[go_sem,hlt,hx,encW_mk,hb,w4,List.length_map]
         refine hK (m+1) _ ?_ ⟨⟨pre++[Th.mk op1 n1 s1 names1 l1 part1 env1 fix1],by simp[g1],by simp[g2]⟩,g3⟩
         simp only[go_sem]
   · simp only[go_sem,Int.natCast_zero]
end Go.Abs.Kon
namespace Go.Abs.Kon
open Go Go.Proofs Go.Abs
set_option maxRecDepth 100000
set_option maxHeartbeats 400000
end Go.Abs.Kon
