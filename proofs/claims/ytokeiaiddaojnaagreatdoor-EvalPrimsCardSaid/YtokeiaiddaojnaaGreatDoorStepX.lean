/- Terms that are closed stay closed. -/
import Derived.Test.YtokeiaiddaojnaaGreatDoorStepA
set_option linter.unusedSimpArgs false
set_option linter.unusedVariables false
namespace Go.Abs.Kon
open Go Go.Proofs Go.Abs
set_option maxRecDepth 100000
set_option maxHeartbeats 4000000
/-! Constructors under binders -/
mutual
def bndC:ConT→Int→Prop
 | .mk op n _ _ _ l,u=>if op=1 then n<u else if op=2 then True else bndL l (if isBinder op=true then u+1 else u)
def bndL:List ConT→Int→Prop
 | [],_=>True
 |x::r,u=>bndC x u∧bndL r u
end
mutual
theorem bnd_leaves (u:Int):∀(c:ConT) (b:Int),bndC c (b+u)↔∀x b',(x,b')∈leaves c b→x.op=1→x.n<b'+u
 | .mk op n s k names l,b=>by
   rw[bndC,leaves]
   by_cases h1:op=1
   · rw[if_pos h1,if_pos (.inl h1)]
     constructor
     · intro h x b' hx _
       simp only[List.mem_singleton,Prod.mk.injEq] at hx
       obtain ⟨rfl,rfl⟩:=hx
       exact h
     · intro h
       exact h (.mk op n s k names l) b (by simp) h1
   · rw[if_neg h1]
     by_cases h2:op=2
     · rw[if_pos h2,if_pos (.inr h2)]
       refine ⟨fun _ x b' hx ho=>?_,fun _=>trivial⟩
       simp only[List.mem_singleton,Prod.mk.injEq] at hx
       obtain ⟨rfl,rfl⟩:=hx
       exact absurd ho h1
     · rw[if_neg h2,if_neg (show ¬(op=1∨op=2) from fun e=>e.elim h1 h2)]
       have:=bnd_leavesL u l (if isBinder op=true then b+1 else b)
       rw[←this]
       by_cases e:isBinder op=true
       · simp only[if_pos e]
         rw[show b+u+1=b+1+u by omega]
       · simp only[if_neg e]
theorem bnd_leavesL (u:Int):∀(l:List ConT) (b:Int),bndL l (b+u)↔∀x b',(x,b')∈leavesL l b→x.op=1→x.n<b'+u
 | [],b=>by rw[bndL,leavesL];simp
 |y::r,b=>by
   rw[bndL,leavesL,bnd_leaves u y b,bnd_leavesL u r b]
   constructor
   · rintro ⟨h1,h2⟩ x b' hx
     rcases List.mem_append.1 hx with hx|hx
     · exact h1 x b' hx
     · exact h2 x b' hx
   · intro h
     exact ⟨fun x b' hx=>h x b' (List.mem_append_left _ hx),fun x b' hx=>h x b' (List.mem_append_right _ hx)⟩
end
theorem above_bnd {c:ConT}(h:validF c=true) {u:Int}(hu:0≤u):above (freeF c) u=[]↔bndC c u:=by
 have:=bnd_leaves u c 0
 rw[Int.zero_add] at this
 rw[this,List.eq_nil_iff_forall_not_mem]
 constructor
 · intro g x b' hx ho
   by_cases e:x.n<b'+u
   · exact e
   · exact absurd (mem_aboveF h hu |>.2 ⟨x,b',hx,ho,by omega,rfl⟩) (g _)
 · intro g i hi
   obtain ⟨x,b,h1,h2,h3,_⟩:=(mem_aboveF h hu).1 hi
   have:=g x b h1 h2
   omega
/-! Terms under binders -/
mutual
def clTm:TermT→Int→Int→Prop
 | .mk op n _ con to _ _ l,u,w=>(hasConF op=true→bndC con u)∧(op=8→bndC to u)∧(op=1→n<w)∧clTs op l 0 u w
def clTs (op:Int):List TermT→Nat→Int→Int→Prop
 | [],_,_,_=>True
 |x::r,i,u,w=>clTm x (u+insC op i) (w+insT op i)∧clTs op r (i+1) u w
end
theorem above_one {n w:Int}:above [n] w=[]↔n<w:=by
 rw[List.eq_nil_iff_forall_not_mem]
 constructor
 · intro h
   by_cases e:n<w
   · exact e
   · exact absurd (mem_above1.2 ⟨by omega,rfl⟩) (h (n - w))
 · intro h i hi
   have:=mem_above1.1 hi
   omega
mutual
theorem cl_iff:∀(t:TermT) (u w:Int),wfT t=true→0≤u→((consF t u=[]∧termsF t w=[])↔clTm t u w)
 | .mk op n s con to k names l,u,w,h,hu=>by
   rw[wfT,Bool.and_eq_true] at h
   obtain ⟨n1,_,n3,_⟩:=node_con h.1
   rw[consF,termsF,clTm,←cl_iffL op l 0 u w h.2 hu]
   simp only[List.append_eq_nil_iff]
   have a1:(if hasConF op=true then above (freeF con) u else [])=[]↔(hasConF op=true→bndC con u):=by
     by_cases e:hasConF op=true
     · rw[if_pos e,above_bnd (n1 e) hu];exact ⟨fun h _=>h,fun h=>h e⟩
     · rw[if_neg e];exact ⟨fun _ h=>absurd h e,fun _=>rfl⟩
   have a2:(if op=8 then above (freeF to) u else [])=[]↔(op=8→bndC to u):=by
     by_cases e:op=8
     · rw[if_pos e,above_bnd (n3 e) hu];exact ⟨fun h _=>h,fun h=>h e⟩
     · rw[if_neg e];exact ⟨fun _ h=>absurd h e,fun _=>rfl⟩
   have a3:(if op=1 then above [n] w else [])=[]↔(op=1→n<w):=by
     by_cases e:op=1
     · rw[if_pos e,above_one];exact ⟨fun h _=>h,fun h=>h e⟩
     · rw[if_neg e];exact ⟨fun _ h=>absurd h e,fun _=>rfl⟩
   rw[a1,a2,a3]
   constructor
   · rintro ⟨⟨h1,h2,h3⟩,h4,h5⟩;exact ⟨h1,h2,h4,h3,h5⟩
   · rintro ⟨h1,h2,h4,h3,h5⟩;exact ⟨⟨h1,h2,h3⟩,h4,h5⟩
theorem cl_iffL (op:Int):∀(l:List TermT) (i:Nat) (u w:Int),wfL l=true→0≤u→((consL op l i u=[]∧termsL op l i w=[])↔clTs op l i u w)
 | [],i,u,w,_,_=>by rw[consL,termsL,clTs];simp
 |x::r,i,u,w,h,hu=>by
   rw[wfL,Bool.and_eq_true] at h
   rw[consL,termsL,clTs,←cl_iff x _ _ h.1 (by have:=insC_nn op i;omega),←cl_iffL op r (i+1) u w h.2 hu]
   simp only[List.append_eq_nil_iff]
   constructor
   · rintro ⟨⟨h1,h2⟩,h3,h4⟩;exact ⟨⟨h1,h3⟩,h2,h4⟩
   · rintro ⟨⟨h1,h3⟩,h2,h4⟩;exact ⟨⟨h1,h2⟩,h3,h4⟩
end
theorem sortU_nil0 {l:List Int}:(sortU l).length=0↔l=[]:=by
 rw[List.length_eq_zero_iff,List.eq_nil_iff_forall_not_mem,List.eq_nil_iff_forall_not_mem]
 exact ⟨fun h x hx=>h x ((sortU_mem l).2 hx),fun h x hx=>h x ((sortU_mem l).1 hx)⟩
theorem closed_iff {t:TermT}:closedT t=true↔validT t=true∧clTm t 0 0:=by
 rw[closedT,Bool.and_eq_true,Bool.and_eq_true,decide_eq_true_iff,decide_eq_true_iff,sortU_nil0,sortU_nil0]
 constructor
 · rintro ⟨h1,h2⟩;exact ⟨h1,(cl_iff t 0 0 (valid_wf h1).1 (Int.le_refl _)).1 h2⟩
 · rintro ⟨h1,h2⟩;exact ⟨h1,(cl_iff t 0 0 (valid_wf h1).1 (Int.le_refl _)).2 h2⟩
/-! Sizes -/
end Go.Abs.Kon
