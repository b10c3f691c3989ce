/- Terms that are closed stay closed. -/
import Derived.Test.YtafhcphggdipaaaGreatDoorStepA
set_option linter.unusedSimpArgs false
set_option linter.unusedVariables false
namespace Go.Abs.Kon
open Go Go.Proofs Go.Abs
set_option maxRecDepth 100000
set_option maxHeartbeats 4000000
/-! Constructors under binders -/
mutual
def bndC:ConT→Int→Prop
 | .mk op n _ _ _ l,u=>if op=1 then n<u else if op=2 then True else bndL l (if isBinder op=true then u+1 else u)
def bndL:List ConT→Int→Prop
 | [],_=>True
 |x::r,u=>bndC x u∧bndL r u
end
mutual
theorem bnd_leaves (u:Int):∀(c:ConT) (b:Int),bndC c (b+u)↔∀x b',(x,b')∈leaves c b→x.op=1→x.n<b'+u
 | .mk op n s k names l,b=>by
  rw[bndC,leaves]
  by_cases h1:op=1
  ·rw[if_pos h1,if_pos (.inl h1)]
   constructor
   ·intro h x b' hx _
    simp only[List.mem_singleton,Prod.mk.injEq] at hx
    obtain ⟨rfl,rfl⟩:=hx
    exact h
   ·intro h
    exact h (.mk op n s k names l) b (by simp) h1
  ·rw[if_neg h1]
   by_cases h2:op=2
   ·rw[if_pos h2,if_pos (.inr h2)]
    refine ⟨fun _ x b' hx ho=>?_,fun _=>trivial⟩
    simp only[List.mem_singleton,Prod.mk.injEq] at hx
    obtain ⟨rfl,rfl⟩:=hx
    exact absurd ho h1
   ·rw[if_neg h2,if_neg (show ¬(op=1∨op=2) from fun e=>e.elim h1 h2)]
    have:=bnd_leavesL u l (if isBinder op=true then b+1 else b)
    rw[←this]
    by_cases e:isBinder op=true
    ·simp only[if_pos e]
     rw[show b+u+1=b+1+u by omega]
    ·simp only[if_neg e]
theorem bnd_leavesL (u:Int):∀(l:List ConT) (b:Int),bndL l (b+u)↔∀x b',(x,b')∈leavesL l b→x.op=1→x.n<b'+u
 | [],b=>by rw[bndL,leavesL];simp
 |y::r,b=>by
  rw[bndL,leavesL,bnd_leaves u y b,bnd_leavesL u r b]
  constructor
  ·rintro ⟨h1,h2⟩ x b' hx
   rcases List.mem_append.1 hx with hx|hx
   ·exact h1 x b' hx
   ·exact h2 x b' hx
  ·intro h
   exact ⟨fun x b' hx=>h x b' (List.mem_append_left _ hx),fun x b' hx=>h x b' (List.mem_append_right _ hx)⟩
end
theorem above_bnd {c:ConT}(h:validF c=true) {u:Int}(hu:0≤u):above (freeF c) u=[]↔bndC c u:=by
 have:=bnd_leaves u c 0
 rw[Int.zero_add] at this
 rw[this,List.eq_nil_iff_forall_not_mem]
 constructor
 ·intro g x b' hx ho
  by_cases e:x.n<b'+u
  ·exact e
  ·exact absurd (mem_aboveF h hu |>.2 ⟨x,b',hx,ho,by omega,rfl⟩) (g _)
 ·intro g i hi
  obtain ⟨x,b,h1,h2,h3,_⟩:=(mem_aboveF h hu).1 hi
  have:=g x b h1 h2
  omega
mutual
theorem bnd_mono {u v:Int}(h:u≤v):∀c:ConT,bndC c u→bndC c v
 | .mk op n s k names l,hb=>by
  rw[bndC] at hb ⊢
  by_cases h1:op=1
  ·rw[if_pos h1] at hb ⊢;omega
  ·rw[if_neg h1] at hb ⊢
   by_cases h2:op=2
   ·rw[if_pos h2];trivial
   ·rw[if_neg h2] at hb ⊢
    exact bnd_monoL (by split<;>omega) l hb
theorem bnd_monoL {u v:Int}(h:u≤v):∀l:List ConT,bndL l u→bndL l v
 | [],_=>trivial
 |x::r,hb=>⟨bnd_mono h x hb.1,bnd_monoL h r hb.2⟩
end
mutual
theorem bnd_shift (n:Int):∀(c:ConT) (u:Int),formedF c=true→bndC c u→mapF (shiftLeaf n 0) c u=c
 | .mk op m s k names l,u,hf,hb=>by
  rw[bndC] at hb
  rw[mapF]
  by_cases h1:op=1
  ·rw[if_pos h1] at hb
   rw[if_pos (.inl h1),shift_lo (x:=.mk op m s k names l) (by rintro ⟨_,g⟩;simp only[ConT.n] at g;omega)]
   exact leafC_formed (.inl h1) hf
  ·rw[if_neg h1] at hb
   by_cases h2:op=2
   ·rw[if_pos (.inr h2),shift_lo (x:=.mk op m s k names l) (by rintro ⟨g,_⟩;exact h1 g)]
    exact leafC_formed (.inr h2) hf
   ·rw[if_neg h2] at hb
    rw[formedF,Bool.and_eq_true] at hf
    rw[if_neg (show ¬(op=1∨op=2) from fun e=>e.elim h1 h2),bnd_shiftL n l _ hf.2 hb]
theorem bnd_shiftL (n:Int):∀(l:List ConT) (u:Int),formedL l=true→bndL l u→mapL (shiftLeaf n 0) l u=l
 | [],u,_,_=>by rw[mapL]
 |x::r,u,hf,hb=>by
  rw[formedL,Bool.and_eq_true] at hf
  rw[mapL,bnd_shift n x u hf.1 hb.1,bnd_shiftL n r u hf.2 hb.2]
end
mutual
theorem bnd_subst (a:ConT) (ha:formedF a=true) (hb:bndC a 0):∀(c:ConT) (u:Int),0≤u→bndC c (u+1)→bndC (mapF (substM [a]) c u) u
 | .mk op n s k names l,u,hu,hc=>by
  rw[bndC] at hc
  rw[mapF]
  by_cases h1:op=1
  ·rw[if_pos h1] at hc
   rw[if_pos (.inl h1)]
   by_cases e:n - u<0
   ·rw[sub_lo (x:=.mk op n s k names l) (.inr e)]
    show bndC (.mk op n s k [] []) u
    rw[bndC,if_pos h1];omega
   ·have e0:n - u=0:=by omega
    rw[sub_in (x:=.mk op n s k names l) (m:=0) h1 e0 (by decide) (by rw[one_len];decide)]
    show bndC (mapF (shiftLeaf u 0) a 0) u
    rw[bnd_shift u a 0 ha hb]
    exact bnd_mono hu a hb
  ·rw[if_neg h1] at hc
   by_cases h2:op=2
   ·rw[if_pos (.inr h2),sub_lo (x:=.mk op n s k names l) (.inl h1)]
    show bndC (.mk op n s k [] []) u
    rw[bndC,if_neg h1,if_pos h2];trivial
   ·rw[if_neg h2] at hc
    rw[if_neg (show ¬(op=1∨op=2) from fun e=>e.elim h1 h2),bndC,if_neg h1,if_neg h2]
    by_cases e:isBinder op=true
    ·simp only[if_pos e] at hc ⊢
     exact bnd_substL a ha hb l (u+1) (by omega) hc
    ·simp only[if_neg e] at hc ⊢
     exact bnd_substL a ha hb l u hu hc
theorem bnd_substL (a:ConT) (ha:formedF a=true) (hb:bndC a 0):∀(l:List ConT) (u:Int),0≤u→bndL l (u+1)→bndL (mapL (substM [a]) l u) u
 | [],u,_,_=>by rw[mapL];trivial
 |x::r,u,hu,hc=>by
  rw[mapL]
  exact ⟨bnd_subst a ha hb x u hu hc.1,bnd_substL a ha hb r u hu hc.2⟩
end
/-! Terms under binders -/
mutual
def clTm:TermT→Int→Int→Prop
 | .mk op n _ con to _ _ l,u,w=>(hasConF op=true→bndC con u)∧(op=8→bndC to u)∧(op=1→n<w)∧clTs op l 0 u w
def clTs (op:Int):List TermT→Nat→Int→Int→Prop
 | [],_,_,_=>True
 |x::r,i,u,w=>clTm x (u+insC op i) (w+insT op i)∧clTs op r (i+1) u w
end
theorem above_one {n w:Int}:above [n] w=[]↔n<w:=by
 rw[List.eq_nil_iff_forall_not_mem]
 constructor
 ·intro h
  by_cases e:n<w
  ·exact e
  ·exact absurd (mem_above1.2 ⟨by omega,rfl⟩) (h (n - w))
 ·intro h i hi
  have:=mem_above1.1 hi
  omega
mutual
theorem cl_iff:∀(t:TermT) (u w:Int),wfT t=true→0≤u→((consF t u=[]∧termsF t w=[])↔clTm t u w)
 | .mk op n s con to k names l,u,w,h,hu=>by
  rw[wfT,Bool.and_eq_true] at h
  obtain ⟨n1,_,n3,_⟩:=node_con h.1
  rw[consF,termsF,clTm,←cl_iffL op l 0 u w h.2 hu]
  simp only[List.append_eq_nil_iff]
  have a1:(if hasConF op=true then above (freeF con) u else [])=[]↔(hasConF op=true→bndC con u):=by
   by_cases e:hasConF op=true
   ·rw[if_pos e,above_bnd (n1 e) hu];exact ⟨fun h _=>h,fun h=>h e⟩
   ·rw[if_neg e];exact ⟨fun _ h=>absurd h e,fun _=>rfl⟩
  have a2:(if op=8 then above (freeF to) u else [])=[]↔(op=8→bndC to u):=by
   by_cases e:op=8
   ·rw[if_pos e,above_bnd (n3 e) hu];exact ⟨fun h _=>h,fun h=>h e⟩
   ·rw[if_neg e];exact ⟨fun _ h=>absurd h e,fun _=>rfl⟩
  have a3:(if op=1 then above [n] w else [])=[]↔(op=1→n<w):=by
   by_cases e:op=1
   ·rw[if_pos e,above_one];exact ⟨fun h _=>h,fun h=>h e⟩
   ·rw[if_neg e];exact ⟨fun _ h=>absurd h e,fun _=>rfl⟩
  rw[a1,a2,a3]
  constructor
  ·rintro ⟨⟨h1,h2,h3⟩,h4,h5⟩;exact ⟨h1,h2,h4,h3,h5⟩
  ·rintro ⟨h1,h2,h4,h3,h5⟩;exact ⟨⟨h1,h2,h3⟩,h4,h5⟩
theorem cl_iffL (op:Int):∀(l:List TermT) (i:Nat) (u w:Int),wfL l=true→0≤u→((consL op l i u=[]∧termsL op l i w=[])↔clTs op l i u w)
 | [],i,u,w,_,_=>by rw[consL,termsL,clTs];simp
 |x::r,i,u,w,h,hu=>by
  rw[wfL,Bool.and_eq_true] at h
  rw[consL,termsL,clTs,←cl_iff x _ _ h.1 (by have:=insC_nn op i;omega),←cl_iffL op r (i+1) u w h.2 hu]
  simp only[List.append_eq_nil_iff]
  constructor
  ·rintro ⟨⟨h1,h2⟩,h3,h4⟩;exact ⟨⟨h1,h3⟩,h2,h4⟩
  ·rintro ⟨⟨h1,h3⟩,h2,h4⟩;exact ⟨⟨h1,h2⟩,h3,h4⟩
end
theorem sortU_nil0 {l:List Int}:(sortU l).length=0↔l=[]:=by
 rw[List.length_eq_zero_iff,List.eq_nil_iff_forall_not_mem,List.eq_nil_iff_forall_not_mem]
 exact ⟨fun h x hx=>h x ((sortU_mem l).2 hx),fun h x hx=>h x ((sortU_mem l).1 hx)⟩
theorem closed_iff {t:TermT}:closedT t=true↔validT t=true∧clTm t 0 0:=by
 rw[closedT,Bool.and_eq_true,Bool.and_eq_true,decide_eq_true_iff,decide_eq_true_iff,sortU_nil0,sortU_nil0]
 constructor
 ·rintro ⟨h1,h2⟩;exact ⟨h1,(cl_iff t 0 0 (valid_wf h1).1 (Int.le_refl _)).1 h2⟩
 ·rintro ⟨h1,h2⟩;exact ⟨h1,(cl_iff t 0 0 (valid_wf h1).1 (Int.le_refl _)).2 h2⟩
mutual
theorem cl_mono:∀(t:TermT) (u w u' w':Int),u≤u'→w≤w'→clTm t u w→clTm t u' w'
 | .mk op n s con to k names l,u,w,u',w',hu,hw,h=>by
  rw[clTm] at h ⊢
  exact ⟨fun e=>bnd_mono hu con (h.1 e),fun e=>bnd_mono hu to (h.2.1 e),fun e=>by have:=h.2.2.1 e;omega,cl_monoL op l 0 u w u' w' hu hw h.2.2.2⟩
theorem cl_monoL (op:Int):∀(l:List TermT) (i:Nat) (u w u' w':Int),u≤u'→w≤w'→clTs op l i u w→clTs op l i u' w'
 | [],_,_,_,_,_,_,_,_=>by rw[clTs];trivial
 |x::r,i,u,w,u',w',hu,hw,h=>by
  rw[clTs] at h ⊢
  exact ⟨cl_mono x _ _ _ _ (by omega) (by omega) h.1,cl_monoL op r (i+1) u w u' w' hu hw h.2⟩
end
mutual
theorem cl_shift (n m:Int):∀(t:TermT) (u w:Int),wfT t=true→clTm t u w→mapT (cshM n) (vshM m) t u w=t
 | .mk op i s con to k names l,u,w,h,hc=>by
  rw[wfT,Bool.and_eq_true] at h
  obtain ⟨n1,n2,n3,n4⟩:=node_con h.1
  rw[clTm] at hc
  rw[mapT]
  by_cases ho:op=1
  ·obtain ⟨rfl,rfl,rfl,rfl,rfl,g,_⟩:=node_op1 h.1 ho
   have:=List.eq_nil_of_length_eq_zero g
   subst this ho
   have:=hc.2.2.1 rfl
   rw[if_pos rfl,vshM,if_neg (by omega),varT]
  ·rw[if_neg ho,cl_shiftL n m op l 0 u w h.2 hc.2.2.2]
   have hC:(if hasConF op=true then cshM n con u else zeroC)=con:=by
    by_cases e:hasConF op=true
    ·rw[if_pos e,cshM,bnd_shift n con u (validF_formed (n1 e)) (hc.1 e)]
    ·rw[if_neg e,n2 (by simpa using e)]
   have hT:(if op=8 then cshM n to u else zeroC)=to:=by
    by_cases e:op=8
    ·rw[if_pos e,cshM,bnd_shift n to u (validF_formed (n3 e)) (hc.2.1 e)]
    ·rw[if_neg e,n4 e]
   rw[hC,hT]
theorem cl_shiftL (n m:Int) (op:Int):∀(l:List TermT) (i:Nat) (u w:Int),wfL l=true→clTs op l i u w→mapTL (cshM n) (vshM m) op l i u w=l
 | [],_,_,_,_,_=>by rw[mapTL]
 |x::r,i,u,w,h,hc=>by
  rw[wfL,Bool.and_eq_true] at h
  rw[clTs] at hc
  rw[mapTL,cl_shift n m x _ _ h.1 hc.1,cl_shiftL n m op r (i+1) u w h.2 hc.2]
end
theorem cl_var {n u w:Int}(h:n<w):clTm (varT n) u w:=by
 rw[varT,clTm]
 refine ⟨fun e=>absurd e (by decide),fun e=>absurd e (by decide),fun _=>h,?_⟩
 rw[clTs];trivial
mutual
theorem cl_sub (b:TermT) (hwb:wfT b=true) (hb:clTm b 0 0):∀(t:TermT) (u w:Int),0≤u→0≤w→clTm t u (w+1)→clTm (mapT cidM (vsubM b) t u w) u w
 | .mk op n s con to k names l,u,w,hu,hw,h=>by
  rw[clTm] at h
  rw[mapT]
  by_cases ho:op=1
  ·have h1:=h.2.2.1 ho
   rw[if_pos ho,vsubM]
   by_cases e:n=w
   ·rw[if_pos e,shM,cl_shift u w b 0 0 hwb hb]
    exact cl_mono b 0 0 u w hu hw hb
   ·rw[if_neg e,if_neg (by omega)]
    exact cl_var (by omega)
  ·rw[if_neg ho,clTm]
   refine ⟨fun e=>?_,fun e=>?_,fun e=>absurd e ho,cl_subL b hwb hb op l 0 u w hu hw h.2.2.2⟩
   ·rw[if_pos e,cidM];exact h.1 e
   ·rw[if_pos e,cidM];exact h.2.1 e
theorem cl_subL (b:TermT) (hwb:wfT b=true) (hb:clTm b 0 0) (op:Int):∀(l:List TermT) (i:Nat) (u w:Int),0≤u→0≤w→clTs op l i u (w+1)→clTs op (mapTL cidM (vsubM b) op l i u w) i u w
 | [],_,_,_,_,_,_=>by rw[mapTL,clTs];trivial
 |x::r,i,u,w,hu,hw,h=>by
  rw[clTs] at h
  rw[mapTL,clTs]
  have:=insC_nn op i
  have:=insT_nn op i
  refine ⟨cl_sub b hwb hb x _ _ (by omega) (by omega) ?_,cl_subL b hwb hb op r (i+1) u w hu hw h.2⟩
  rw[show w+insT op i+1=w+1+insT op i by omega]
  exact h.1
end
mutual
theorem cl_subC (a:ConT) (ha:formedF a=true) (hb:bndC a 0):∀(t:TermT) (u w v:Int),0≤u→clTm t (u+1) w→clTm (mapT (csubM [a]) vidM t u v) u w
 | .mk op n s con to k names l,u,w,v,hu,h=>by
  rw[clTm] at h
  rw[mapT]
  by_cases ho:op=1
  ·rw[if_pos ho,vidM];exact cl_var (h.2.2.1 ho)
  ·rw[if_neg ho,clTm]
   refine ⟨fun e=>?_,fun e=>?_,fun e=>absurd e ho,cl_subCL a ha hb op l 0 u w v hu h.2.2.2⟩
   ·rw[if_pos e,csubM];exact bnd_subst a ha hb con u hu (h.1 e)
   ·rw[if_pos e,csubM];exact bnd_subst a ha hb to u hu (h.2.1 e)
theorem cl_subCL (a:ConT) (ha:formedF a=true) (hb:bndC a 0) (op:Int):∀(l:List TermT) (i:Nat) (u w v:Int),0≤u→clTs op l i (u+1) w→clTs op (mapTL (csubM [a]) vidM op l i u v) i u w
 | [],_,_,_,_,_,_=>by rw[mapTL,clTs];trivial
 |x::r,i,u,w,v,hu,h=>by
  rw[clTs] at h
  rw[mapTL,clTs]
  have:=insC_nn op i
  refine ⟨cl_subC a ha hb x _ _ _ (by omega) ?_,cl_subCL a ha hb op r (i+1) u w v hu h.2⟩
  rw[show u+insC op i+1=u+1+insC op i by omega]
  exact h.1
end
theorem cl_part (op:Int) (u w:Int):∀(l:List TermT) (i j:Nat) (x:TermT),clTs op l i u w→l[j]? = some x→clTm x (u+insC op (i+j)) (w+insT op (i+j))
 | [],i,j,x,_,hx=>by simp at hx
 |y::r,i,0,x,h,hx=>by
  rw[clTs] at h
  simp only[List.getElem?_cons_zero,Option.some.injEq] at hx
  subst hx
  exact h.1
 |y::r,i,j+1,x,h,hx=>by
  rw[clTs] at h
  have:=cl_part op u w r (i+1) j x h.2 (by simpa using hx)
  rw[show i+1+j=i+(j+1) by omega] at this
  exact this
theorem cl_set (op:Int) (u w:Int) (y:TermT):∀(pre:List TermT) (x:TermT) (post:List TermT) (i:Nat),clTs op (pre++x::post) i u w→clTm y (u+insC op (i+pre.length)) (w+insT op (i+pre.length))→clTs op (pre++y::post) i u w
 | [],x,post,i,h,hy=>by
  rw[List.nil_append,clTs] at h ⊢
  exact ⟨hy,h.2⟩
 |z::pre,x,post,i,h,hy=>by
  rw[List.cons_append,clTs] at h ⊢
  refine ⟨h.1,cl_set op u w y pre x post (i+1) h.2 ?_⟩
  rw[List.length_cons] at hy
  rw[show i+1+pre.length=i+(pre.length+1) by omega]
  exact hy
theorem act_ins {op:Int}{nl j:Nat}(h:j<actT op nl):insC op j=0∧insT op j=0:=by
 rw[actT] at h
 by_cases e:op=5∨op=10∨op=18
 ·constructor
  ·rw[insC,if_neg (by omega),if_neg (by omega)]
  ·rw[insT,if_neg (by omega),if_neg (by omega),if_neg (by omega)]
 ·rw[if_neg e] at h
  by_cases e2:op=7∨op=8∨op=9∨op=11∨op=12∨op=13∨op=14∨op=15∨op=17
  ·rw[if_pos e2] at h
   have:j=0:=by omega
   subst this
   constructor
   ·rw[insC,if_neg (by omega)];split<;>rfl
   ·rw[insT,if_neg (by omega)]
    split
    ·rfl
    ·split<;>rfl
  ·rw[if_neg e2] at h;cases h
theorem next_cl (t:TermT) (h:clTm t 0 0):clTm (nextT t) 0 0:=by
 revert t
 refine TermT.ind1 fun op n s con to k names l ih=>?_
 intro h
 rw[nextT]
 rcases inn_split l (actT op l.length) 0 with ⟨_,_,h3,_⟩|⟨pre,x,post,h1,_,_,h4,_,_,h7,_⟩
 ·rw[h3];exact h
 ·rw[h7]
  rw[clTm] at h
  obtain ⟨e1,e2⟩:=act_ins h4
  have:=cl_part op 0 0 l 0 pre.length x h.2.2.2 (by rw[h1];simp)
  rw[Nat.zero_add,e1,e2] at this
  exact ih x (by rw[h1];simp) this
theorem reb_cl {b:TermT}(hb:clTm b 0 0) (t:TermT) (h:clTm t 0 0):clTm (rbT b t) 0 0:=by
 revert t
 refine TermT.ind1 fun op n s con to k names l ih=>?_
 intro h
 rw[rbT]
 rcases inn_split l (actT op l.length) 0 with ⟨_,_,_,h4,_⟩|⟨pre,x,post,h1,_,_,h4,_,_,_,h8⟩
 ·rw[h4];exact hb
 ·rw[h8]
  rw[clTm] at h
  obtain ⟨e1,e2⟩:=act_ins h4
  have hx:=cl_part op 0 0 l 0 pre.length x h.2.2.2 (by rw[h1];simp)
  rw[Nat.zero_add,e1,e2] at hx
  have hy:=ih x (by rw[h1];simp) hx
  simp only[clTm]
  refine ⟨h.1,h.2.1,h.2.2.1,cl_set op 0 0 _ pre x post 0 (by rw[←h1];exact h.2.2.2) ?_⟩
  rw[Nat.zero_add,e1,e2]
  exact hy
/-! Sizes -/
theorem okT_reb {b:TermT}(hb:okT b) (t:TermT) (h:okT t):okT (rbT b t):=by
 revert t
 refine TermT.ind1 fun op n s con to k names l ih=>?_
 intro h
 rw[rbT]
 rcases inn_split l (actT op l.length) 0 with ⟨_,_,_,h4,_⟩|⟨pre,x,post,h1,_,_,h4,_,_,_,h8⟩
 ·rw[h4];exact hb
 ·rw[h8]
  simp only[okT] at h ⊢
  obtain ⟨o1,o2,o3,o4,o5,o6,o7,o8⟩:=h
  rw[okTs_mem] at o8
  refine ⟨o1,o2,o3,o4,o5,o6,by rw[h1] at o7;simpa using o7,okTs_mem.2 fun z hz=>?_⟩
  rcases List.mem_append.1 hz with hz|hz
  ·exact o8 z (by rw[h1];exact List.mem_append_left _ hz)
  ·rcases List.mem_cons.1 hz with rfl|hz
   ·exact ih x (by rw[h1];simp) (o8 x (by rw[h1];simp))
   ·exact o8 z (by rw[h1];exact List.mem_append_right _ (List.mem_cons_of_mem _ hz))
mutual
theorem okT_rsub {b:TermT}(hwb:wfT b=true) (hb:okT b):∀(t:TermT) (u w:Int),okT t→okT (rsubT b t u w)
 | .mk op n s con to k names l,u,w,h=>by
  rw[rsubT]
  by_cases ho:op=1
  ·rw[if_pos ho]
   by_cases e:n=w
   ·rw[if_pos e,rsh_map u w b 0 0 hwb]
    exact (shM_okwc u w hb (wf_wc b hwb)).1
   ·rw[if_neg e]
    by_cases e2:n>w
    ·rw[if_pos e2];exact okT_var _
    ·rw[if_neg e2];exact h
  ·rw[if_neg ho]
   simp only[okT] at h ⊢
   obtain ⟨o1,o2,o3,o4,o5,o6,o7,o8⟩:=h
   exact ⟨o1,o2,o3,o4,o5,o6,by rw[rsubTL_len];exact o7,okT_rsubL hwb hb op l 0 u w o8⟩
theorem okT_rsubL {b:TermT}(hwb:wfT b=true) (hb:okT b) (op:Int):∀(l:List TermT) (i:Nat) (u w:Int),okTs l→okTs (rsubTL b op l i u w)
 | [],_,_,_,_=>by rw[rsubTL];trivial
 |x::r,i,u,w,h=>by
  rw[rsubTL]
  exact ⟨okT_rsub hwb hb x _ _ h.1,okT_rsubL hwb hb op r (i+1) u w h.2⟩
end
theorem okT_con8 {t:TermT}(h:okT t):okS t.con:=by
 obtain ⟨op,n,s,con,to,k,names,l⟩:=t
 exact (okT_con h).1
theorem okT_l {t:TermT}(h:okT t):∀x∈t.l,okT x:=by
 obtain ⟨op,n,s,con,to,k,names,l⟩:=t
 exact okTs_mem.1 (okT_con h).2.2.2
theorem okT_rsubC {c:ConT}(hc:validF c=true) (ho:okS c) {t:TermT}(hw:wfT t=true) (h:okT t):okT (rsubC [c] t 0):=by
 have hall:[c].all validF=true:=by simp[hc]
 rw[rsubC_map [c] hall t 0 0 hw]
 exact subCM_okT [c] hall (fun x hx=>by simp at hx;subst hx;exact ho) h hw
end Go.Abs.Kon