/- Contracts of functions: shifting and substituting. -/
import Derived.Test.YtafhcphggdipaaaGreatDoorKonE
set_option linter.unusedSimpArgs false
namespace Go.Abs.Kon
open Go Go.Proofs Go.Abs
set_option maxRecDepth 100000
set_option maxHeartbeats 4000000
mutual
theorem rebF_size (M:Nat) (leaf:ConT→Int→ConT):∀(c:ConT) (b left:Int),(∀x b',(x,b')∈leaves c b→sizeF (leaf x b')≤M) →
  (left≤0→(rebF leaf c b left).2≤0)∧(sizeF (rebF leaf c b left).1:Int)+max (rebF leaf c b left).2 0≤max left 0+sizeF c+(if left>0∧(rebF leaf c b left).2≤0 then (M:Int) else 0)
 | .mk op n s k names l,b,left,h=>by
  rw[rebF]
  split
  ·rename_i h0
   refine ⟨fun _=>by decide,?_⟩
   have:sizeF zeroC=1:=by rfl
   rw[sizeF]
   simp only[this]
   split<;>omega
  ·rename_i h0
   split
   ·rename_i ho
    have:=h (.mk op n s k names l) b (by rw[leaves,if_pos ho];simp)
    refine ⟨fun h1=>absurd h1 h0,?_⟩
    simp only
    split<;>omega
   ·rename_i ho
    have:=rebL_size M leaf l (if isBinder op then b+1 else b) (left - 1) fun x b' hx=>h x b' (by rw[leaves,if_neg ho];exact hx)
    refine ⟨fun h1=>absurd h1 h0,?_⟩
    simp only[sizeF]
    generalize rebL leaf l (if isBinder op then b+1 else b) (left - 1)=r at this
    obtain ⟨h2,h3⟩:=this
    (repeat' split at h3)<;>(repeat' split)<;>omega
theorem rebL_size (M:Nat) (leaf:ConT→Int→ConT):∀(l:List ConT) (b left:Int),(∀x b',(x,b')∈leavesL l b→sizeF (leaf x b')≤M) →
  (left≤0→(rebL leaf l b left).2≤0)∧(sizeL (rebL leaf l b left).1:Int)+max (rebL leaf l b left).2 0≤max left 0+sizeL l+(if left>0∧(rebL leaf l b left).2≤0 then (M:Int) else 0)
 | [],b,left,h=>by
  rw[rebL]
  refine ⟨fun h=>h,?_⟩
  simp only[sizeL]
  split<;>omega
 |x::r,b,left,h=>by
  have hx:=rebF_size M leaf x b left fun y b' hy=>h y b' (by rw[leavesL];exact List.mem_append_left _ hy)
  have hr:=rebL_size M leaf r b (rebF leaf x b left).2 fun y b' hy=>h y b' (by rw[leavesL];exact List.mem_append_right _ hy)
  rw[rebL]
  simp only[sizeL]
  generalize rebF leaf x b left=y at hx hr ⊢
  generalize rebL leaf r b y.2=z at hr ⊢
  refine ⟨fun h1=>hr.1 (hx.1 h1),?_⟩
  obtain ⟨h2,h3⟩:=hx
  obtain ⟨h4,h5⟩:=hr
  (repeat' split at h3)<;>(repeat' split at h5)<;>(repeat' split)<;>omega
end
mutual
theorem rebF_okS (leaf:ConT→Int→ConT):∀(c:ConT) (b left:Int),okS c→(∀x b',(x,b')∈leaves c b→okS (leaf x b'))→okS (rebF leaf c b left).1
 | .mk op n s k names l,b,left,h0,h=>by
  rw[rebF]
  split
  ·simp only[zeroC,okS,okSs,and_true]
   exact ⟨by decide,fun x hx=>by simp at hx⟩
  ·split
   ·rename_i ho
    exact h (.mk op n s k names l) b (by rw[leaves,if_pos ho];simp)
   ·rename_i ho
    simp only[okS] at h0 ⊢
    exact ⟨h0.1,h0.2.1,rebL_okS leaf l _ _ h0.2.2 fun x b' hx=>h x b' (by rw[leaves,if_neg ho];exact hx)⟩
theorem rebL_okS (leaf:ConT→Int→ConT):∀(l:List ConT) (b left:Int),okSs l→(∀x b',(x,b')∈leavesL l b→okS (leaf x b'))→okSs (rebL leaf l b left).1
 | [],b,left,h0,h=>by rw[rebL];exact h0
 |x::r,b,left,h0,h=>by
  simp only[okSs] at h0
  have hx:=rebF_okS leaf x b left h0.1 fun y b' hy=>h y b' (by rw[leavesL];exact List.mem_append_left _ hy)
  have hr:=rebL_okS leaf r b (rebF leaf x b left).2 h0.2 fun y b' hy=>h y b' (by rw[leavesL];exact List.mem_append_right _ hy)
  rw[rebL]
  simp only[okSs]
  exact ⟨hx,hr⟩
end
mutual
theorem leaves_mem:∀(c:ConT) (b:Int) (x:ConT) (b':Int),(x,b')∈leaves c b→wtF x≤wtF c∧(okS c→okS x)∧(formedF c=true→formedF x=true)∧b≤b'∧b'≤b+depthF c∧(x.op=1∨x.op=2)
 | .mk op n s k names l,b,x,b',h=>by
  rw[leaves] at h
  split at h
  ·rename_i ho
   simp only[List.mem_singleton,Prod.mk.injEq] at h
   obtain ⟨rfl,rfl⟩:=h
   exact ⟨Nat.le_refl _,fun h=>h,fun h=>h,Int.le_refl _,by omega,ho⟩
  ·have:=leavesL_mem l _ x b' h
   obtain ⟨h1,h2,h3,h4,h5,h6⟩:=this
   refine ⟨by rw[wtF];omega,fun h=>h2 (by simp only[okS] at h;exact h.2.2),fun h=>h3 (by rw[formedF,Bool.and_eq_true] at h;exact h.2),?_,?_,h6⟩
   ·split at h4<;>omega
   ·rw[depthF];split at h5<;>omega
theorem leavesL_mem:∀(l:List ConT) (b:Int) (x:ConT) (b':Int),(x,b')∈leavesL l b→wtF x≤wtL l∧(okSs l→okS x)∧(formedL l=true→formedF x=true)∧b≤b'∧b'≤b+depthL l∧(x.op=1∨x.op=2)
 | [],b,x,b',h=>by simp[leavesL] at h
 |y::r,b,x,b',h=>by
  rw[leavesL] at h
  rcases List.mem_append.1 h with h|h
  ·obtain ⟨h1,h2,h3,h4,h5,h6⟩:=leaves_mem y b x b' h
   exact ⟨by rw[wtL];omega,fun h=>h2 (by simp only[okSs] at h;exact h.1),fun h=>h3 (by rw[formedL,Bool.and_eq_true] at h;exact h.1),h4,by rw[depthL];omega,h6⟩
  ·obtain ⟨h1,h2,h3,h4,h5,h6⟩:=leavesL_mem r b x b' h
   exact ⟨by rw[wtL];omega,fun h=>h2 (by simp only[okSs] at h;exact h.2),fun h=>h3 (by rw[formedL,Bool.and_eq_true] at h;exact h.2),h4,by rw[depthL];omega,h6⟩
end
def replF (leaf:ConT→Int→ConT) (c:ConT):ConT×Int:=
 if (rebF leaf c 0 20000).2<0∨validF (rebF leaf c 0 20000).1=false then (zeroC,6) else ((rebF leaf c 0 20000).1,0)
theorem sizeF_wt:∀c:ConT,sizeF c≤wtF c:=by
 refine ConT.ind1 fun op n s k names l ih=>?_
 rw[sizeF,wtF]
 have:sizeL l≤wtL l:=by
  clear k names
  induction l with
  |nil=>simp[sizeL]
  |cons x r ihr=>
   rw[sizeL,wtL]
   have:=ih x (by simp)
   have:=ihr fun y hy=>ih y (by simp[hy])
   omega
 omega
def ann108':Ann:=⟨[2],[],[(5,[4,5]),(4,[4,5]),(3,[4,7,23]),(2,[4,7,6]),(1,[4,6,2]),(0,[4,2,1])],[]⟩
@[go_sem] theorem ann108'_imm:ann108'.imm=[2]:=rfl
@[go_sem] theorem ann108'_frz:ann108'.frz=[]:=rfl
@[go_sem] theorem ann108'_live:ann108'.live=[(5,[4,5]),(4,[4,5]),(3,[4,7,23]),(2,[4,7,6]),(1,[4,6,2]),(0,[4,2,1])]:=rfl
@[go_sem] theorem ann108'_head:ann108'.head=[]:=rfl
theorem replaced_specW (f:FuncId) (caps:List PV) (leaf:ConT→Int→ConT) (c:ConT) (h1:wtF c≤900000000) (hd:depthF c≤10000000) (hsc:sizeF c≤10000000) (h2:okS c)
  (hl:∀x b,(x,b)∈leaves c 0→sizeF (leaf x b)≤100000000∧okS (leaf x b)∧Spec Tryz.prog f (pp (encC x)::ii b::caps.map pp) [] (encC (leaf x b)) []) :
  Spec Tryz.prog 108 [pp (encC c),pp (.fn f caps)] [] (.tuple [encC (replF leaf c).1,.int .i64 (replF leaf c).2]) []:=by
 have hR:=rebuild_spec f caps leaf c 0 20000 (by decide) (by omega) (by decide) (by decide) (by omega) fun x b hx=>⟨(hl x b hx).1,(hl x b hx).2.2⟩
 have hS:=rebF_size 100000000 leaf c 0 20000 fun x b hx=>(hl x b hx).1
 have hO:=rebF_okS leaf c 0 20000 h2 fun x b hx=>(hl x b hx).2.1
 have hV:=Valid_spec (rebF leaf c 0 20000).1 (by have:=hS.2;split at this<;>omega) hO
 rw[replF]
 simp only[leafBox] at hR
 generalize rebF leaf c 0 20000=r at hR hV
 refine Spec.walk (rv:=[.cell 4 28,.tmp 5]) ann108' 26 Tryz.func108 mixed rfl rfl (by kernel_rfl) rfl rfl fun hfit=>?_
 clear hfit hS hO hl
 simp only[go_sem,encC_sz]
 refine aCall_intro hR ?_
 simp only[go_sem,encC_sz]
 refine guardK_intro (fun hb=>?_) (fun hb=>?_)
 ·have hb':¬r.2<0:=of_decide_eq_false hb
  simp only[go_sem,encC_sz]
  refine aCall_intro hV ?_
  simp only[go_sem,encC_sz]
  refine condK_intro (fun hc=>?_) (fun hc=>?_)
  ·have hc':validF r.1=false:=by simpa using hc
   rw[if_pos (.inr hc')]
   simp only[go_sem,zeroC,encC_mk]
  ·have hc':¬validF r.1=false:=by simpa using hc
   rw[if_neg (fun h=>h.elim hb' hc')]
   simp only[go_sem,encC_sz]
 ·have hb':r.2<0:=of_decide_eq_true (by simpa using hb)
  rw[if_pos (.inl hb')]
  simp only[go_sem,zeroC,encC_mk]
theorem formed_n {c:ConT}(h:formedF c=true):0≤c.n∧c.n≤20000:=by
 obtain ⟨op,n,s,k,names,l⟩:=c
 rw[formedF,nodeF] at h
 simp only[Bool.and_eq_true] at h
 obtain ⟨⟨_,h,_⟩,_⟩:=h
 show 0≤n∧n≤20000
 split at h
 ·exact of_decide_eq_true h
 ·have:=of_decide_eq_true h;omega
theorem knL_wt (c:ConT):knL c.k≤wtF c:=by
 obtain ⟨op,n,s,k,names,l⟩:=c
 rw[wtF];simp only[ConT.k];omega
theorem size_leafC (c:ConT):sizeF (leafC c)=1:=by rw[leafC,sizeF,sizeL]
theorem okS_leafC {c:ConT}(h:okS c):okS (leafC c):=by
 obtain ⟨op,n,s,k,names,l⟩:=c
 simp only[okS] at h
 simp only[leafC,okS,okSs,ConT.s,and_true]
 exact ⟨h.1,fun x hx=>by simp at hx⟩
theorem okS_varC (n:Int):okS (varC n):=by
 simp only[varC,okS,okSs,and_true]
 exact ⟨by decide,fun x hx=>by simp at hx⟩
theorem size_shiftLeaf (n f:Int) (c:ConT) (b:Int):sizeF (shiftLeaf n f c b)=1:=by
 rw[shiftLeaf]
 split
 ·rfl
 ·exact size_leafC c
theorem okS_shiftLeaf (n f:Int) (c:ConT) (b:Int) (h:okS c):okS (shiftLeaf n f c b):=by
 rw[shiftLeaf]
 split
 ·exact okS_varC _
 ·exact okS_leafC h
theorem shift_leavesW (n f:Int) (c:ConT) (h1:wtF c≤900000000) (hd:depthF c≤10000000) (h2:okS c) (h3:formedF c=true) (h4:-10000000≤n) (h5:n≤10000000) :
  ∀x b,(x,b)∈leaves c 0→sizeF (shiftLeaf n f x b)≤1∧okS (shiftLeaf n f x b)∧Spec Tryz.prog 141 (pp (encC x)::ii b::[capI f,capI n].map pp) [] (encC (shiftLeaf n f x b)) []:=by
 intro x b hx
 obtain ⟨g1,g2,g3,g4,g5,_⟩:=leaves_mem c 0 x b hx
 have hn:=formed_n (g3 h3)
 have hk:=knL_wt x
 refine ⟨Nat.le_of_eq (size_shiftLeaf n f x b),okS_shiftLeaf n f x b (g2 h2),?_⟩
 exact shifted1_spec n f x b (by omega) (by omega) (by omega) (by omega) (by omega) (by omega) (by omega)
def substLeaf (l:List ConT) (c:ConT) (binders:Int):ConT:=
 if c.op≠1∨c.n - binders<0 then leafC c else
 if c.n - binders≥l.length then varC (c.n - l.length) else
 (rebF (shiftLeaf binders 0) (l.getD (c.n - binders).toNat zeroC) 0 20000).1
def capL (l:List ConT):PV:=.ep (.slice (l.map encC)) 0
theorem validF_formed {c:ConT}(h:validF c=true):formedF c=true:=by
 rw[validF] at h
 simp only[Bool.and_eq_true] at h
 exact h.2.2
@[go_sem] def boolBox (b:Bool):Box:=⟨.one,.one (.pv (.bool b))⟩
def lostStep (by' from':Int) (s:Bool) (xb:ConT×Int):Bool:=s||(xb.1.op==1&&(decide (xb.1.n - xb.2≥from')&&decide (xb.1.n - xb.2+by'<from')))
theorem Shift1_spec (by' from':Int) (s:Bool) (c:ConT) (b:Int) (h1:-10000000≤by') (h2:by'≤10000000) (h3:0≤c.n) (h4:c.n≤20000) (h5:0≤b) (h6:b≤10000000) :
  Spec Tryz.prog 107 [pp (encC c),ii b,pp (capI from'),pp (capI by'),.one (.ptr (.ref 0) 0)] [boolBox s] (.tuple []) [boolBox (lostStep by' from' s (c,b))]:=by
 obtain ⟨op,m,s',k,names,l⟩:=c
 simp only[ConT.n] at h3 h4
 have w1:IntKind.i64.wrap (m - b)=m - b:=wrap_id (by omega) (by omega)
 have w2:IntKind.i64.wrap (m - b+by')=m - b+by':=wrap_id (by omega) (by omega)
 have h0:lostStep by' from' s (.mk op m s' k names l,b)=(s||(op==1&&(decide (m - b≥from')&&decide (m - b+by'<from')))):=rfl
 rw[h0]
 refine wk (rv:=[]) ann107 27 Tryz.func107 ?_
 simp only[go_sem,encC_mk,capI,w1,w2]
 repeat' ((first|refine condK_intro (fun _=>?_) (fun _=>?_)|refine guardK_intro (fun _=>?_) (fun _=>?_))<;>simp only[go_sem,w1,w2])
 all_goals
  clear h0 w1 w2
  try simp only[Bool.not_true] at *
  simp only[*,Bool.and_true,Bool.true_and,Bool.and_false,Bool.false_and,Bool.or_true,Bool.or_false]
theorem leaf_nil {op n:Int}{s:ByteArray}{k:List KindT}{names:List ByteArray}{l:List ConT}(h:formedF (.mk op n s k names l)=true) (ho:op=1∨op=2):l=[]:=by
 rw[formedF,nodeF,partsF] at h
 simp only[Bool.and_eq_true] at h
 have h1:=of_decide_eq_true h.1.1
 rw[if_neg (by omega)] at h1
 have e1:isLabelled op=false:=by simp[isLabelled];omega
 have e2:isBinder op=false:=by simp[isBinder];omega
 rw[e1,e2] at h1
 simp only[Bool.false_eq_true,if_false] at h1
 rw[if_neg (by omega)] at h1
 exact List.eq_nil_of_length_eq_zero (by omega)
theorem each_spec (p1 p2:PV) (st:Bool→ConT×Int→Bool) (c:ConT):∀(binders:Int) (s:Bool),0≤binders→binders+depthF c≤100000000→formedF c=true →
   (∀x b s,(x,b)∈leaves c binders→Spec Tryz.prog 107 [pp (encC x),ii b,pp p1,pp p2,.one (.ptr (.ref 0) 0)] [boolBox s] (.tuple []) [boolBox (st s (x,b))]) →
   Spec Tryz.prog 106 [pp (encC c),ii binders,.one (.fn 107 [.pv p1,.pv p2,.ptr (.ref 0) 0])] [boolBox s] (.tuple []) [boolBox ((leaves c binders).foldl st s)]:=by
 revert c
 refine ConT.ind1 fun op n s' k names l ih=>?_
 intro binders s h1 h2 h3 hleaf
 have hB:=binder_spec (.mk op n s' k names l)
 have hself:=fun s=>hleaf (.mk op n s' k names l) binders s
 simp only[ConT.op] at hB
 rw[encC_mk] at hB
 simp only[encC_mk] at hself
 have w2:IntKind.i64.wrap (binders+1)=binders+1:=wrap_id (by rw[depthF] at h2;omega) (by rw[depthF] at h2;omega)
 by_cases ho:op=1∨op=2
 · have hl:=leaf_nil h3 ho
   subst hl
   have e2:isBinder op=false:=by simp[isBinder];omega
   have hlv:leaves (.mk op n s' k names []) binders=[(.mk op n s' k names [],binders)]:=by rw[leaves,if_pos ho]
   rw[hlv] at hself ⊢
   have hS:=hself s (by simp)
   simp only[List.foldl_cons,List.foldl_nil]
   generalize st s (.mk op n s' k names [],binders)=s2 at hS ⊢
   rw[e2] at hB
   simp only[boolBox] at hS
   have h12:(op==1)=true∨((op==1)=false∧(op==2)=true):=by
     rcases ho with h|h<;>simp[h]
   refine wk (rv:=[]) ann106 36 Tryz.func106 ?_
   rcases h12 with h12|⟨h12,h13⟩
   all_goals
     simp only[go_sem,encC_mk,h12]
     try simp only[go_sem,h13]
     refine aCall_intro hS ?_
     simp only[go_sem]
     refine aCall_intro hB ?_
     simp only[go_sem,List.length_map]
     refine ⟨1,?_⟩
     rw[aLoop_succ]
     simp only[go_sem,List.length_nil,Int.natCast_zero,lt_false (Int.le_refl _)]
 · have hlv:leaves (.mk op n s' k names l) binders=leavesL l (if isBinder op then binders+1 else binders):=by rw[leaves,if_neg ho]
   rw[hlv] at hleaf ⊢
   clear hself hlv
   have f1:(op==1)=false:=by simp;omega
   have f2:(op==2)=false:=by simp;omega
   obtain ⟨bb,hbb⟩:∃bb,(if isBinder op then binders+1 else binders)=bb:=⟨_,rfl⟩
   rw[hbb] at hleaf ⊢
   rw[depthF] at h2
   have hbb0:0≤bb:=by rw[←hbb];split<;>omega
   have hbb1:bb+depthL l≤100000000:=by rw[←hbb];split<;>omega
   have hfm:formedL l=true:=by rw[formedF,Bool.and_eq_true] at h3;exact h3.2
   rw[formedL_all] at hfm
   generalize hres:(leavesL l bb).foldl st s=res
   refine wf (rv:=[]) ann106 36 Tryz.func106 fun hfit=>?_
   have hlen:l.length≤9223372036854775807:=by
     simp only[argsFit,SV.pv?,SC.pv?,encC_mk,PV.fit,fitL,List.length_map,maxLen_eq] at hfit
     exact hfit.1.2.2.2.2.2.1.1
   clear hfit
   simp only[go_sem,encC_mk,f1,f2]
   refine aCall_intro hB ?_
   simp only[go_sem]
   refine condK_intro (fun hc=>?_) (fun hc=>?_)
   all_goals
     first
       | (have e:IntKind.i64.wrap (binders+1)=bb:=by rw[w2,←hbb,hc];rfl
          simp only[go_sem,e,List.length_map])
       | (have e:binders=bb:=by rw[←hbb,hc];rfl
          simp only[go_sem,e,List.length_map])
     refine aLoop_list (α:=ConT) (β:=Nat×Bool) (fun rest b=>⟨[(27,ii b.1),(2,.one (.fn 107 [.pv p1,.pv p2,.ptr (.ref 0) 0])),(1,ii bb),(25,pp (.slice (l.map encC))),(26,ii l.length)],[(.ref 0,boolBox b.2)],[]⟩)
       (fun rest b=>∃pre,l=pre++rest∧b.1=pre.length∧(∀x b',(x,b')∈leavesL rest bb→(x,b')∈leavesL l bb)∧(leavesL rest bb).foldl st b.2=res) ?_ ?_ l (0,s) _ ?_ ⟨[],rfl,rfl,fun _ _ h=>h,hres⟩
     · rintro ⟨m,t⟩ ⟨pre,g1,g2,g3,g4⟩ K
       simp only[List.append_nil] at g1 g2 g4
       subst g1
       simp only[leavesL,List.foldl_nil] at g4
       subst g4
       simp only[go_sem,g2,lt_false (Int.le_refl _)]
     · rintro x rest ⟨m,t⟩ ⟨pre,g1,g2,g3,g4⟩ K hK
       simp only at g2 g3 g4
       have hx:(l.map encC)[m]? = some (encC x):=by simp[g1,g2]
       have hlt:(m:Int)<l.length:=by rw[g1,g2];simp;omega
       have hll:l.length=m+(rest.length+1):=by rw[g1,g2];simp
       have hm:x∈l:=by simp[g1]
       have hd:=depthF_mem hm
       have hI:=ih x hm bb t hbb0 (by omega) (List.all_eq_true.1 hfm x hm) fun y b' t hy=>hleaf y b' t (g3 y b' (by rw[leavesL];exact List.mem_append_left _ hy))
       have w4:IntKind.i64.wrap ((m:Int)+1)=((m+1:Nat):Int):=by rw[wrap_id (by omega) (by omega)];simp
       rw[leavesL,List.foldl_append] at g4
       generalize (leaves x bb).foldl st t=t2 at hI g4
       simp only[boolBox] at hI
       simp only[go_sem,decide_eq_true hlt,Int.toNat_natCast,Int.natCast_nonneg,hx,encC_sz]
       refine aCall_intro hI ?_
       simp only[go_sem,encC_sz,w4]
       refine hK (m+1,t2) _ ?_ ⟨pre++[x],by simp[g1],by simp[g2],fun z b' hz=>g3 z b' (by rw[leavesL];exact List.mem_append_right _ hz),g4⟩
       simp only[go_sem]
     · simp only[go_sem,Int.natCast_zero]
def lostF (c:ConT) (by' from':Int):Bool:=(leaves c 0).foldl (lostStep by' from') false
def shiftF (c:ConT) (by' from':Int):ConT×Int:=
 if validF c=false then (zeroC,1) else if from'<0∨by' < -20000∨by'>20000∨lostF c by' from'=true then (zeroC,2) else replF (shiftLeaf by' from') c
mutual
theorem sizeK_kn:∀(k:KindT) (left depth m:Int),sizeK k left depth=some m→(knF k:Int)=m
 | .mk l,left,depth,m,h=>by
  rw[sizeK] at h
  split at h
  ·cases h
  ·have:=sizeKs_kn l left depth 1 m h
   rw[knF];omega
theorem sizeKs_kn:∀(l:List KindT) (left depth n m:Int),sizeKs l left depth n=some m→n+knL l=m
 | [],left,depth,n,m,h=>by
  rw[sizeKs] at h
  cases h
  rw[knL];omega
 |x::r,left,depth,n,m,h=>by
  rw[sizeKs] at h
  cases hx:sizeK x (left - n) (depth+1) with
  |none=>rw[hx] at h;cases h
  |some a=>
   rw[hx] at h
   have h1:=sizeK_kn x _ _ a hx
   have h2:=sizeKs_kn r left depth (n+a) m h
   rw[knL];omega
end
mutual
theorem formed_wt:∀c:ConT,formedF c=true→wtF c≤22000*sizeF c
 | .mk op n s k names l,h=>by
  rw[formedF,Bool.and_eq_true] at h
  have hl:=formed_wtL l h.2
  have hn:=h.1
  rw[nodeF] at hn
  simp only[Bool.and_eq_true] at hn
  obtain ⟨_,_,_,hk,⟨_,hm⟩,_⟩:=hn
  have h1:knL k≤20000:=by
   split at hk
   ·obtain ⟨m,hm⟩:=Option.isSome_iff_exists.1 hk
    have e1:=sizeK_kn _ _ _ _ hm
    have e2:=sizeK_le _ _ _ _ hm
    rw[knF] at e1;omega
   ·have:=of_decide_eq_true hk
    rw[List.eq_nil_of_length_eq_zero this,knL];omega
  have h2:names.length≤1000:=of_decide_eq_true hm
  rw[wtF,sizeF];omega
theorem formed_wtL:∀l:List ConT,formedL l=true→wtL l≤22000*sizeL l
 | [],_=>by rw[wtL];omega
 |x::r,h=>by
  rw[formedL,Bool.and_eq_true] at h
  have h1:=formed_wt x h.1
  have h2:=formed_wtL r h.2
  rw[wtL,sizeL];omega
end
theorem valid_dw {c:ConT}(h:validF c=true):depthF c≤400∧wtF c≤900000000:=by
 have hf:=validF_formed h
 rw[validF] at h
 simp only[Bool.and_eq_true,decide_eq_true_iff] at h
 have:=formed_wt c hf
 exact ⟨h.2.1,by omega⟩
theorem Shift_specV (c:ConT) (by' from':Int) (h1:sizeF c≤1000000000) (h2:okS c):Spec Tryz.prog 57 [pp (encC c),ii by',ii from'] [] (.tuple [encC (shiftF c by' from').1,.int .i64 (shiftF c by' from').2]) []:=by
 have hV:=Valid_spec c h1 h2
 have hSh:=shifted_spec by' from'
 have hE:validF c=true→-20000≤by'→by'≤20000→Spec Tryz.prog 106 [pp (encC c),ii 0,.one (.fn 107 [.pv (capI from'),.pv (capI by'),.ptr (.ref 0) 0])] [boolBox false] (.tuple []) [boolBox (lostF c by' from')]:=by
  intro e1 e2 e3
  have hd:=(valid_dw e1).1
  refine each_spec (capI from') (capI by') (lostStep by' from') c 0 false (by decide) (by omega) (validF_formed e1) fun x b s hx=>?_
  obtain ⟨g1,g2,g3,g4,g5,_⟩:=leaves_mem c 0 x b hx
  have hfn:=formed_n (g3 (validF_formed e1))
  exact Shift1_spec by' from' s x b (by omega) (by omega) hfn.1 hfn.2 (by omega) (by omega)
 have hR:validF c=true→-20000≤by'→by'≤20000→Spec Tryz.prog 108 [pp (encC c),pp (.fn 141 [capI from',capI by'])] [] (.tuple [encC (replF (shiftLeaf by' from') c).1,.int .i64 (replF (shiftLeaf by' from') c).2]) []:=by
  intro e1 e2 e3
  obtain ⟨hd,hw⟩:=valid_dw e1
  refine replaced_specW 141 _ (shiftLeaf by' from') c hw (by omega) (by rw[validF,Bool.and_eq_true] at e1;have:=of_decide_eq_true e1.1;omega) h2 fun x b hx=>?_
  obtain ⟨g1,g2,g3⟩:=shift_leavesW by' from' c hw (by omega) h2 (validF_formed e1) (by omega) (by omega) x b hx
  exact ⟨by omega,g2,g3⟩
 rw[shiftF]
 refine wk (rv:=[.cell 6 28,.tmp 7]) ann57 36 Tryz.func57 ?_
 simp only[go_sem,encC_sz]
 refine aCall_intro hV ?_
 simp only[go_sem,encC_sz]
 refine condK_intro (fun hb=>?_) (fun hb=>?_)
 ·have hb':validF c=false:=by simpa using hb
  rw[if_pos hb']
  simp only[go_sem,zeroC,encC_mk]
 ·have hb':validF c=true:=by simpa using hb
  rw[if_neg (by rw[hb'];simp)]
  simp only[go_sem]
  by_cases c1:from'<0
  ·rw[if_pos (.inl c1)]
   simp only[go_sem,decide_eq_true c1,zeroC,encC_mk]
  ·by_cases c2:by' < -20000
   ·rw[if_pos (.inr (.inl c2))]
    simp only[go_sem,decide_eq_false c1,decide_eq_true c2,zeroC,encC_mk]
   ·by_cases c3:by'>20000
    ·rw[if_pos (.inr (.inr (.inl c3)))]
     simp only[go_sem,decide_eq_false c1,decide_eq_false c2,decide_eq_true c3,zeroC,encC_mk]
    ·have hEx:=hE hb' (by omega) (by omega)
     have hRx:=hR hb' (by omega) (by omega)
     simp only[capI,boolBox] at hEx hRx hSh
     simp only[go_sem,decide_eq_false c1,decide_eq_false c2,decide_eq_false c3,encC_sz]
     refine aCall_intro hEx ?_
     simp only[go_sem,encC_sz]
     refine condK_intro (fun hl=>?_) (fun hl=>?_)
     ·rw[if_pos (.inr (.inr (.inr hl)))]
      simp only[go_sem,zeroC,encC_mk]
     ·rw[if_neg (fun hh=>hh.elim c1 fun hh=>hh.elim c2 fun hh=>hh.elim c3 fun hh=>by rw[hl] at hh;cases hh)]
      simp only[go_sem,encC_sz]
      refine aCall_intro hSh ?_
      simp only[go_sem,encC_sz]
      refine aCall_intro hRx ?_
      simp only[go_sem,encC_sz]
      try kernel_rfl
end Go.Abs.Kon