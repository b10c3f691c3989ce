/- Contracts of functions: nodes that are made, kinds copied, constructors rebuilt. -/
import Derived.Test.YtafhcphggdipaaaGreatDoorKonD
import Derived.Test.YtafhcphggdipaaaGreatDoorShelfA
set_option linter.unusedSimpArgs false
namespace Go.Abs.Kon
open Go Go.Proofs Go.Abs
set_option maxRecDepth 100000
set_option maxHeartbeats 4000000
attribute [go_sem] Sz.size List.size_toArray
def varC (n:Int):ConT:=.mk 1 n ByteArray.empty [] [] []
def zeroC:ConT:=.mk 0 0 ByteArray.empty [] [] []
def boundC (op:Int) (k:List KindT) (c:ConT):ConT:=.mk op 0 ByteArray.empty k [] [c]
theorem variable_spec (n:Int):Spec Tryz.prog 142 [ii n] [] (encC (varC n)) []:=by
 refine wk (rv:=[.cell 2 28]) ann142 5 Tryz.func142 ?_
 simp only[go_sem,varC,encC_mk]
theorem rBound_spec (op:Int) (k:List KindT) (c:ConT):Spec Tryz.prog 227 [ii op,pp (encK (.mk k)),pp (encC c)] [] (encC (boundC op k c)) []:=by
 refine wk (rv:=[.cell 6 28]) ann227 12 Tryz.func227 ?_
 simp only[go_sem,boundC,encC_mk,encC_sz,encK_mk]
 trace_state
mutual
def knF:KindT→Nat
 | .mk l=>1+knL l
def knL:List KindT→Nat
 | []=>0
 |x::r=>knF x+knL r
end
theorem knF_mem {c:KindT}{l:List KindT}(h:c∈l):knF c≤knL l:=by
 induction l with
 |nil=>simp at h
 |cons x r ih=>
  rw[knL]
  rcases List.mem_cons.1 h with rfl|h
  ·omega
  ·have:=ih h;omega
theorem knL_len (l:List KindT):l.length≤knL l:=by
 induction l with
 |nil=>simp[knL]
 |cons x r ih=>
  rw[knL,List.length_cons]
  have:1≤knF x:=by cases x;rw[knF];omega
  omega
theorem one_le_maxLen:(1≤maxLen)=True:=by simp[maxLen_eq]
def acc (t:Nat) (k:Sz):List PV→SC
 | []=>.nilS
 |e::es=>.own t k (e::es)
theorem kindOf_spec (k:KindT):knF k≤1000000000→Spec Tryz.prog 178 [pp (encK k)] [] (encK k) []:=by
 revert k
 refine KindT.ind1 fun l ih=>?_
 intro hsz
 simp only[knF] at hsz
 have hl:=knL_len l
 refine wk (rv:=[.cell 2 24]) ann178 22 Tryz.func178 ?_
 simp only[go_sem,encK_mk,List.length_map]
 refine aLoop_list (α:=KindT) (β:=List KindT×Nat) (fun rest b=>⟨[(9,ii b.2),(3,.one (.ptr (.loc 3) 0)),(7,pp (.slice (l.map encK))),(2,.one (.ptr (.loc 2) 0)),(8,ii l.length)],
   [(.loc 2,⟨.agg 1,.agg [.nilS]⟩),(.loc 3,⟨.agg 1,.agg [acc 36 (.agg 1) (b.1.map encK)]⟩)],[]⟩)
  (fun rest b=>l=b.1++rest∧b.2=b.1.length) ?_ ?_ l ([],0) _ ?_ ⟨rfl,rfl⟩
 ·rintro ⟨pre,n⟩ ⟨h4,h5⟩ K
  simp only[List.append_nil] at h4 h5
  subst h4 h5
  simp only[go_sem,lt_false (Int.le_refl _)]
  cases l with
  |nil=>simp only[go_sem,acc]
  |cons x r=>simp only[go_sem,acc]
 ·rintro x rest ⟨pre,n⟩ ⟨h4,h5⟩ K hK
  simp only at h4 h5
  have hx:(l.map encK)[n]? = some (encK x):=by simp[h4,h5]
  have hlt:(n:Int)<l.length:=by rw[h4,h5];simp;omega
  have hll:l.length=n+(rest.length+1):=by rw[h4,h5];simp
  have hm:x∈l:=by simp[h4]
  have hkx:=knF_mem hm
  have hI:=ih x hm (by omega)
  have w4:IntKind.i64.wrap ((n:Int)+1)=((n+1:Nat):Int):=by rw[wrap_id (by omega) (by omega)];simp
  refine (fun hK'=>?_) (hK (pre++[x],n+1) · · ⟨by simp[h4],by simp[h5]⟩)
  clear hK
  cases pre with
  |nil=>
   simp only[go_sem,acc,decide_eq_true hlt,Int.toNat_natCast,Int.natCast_nonneg,hx,encK_sz]
   refine aCall_intro hI ?_
   simp only[go_sem,encK_sz,w4,one_le_maxLen]
   refine ⟨by kernel_rfl,hK' _ ?_⟩
   simp only[go_sem,acc,List.map_append]
  |cons y r=>
   have hb:(r.length+1+1)*24≤140737488355328:=by simp at h5;omega
   have hb2:r.length+1+1≤maxLen:=by rw[maxLen_eq];simp at h5;omega
   have hsz:∀e∈r.map encK,PV.hasSz (.agg 1) e=true:=by
    intro e he
    obtain ⟨k,_,rfl⟩:=List.mem_map.1 he
    exact encK_sz k
   simp only[go_sem,acc,decide_eq_true hlt,Int.toNat_natCast,Int.natCast_nonneg,hx,encK_sz]
   refine aCall_intro hI ?_
   simp only[go_sem,encK_sz,w4,List.length_map,hb,hb2]
   refine ⟨by kernel_rfl,hK' _ ?_⟩
   simp only[go_sem,acc,List.map_append]
 ·simp only[go_sem,acc,List.length_nil,Int.natCast_zero]
def leafC (c:ConT):ConT:=.mk c.op c.n c.s c.k [] []
theorem leafOf_spec (c:ConT) (h:knL c.k≤900000000):Spec Tryz.prog 143 [pp (encC c)] [] (encC (leafC c)) []:=by
 obtain ⟨op,n,s,k,names,l⟩:=c
 simp only[ConT.k] at h
 have hK:=kindOf_spec (.mk k) (by rw[knF];omega)
 rw[encK_mk] at hK
 refine wk (rv:=[.cell 2 28]) ann143 13 Tryz.func143 ?_
 simp only[go_sem,encC_mk]
 refine aCall_intro hK ?_
 simp only[go_sem,leafC,encC_mk,ConT.op,ConT.n,ConT.s,ConT.k]
 trace_state
def capI (n:Int):PV:=.ep (.int .i64 n) 0
theorem shifted_spec (n from':Int):Spec Tryz.prog 109 [ii n,ii from'] [] (.fn 141 [capI from',capI n]) []:=by
 refine wk (rv:=[.tmp 4]) ann109 6 Tryz.func109 ?_
 simp only[go_sem,capI]
def shiftLeaf (n from':Int) (c:ConT) (binders:Int):ConT:=if c.op=1∧c.n - binders≥from' then varC (c.n+n) else leafC c
theorem shifted1_spec (n from':Int) (c:ConT) (binders:Int) (h:knL c.k≤900000000) (h1:-100000000≤n) (h2:n≤100000000) (h3:-100000000≤c.n) (h4:c.n≤100000000) (h5:0≤binders) (h6:binders≤100000000) :
  Spec Tryz.prog 141 [pp (encC c),ii binders,pp (capI from'),pp (capI n)] [] (encC (shiftLeaf n from' c binders)) []:=by
 have hL:=leafOf_spec c h
 have hV:=variable_spec (c.n+n)
 obtain ⟨op,m,s,k,names,l⟩:=c
 simp only[ConT.k,ConT.n] at h h3 h4 hV
 have w1:IntKind.i64.wrap (m - binders)=m - binders:=wrap_id (by omega) (by omega)
 have w2:IntKind.i64.wrap (m+n)=m+n:=wrap_id (by omega) (by omega)
 generalize h0:shiftLeaf n from' (.mk op m s k names l) binders=res
 replace h0:(if op=1∧m - binders≥from' then varC (m+n) else leafC (.mk op m s k names l))=res:=h0
 rw[encC_mk] at hL
 refine wk (rv:=[.cell 6 28]) ann141 25 Tryz.func141 ?_
 simp only[go_sem,encC_mk,capI,w1,w2]
 refine guardK_intro (fun hb=>?_) (fun hb=>?_)
 ·have hb':op=1:=eq_of_beq hb
  simp only[go_sem,w1,w2]
  refine condK_intro (fun hc=>?_) (fun hc=>?_)
  ·have hc':=of_decide_eq_true hc
   rw[if_pos ⟨hb',hc'⟩] at h0
   simp only[go_sem,w1,w2]
   refine aCall_intro hV ?_
   subst h0
   simp only[go_sem,encC_sz]
  ·have hc':=of_decide_eq_false hc
   rw[if_neg (fun h=>hc' h.2)] at h0
   simp only[go_sem,w1,w2]
   refine aCall_intro hL ?_
   subst h0
   simp only[go_sem,encC_sz]
 ·have hb':¬op=1:=by simpa using hb
  rw[if_neg (fun h=>hb' h.1)] at h0
  simp only[go_sem,w1,w2]
  refine aCall_intro hL ?_
  subst h0
  simp only[go_sem,encC_sz]
theorem lay_ext {G:Gh}{w w':World}(hW:WInv G w) (hB:RowKit.Below w.heap.size w w') (g:Nat) (hg:w.heap.size≤g) (news:List Value) (hc:∀j u,news[j]? = some u→w'.cell? ⟨g,j,none⟩=some u) (mods:Nm→Prop) (us:Nat→Prop) :
  ∃G',WInv G' w'∧Ext G G' w w' mods us∧∀j u,news[j]? = some u→G'.I g j=some u:=by
 let G':Gh:=⟨fun b o=>if b=g then news[o]? else G.I b o,G.blk,G.tok,G.cap⟩
 have hne:∀{b o v},G.I b o=some v→b≠g:=fun hv e=>by have:=imm_lt hW hv;omega
 have hE:Ext G G' w w' mods us:=by
  refine ⟨fun b o v hv=>?_,fun b o v hv=>?_,fun _ _=>rfl,fun _ _ h=>h,fun _ _ h=>.inl h,fun _ _ _ h=>h,fun _ _ _ h _=>.inl h,fun b hb _ _=>hB.block b hb,hB.size,hB.os,hB.tape,hB.output,fun _ _=>rfl⟩
  ·show (if b=g then _ else _)=_
   rw[if_neg (hne hv)];exact hv
  ·have hv':(if b=g then news[o]? else G.I b o)=some v:=hv
   split at hv'
   ·rename_i e;exact .inr (.inl (by omega))
   ·exact .inl hv'
 refine ⟨G',⟨fun b o v hv=>?_,hW.inj,fun n b h=>Nat.lt_of_lt_of_le (hW.lt n b h) hB.size,fun n b h o=>?_,fun t tk ht=>?_,hW.tokInj,hW.tokBlk,hW.glob.step hE⟩,hE,fun j u hj=>?_⟩
 ·have hv':(if b=g then news[o]? else G.I b o)=some v:=hv
  split at hv'
  ·rename_i e;subst e;exact hc o v hv'
  ·rw[World.cell?_of_block (w:=w) (hB.block b (imm_lt hW hv'))];exact hW.imm _ _ _ hv'
 ·show (if b=g then _ else _)=_
  rw[if_neg (by have:=hW.lt n b h;omega)];exact hW.blkImm n b h o
 ·refine (hW.tokOk t tk ht).keep fun g' hg'=>⟨hB.block g' (tok_lt hW ht hg'),fun o v hv=>?_⟩
  have hv':(if g'=g then news[o]? else G.I g' o)=some v:=hv
  rw[if_neg (by have:=tok_lt hW ht hg';omega)] at hv'
  exact hv'
 ·show (if g=g then _ else _)=_
  rw[if_pos rfl];exact hj
theorem repE_strs {I:Imm}:∀(names:List ByteArray) (b o:Nat),(∀j s,names[j]? = some s→I b (o+j)=some (.string s))→RepE I .one (names.map .str) b o
 | [],b,o,h=>by simp[RepE]
 |s::r,b,o,h=>by
  rw[List.map_cons,RepE]
  refine ⟨⟨.string s,by simp[Rep],rfl,fun j v hj=>?_⟩,repE_strs r b _ fun j s' hj=>?_⟩
  ·cases j with
   |zero=>simp[Value.cells] at hj;subst hj;exact h 0 s rfl
   |succ j=>simp[Value.cells] at hj
  ·have:=h (j+1) s' (by simpa using hj)
   simp only[Sz.size]
   rw[Nat.add_assoc,Nat.add_comm 1 j];exact this
theorem repE_strs_inv {I:Imm}{k:Sz}:∀(names:List ByteArray) (b o:Nat),RepE I k (names.map .str) b o→∀j s,names[j]? = some s→I b (o+j)=some (.string s)
 | [],b,o,h,j,s,hj=>by simp at hj
 |x::r,b,o,h,j,s,hj=>by
  rw[List.map_cons,RepE] at h
  obtain ⟨⟨u,h1,h2,h3⟩,h4⟩:=h
  rw[Rep] at h1
  subst h1
  have hk:k=.one:=okV_unique (u:=.string x) h2 rfl
  subst hk
  cases j with
  |zero=>simp at hj;subst hj;exact h3 0 _ (by simp[Value.cells])
  |succ j=>
   have:=repE_strs_inv r b _ h4 j s (by simpa using hj)
   simp only[Sz.size] at this
   rw[Nat.add_assoc,Nat.add_comm 1 j] at this;exact this
theorem ownsRow_rep {G:Gh}{w w':World}{v':Value}{names:List ByteArray}(hW:WInv G w) (hB:RowKit.Below w.heap.size w w') (ho:w'.ownsRow w.heap.size 9 1 v' names.length (names.map Value.string)) (mods:Nm→Prop) (us:Nat→Prop) :
  ∃G',WInv G' w'∧Ext G G' w w' mods us∧Rep G'.I (.slice (names.map .str)) v':=by
 obtain ⟨_,ho⟩:=ho
 rcases ho with ⟨rfl,h0⟩|⟨g,cap,cur,rfl,hg,hh,hcap,hmx,_,ht⟩
 ·obtain ⟨h1,h2⟩:=below_ext hW hB mods us
  rw[List.eq_nil_of_length_eq_zero h0]
  exact ⟨G,h1,h2,by rw[List.map_nil,Rep];exact ⟨none,0,0,.one,rfl,rfl,Nat.le_refl _,Nat.zero_le _,.inl rfl⟩⟩
 ·rw[Nat.mul_one] at ht
  obtain ⟨G',h1,h2,h3⟩:=lay_ext hW hB g hg (names.map Value.string) (fun j u hj=>by
   rw[cell_row hh]
   rw[←ht,List.getElem?_take] at hj
   split at hj
   ·rw[←Array.getElem?_toList];exact hj
   ·cases hj) mods us
  refine ⟨G',h1,h2,?_⟩
  rw[Rep]
  refine ⟨some ⟨g,0,none⟩,names.length,cap,.one,rfl,by simp,hcap,hmx,.inr ⟨g,0,rfl,repE_strs names g 0 fun j s hj=>?_⟩⟩
  rw[Nat.zero_add]
  exact h3 j _ (by simp[hj])
theorem Clone_spec (names:List ByteArray) (hn:names.length≤1000000000):Spec Tryz.prog 103 [pp (.slice (names.map .str))] [] (.slice (names.map .str)) []:=by
 refine ⟨by kernel_rfl,rfl,fun G w vs hW _ _ _ hr=>?_⟩
 simp only[RepSVs,pp,RepSV,RepSC] at hr
 obtain ⟨v,rest,hvs,hv,hrest⟩:=hr
 subst hrest
 obtain rfl:vs=#[v]:=Array.toList_inj.1 hvs
 rw[Rep] at hv
 obtain ⟨a,len,cap,k,rfl,hlen,hcap,hmx,hes⟩:=hv
 rw[List.length_map] at hlen
 subst hlen
 cases a with
 |none=>
  have h0:names=[]:=by
   rcases hes with h|⟨b,o,h,_⟩
   ·simpa using h
   ·cases h
  subst h0
  refine (Tryz.slices_Clone_string_nil _ cap w).mono ?_
  rintro e w' ⟨rfl,rfl⟩
  exact ⟨_,G,rfl,by rw[List.map_nil,Rep];exact ⟨none,0,0,.one,rfl,rfl,Nat.le_refl _,Nat.zero_le _,.inl rfl⟩,hW,Ext.refl _ _ _ _,fun j bx hj=>by simp at hj⟩
 |some a=>
  have fin:∀(e:Ending) (w':World),(∃v',e=.returned v'∧w'.ownsRow w.heap.size 9 1 v' names.length (names.map Value.string)∧v'≠.slice none 0 0∧RowKit.Below w.heap.size w w') →
    ∃v G',e=.returned v∧Rep G'.I (.slice (names.map .str)) v∧WInv G' w'∧Ext G G' w w' (fun n=>isRef n ([]:List Box).length) (fun _=>True)∧(∀j bx,([]:List Box)[j]? = some bx→BoxAt G' [] w' (.ref j) bx):=by
   rintro e w' ⟨v',rfl,ho,_,hB⟩
   obtain ⟨G',h1,h2,h3⟩:=ownsRow_rep hW hB ho (fun n=>isRef n ([]:List Box).length) (fun _=>True)
   exact ⟨v',G',rfl,h3,h1,h2,fun j bx hj=>by simp at hj⟩
  by_cases h0:names=[]
  ·subst h0
   exact (Tryz.slices_Clone_string_zero a cap w).mono fin
  ·rcases hes with h|⟨b,o,h,hE⟩
   ·exact absurd (by simpa using h) h0
   ·cases h
    have hI:=repE_strs_inv names b o hE
    have:=Tryz.slices_Clone_string b o names.length cap names w (Nat.le_refl _) (by omega) (fun j hj=>by
     have:=hW.imm _ _ _ (hI j names[j] (by simp[hj]))
     rw[this,List.getD_eq_getElem?_getD];simp[hj])
    rw[List.take_length] at this
    exact this.mono fin
mutual
def rebF (leaf:ConT→Int→ConT):ConT→Int→Int→ConT×Int
 | .mk op n s k names l,binders,left=>
  if left≤0 then (zeroC,-1) else
  if op=1∨op=2 then (leaf (.mk op n s k names l) binders,left - sizeF (leaf (.mk op n s k names l) binders)) else
  let r:=rebL leaf l (if isBinder op then binders+1 else binders) (left - 1)
  (.mk op n s k names r.1,r.2)
def rebL (leaf:ConT→Int→ConT):List ConT→Int→Int→List ConT×Int
 | [],_,left=>([],left)
 |x::r,binders,left=>
  let y:=rebF leaf x binders left
  let z:=rebL leaf r binders y.2
  (y.1::z.1,z.2)
end
mutual
def leaves:ConT→Int→List (ConT×Int)
 | .mk op n s k names l,b=>if op=1∨op=2 then [(.mk op n s k names l,b)] else leavesL l (if isBinder op then b+1 else b)
def leavesL:List ConT→Int→List (ConT×Int)
 | [],_=>[]
 |x::r,b=>leaves x b++leavesL r b
end
mutual
def wtF:ConT→Nat
 | .mk _ _ _ k names l=>1+knL k+names.length+wtL l
def wtL:List ConT→Nat
 | []=>0
 |x::r=>wtF x+wtL r
end
theorem wtF_mem {c:ConT}{l:List ConT}(h:c∈l):wtF c≤wtL l:=by
 induction l with
 |nil=>simp at h
 |cons x r ih=>
  rw[wtL]
  rcases List.mem_cons.1 h with rfl|h
  ·omega
  ·have:=ih h;omega
theorem wtL_len (l:List ConT):l.length≤wtL l:=by
 induction l with
 |nil=>simp[wtL]
 |cons x r ih=>
  rw[wtL,List.length_cons]
  have:1≤wtF x:=by cases x;rw[wtF];omega
  omega
@[go_sem] def leafBox (f:FuncId) (caps:List PV) (left:Int):Box:=⟨.agg 2,.agg [.pv (.fn f caps),.pv (.int .i64 left)]⟩
theorem depthF_mem {c:ConT}{l:List ConT}(h:c∈l):depthF c≤depthL l:=by
 induction l with
 |nil=>simp at h
 |cons x r ih=>
  rw[depthL]
  rcases List.mem_cons.1 h with rfl|h
  ·omega
  ·have:=ih h;omega
mutual
theorem rebF_bound (leaf:ConT→Int→ConT):∀(c:ConT) (b left:Int),-100000000≤left→left≤100000000→(∀x b',(x,b')∈leaves c b→sizeF (leaf x b')≤100000000)→-100000000≤(rebF leaf c b left).2∧(rebF leaf c b left).2≤100000000
 | .mk op n s k names l,b,left,h1,h2,h3=>by
  rw[rebF]
  split
  ·decide
  ·split
   ·rename_i ho
    have:=h3 (.mk op n s k names l) b (by rw[leaves,if_pos ho];simp)
    simp only;omega
   ·rename_i ho
    exact rebL_bound leaf l _ (left - 1) (by omega) (by omega) fun x b' hx=>h3 x b' (by rw[leaves,if_neg ho];exact hx)
theorem rebL_bound (leaf:ConT→Int→ConT):∀(l:List ConT) (b left:Int),-100000000≤left→left≤100000000→(∀x b',(x,b')∈leavesL l b→sizeF (leaf x b')≤100000000)→-100000000≤(rebL leaf l b left).2∧(rebL leaf l b left).2≤100000000
 | [],b,left,h1,h2,h3=>by rw[rebL];exact ⟨h1,h2⟩
 |x::r,b,left,h1,h2,h3=>by
  have hx:=rebF_bound leaf x b left h1 h2 fun y b' hy=>h3 y b' (by rw[leavesL];exact List.mem_append_left _ hy)
  have hr:=rebL_bound leaf r b (rebF leaf x b left).2 hx.1 hx.2 fun y b' hy=>h3 y b' (by rw[leavesL];exact List.mem_append_right _ hy)
  rw[rebL]
  exact hr
end
theorem rebuild_spec (f:FuncId) (caps:List PV) (leaf:ConT→Int→ConT) (c:ConT):∀binders left:Int,0≤binders→binders+depthF c≤100000000→-100000000≤left→left≤100000000→wtF c≤900000000 →
   (∀x b,(x,b)∈leaves c binders→sizeF (leaf x b)≤100000000∧Spec Tryz.prog f (pp (encC x)::ii b::caps.map pp) [] (encC (leaf x b)) []) →
   Spec Tryz.prog 140 [.one (.ptr (.ref 0) 0),pp (encC c),ii binders] [leafBox f caps left] (encC (rebF leaf c binders left).1) [leafBox f caps (rebF leaf c binders left).2]:=by
 revert c
 refine ConT.ind1 fun op n s k names l ih=>?_
 intro binders left h1 h2 h3 h4 h5 hleaf
 rw[wtF] at h5
 refine wk (rv:=[.cell 6 28]) ann140 87 Tryz.func140 ?_
 have hself:=hleaf (.mk op n s k names l) binders
 simp only[go_sem,encC_mk]
 refine condK_intro (fun hb=>?_) (fun hb=>?_)
 · have hb':left≤0:=of_decide_eq_true hb
   have hr:rebF leaf (.mk op n s k names l) binders left=(zeroC,-1):=by rw[rebF,if_pos hb']
   rw[hr]
   simp only[go_sem,zeroC,encC_mk,leafBox]
 · have hb':¬left≤0:=of_decide_eq_false hb
   simp only[go_sem]
   by_cases hop:op=1∨op=2
   · have hr:rebF leaf (.mk op n s k names l) binders left=(leaf (.mk op n s k names l) binders,left - sizeF (leaf (.mk op n s k names l) binders)):=by rw[rebF,if_neg hb',if_pos hop]
     rw[hr]
     have hin:=hself (by rw[leaves,if_pos hop];simp)
     obtain ⟨hz,hS⟩:=hin
     have hSize:=Size_spec (leaf (.mk op n s k names l) binders) (by omega)
     have w1:IntKind.i64.wrap (left - sizeF (leaf (.mk op n s k names l) binders))=left - sizeF (leaf (.mk op n s k names l) binders):=wrap_id (by omega) (by omega)
     generalize leaf (.mk op n s k names l) binders=res at hS hSize w1
     rw[encC_mk] at hS
     have h12:(op==1)=true∨((op==1)=false∧(op==2)=true):=by
       rcases hop with h|h<;>simp[h]
     rcases h12 with h12|⟨h12,h13⟩
     all_goals
       simp only[go_sem,h12]
       try simp only[go_sem,h13]
       refine aCall_intro hS ?_
       simp only[go_sem,encC_sz]
       try (refine ⟨by kernel_rfl,?_⟩;try simp only[go_sem,encC_sz])
       refine aCall_intro hSize ?_
       simp only[go_sem,encC_sz,w1]
       kernel_rfl
   · have hr:∃r,r=rebL leaf l (if isBinder op then binders+1 else binders) (left - 1)∧rebF leaf (.mk op n s k names l) binders left=(.mk op n s k names r.1,r.2):=by
       refine ⟨_,rfl,?_⟩
       rw[rebF,if_neg hb',if_neg hop]
     obtain ⟨r,hr0,hr⟩:=hr
     rw[hr]
     have hlv:∀x b,(x,b)∈leavesL l (if isBinder op then binders+1 else binders)→sizeF (leaf x b)≤100000000∧Spec Tryz.prog f (pp (encC x)::ii b::caps.map pp) [] (encC (leaf x b)) []:=by
       intro x b hx
       exact hleaf x b (by rw[leaves,if_neg hop];exact hx)
     have hK:=kindOf_spec (.mk k) (by rw[knF];omega)
     have hN:=Clone_spec names (by omega)
     have hB:=binder_spec (.mk op n s k names l)
     simp only[ConT.op] at hB
     rw[encC_mk] at hB
     rw[encK_mk] at hK
     have f1:(op==1)=false:=by simp;omega
     have f2:(op==2)=false:=by simp;omega
     have w1:IntKind.i64.wrap (left - 1)=left - 1:=wrap_id (by omega) (by omega)
     have w2:IntKind.i64.wrap (binders+1)=binders+1:=wrap_id (by omega) (by omega)
     have hdl:binders+1+depthL l≤100000000:=by rw[depthF] at h2;omega
     simp only[go_sem,f1,f2,w1]
     try (refine ⟨by kernel_rfl,?_⟩;try simp only[go_sem,encC_sz,w1])
     refine aCall_intro hK ?_
     simp only[go_sem]
     refine aCall_intro hN ?_
     simp only[go_sem]
     try (refine ⟨by kernel_rfl,?_⟩;try simp only[go_sem,encC_sz,w1])
     refine aCall_intro hB ?_
     simp only[go_sem]
     clear hB hN hK hself hleaf
     obtain ⟨bb,hbb⟩:∃bb,(if isBinder op then binders+1 else binders)=bb:=⟨_,rfl⟩
     rw[hbb] at hlv hr0
     have hbb0:0≤bb:=by rw[←hbb];split<;>omega
     have hbb1:bb+depthL l≤100000000:=by rw[←hbb];split<;>omega
     have hwl:=wtL_len l
     have loop:∀{A:Prop},A→A:=fun a=>a
     clear loop
     refine condK_intro (fun hc=>?_) (fun hc=>?_)
     all_goals
       first
         | (have e:IntKind.i64.wrap (binders+1)=bb:=by rw[w2,←hbb,hc];rfl
            simp only[go_sem,e,List.length_map])
         | (have e:binders=bb:=by rw[←hbb,hc];rfl
            simp only[go_sem,e,List.length_map])
       clear w2 hbb hc h1 h2 hdl
       refine aLoop_list (α:=ConT) (β:=List ConT×Nat×Int) (fun rest b=>⟨[(72,ii b.2.1),(8,.one (.ptr (.loc 8) 0)),(2,ii bb),(0,.one (.ptr (.ref 0) 0)),(70,pp (.slice (l.map encC))),(6,.one (.ptr (.loc 6) 0)),(71,ii l.length)],
           [(.ref 0,leafBox f caps b.2.2),(.loc 6,⟨.agg 6,.agg [.pv (.int .i64 0),.pv (.int .i64 0),.pv (.str ByteArray.empty),.nilS,.nilS,.nilS]⟩),
            (.loc 8,⟨.agg 6,.agg [.pv (.int .i64 op),.pv (.int .i64 n),.pv (.str s),.pv (.slice (k.map encK)),.pv (.slice (names.map .str)),acc 166 (.agg 6) (b.1.map encC)]⟩)],[]⟩)
         (fun rest b=>∃pre,l=pre++rest∧b.2.1=pre.length∧b.1.length=pre.length∧-100000000≤b.2.2∧b.2.2≤100000000∧(∀x b',(x,b')∈leavesL rest bb→(x,b')∈leavesL l bb)∧r=(b.1++(rebL leaf rest bb b.2.2).1,(rebL leaf rest bb b.2.2).2)) ?_ ?_ l ([],0,left - 1) _ ?_ ⟨[],rfl,rfl,rfl,by simp only;omega,by simp only;omega,fun _ _ h=>h,by rw[hr0];rfl⟩
       · rintro ⟨out,m,lf⟩ ⟨pre,g1,g2,g3,g4,g5,g6,g7⟩ K
         simp only[List.append_nil] at g1 g2 g3 g4 g5 g7
         subst g1
         simp only[rebL,List.append_nil] at g7
         subst g7
         simp only[go_sem,g2,lt_false (Int.le_refl _)]
         cases out with
         |nil=>simp only[go_sem,acc,encC_mk]
         |cons x r=>simp only[go_sem,acc,encC_mk]
       · rintro x rest ⟨out,m,lf⟩ ⟨pre,g1,g2,g3,g4,g5,g6,g7⟩ K hK
         simp only at g2 g3 g4 g5 g7
         have hx:(l.map encC)[m]? = some (encC x):=by simp[g1,g2]
         have hlt:(m:Int)<l.length:=by rw[g1,g2];simp;omega
         have hll:l.length=m+(rest.length+1):=by rw[g1,g2];simp
         have hm:x∈l:=by simp[g1]
         have hw:=wtF_mem hm
         have hd:=depthF_mem hm
         have hlx:∀y b',(y,b')∈leaves x bb→sizeF (leaf y b')≤100000000∧Spec Tryz.prog f (pp (encC y)::ii b'::caps.map pp) [] (encC (leaf y b')) []:=fun y b' hy=>hlv y b' (g6 y b' (by rw[leavesL];exact List.mem_append_left _ hy))
         have hI:=ih x hm bb lf hbb0 (by omega) g4 g5 (by omega) hlx
         have hbd:=rebF_bound leaf x bb lf g4 g5 fun y b' hy=>(hlx y b' hy).1
         have w4:IntKind.i64.wrap ((m:Int)+1)=((m+1:Nat):Int):=by rw[wrap_id (by omega) (by omega)];simp
         simp only[rebL] at g7
         generalize rebF leaf x bb lf=y at hI hbd g7
         have hK':=fun s' hs=>hK (out++[y.1],m+1,y.2) s' hs ⟨pre++[x],by simp[g1],by simp[g2],by simp[g3],hbd.1,hbd.2,fun z b' hz=>g6 z b' (by rw[leavesL];exact List.mem_append_right _ hz),by rw[g7];simp⟩
         clear hK
         simp only[leafBox] at hI
         cases out with
         |nil=>
           simp only[go_sem,acc,decide_eq_true hlt,Int.toNat_natCast,Int.natCast_nonneg,hx,encC_sz]
           refine aCall_intro hI ?_
           simp only[go_sem,encC_sz,one_le_maxLen,w4]
           refine ⟨by kernel_rfl,hK' _ ?_⟩
           simp only[go_sem,acc]
         |cons z zs=>
           have hb1:(zs.length+1+1)*104≤140737488355328:=by simp at g3;omega
           have hb2:zs.length+1+1≤maxLen:=by rw[maxLen_eq];simp at g3;omega
           simp only[go_sem,acc,decide_eq_true hlt,Int.toNat_natCast,Int.natCast_nonneg,hx,encC_sz]
           refine aCall_intro hI ?_
           simp only[go_sem,encC_sz,List.length_map,hb1,hb2,w4]
           refine ⟨by kernel_rfl,hK' _ ?_⟩
           simp only[go_sem,acc,List.map_append]
       · simp only[go_sem,acc,List.length_nil,Int.natCast_zero]
end Go.Abs.Kon