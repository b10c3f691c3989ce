/- Contracts of functions: nodes that are made, kinds copied, constructors rebuilt. -/
import Derived.Test.YtokeiaiddaojnaaGreatDoorKonD
import Derived.Test.YtokeiaiddaojnaaGreatDoorShelfA
set_option linter.unusedSimpArgs false
namespace Go.Abs.Kon
open Go Go.Proofs Go.Abs
set_option maxRecDepth 100000
set_option maxHeartbeats 4000000
attribute [go_sem] Sz.size List.size_toArray
def zeroC:ConT:=.mk 0 0 ByteArray.empty [] [] []
mutual
def knF:KindT→Nat
 | .mk l=>1+knL l
def knL:List KindT→Nat
 | []=>0
 |x::r=>knF x+knL r
end
theorem one_le_maxLen:(1≤maxLen)=True:=by simp[maxLen_eq]
def acc (t:Nat) (k:Sz):List PV→SC
 | []=>.nilS
 |e::es=>.own t k (e::es)
theorem lay_ext {G:Gh}{w w':World}(hW:WInv G w) (hB:RowKit.Below w.heap.size w w') (g:Nat) (hg:w.heap.size≤g) (news:List Value) (hc:∀j u,news[j]? = some u→w'.cell? ⟨g,j,none⟩=some u) (mods:Nm→Prop) (us:Nat→Prop) :
   ∃G',WInv G' w'∧Ext G G' w w' mods us∧∀j u,news[j]? = some u→G'.I g j=some u:=by
 let G':Gh:=⟨fun b o=>if b=g then news[o]? else G.I b o,G.blk,G.tok,G.cap⟩
 have hne:∀{b o v},G.I b o=some v→b≠g:=fun hv e=>by have:=imm_lt hW hv;omega
 have hE:Ext G G' w w' mods us:=by
   refine ⟨fun b o v hv=>?_,fun b o v hv=>?_,fun _ _=>rfl,fun _ _ h=>h,fun _ _ h=>.inl h,fun _ _ _ h=>h,fun _ _ _ h _=>.inl h,fun b hb _ _=>hB.block b hb,hB.size,hB.os,hB.tape,hB.output,fun _ _=>rfl⟩
   · show (if b=g then _ else _)=_
     rw[if_neg (hne hv)];exact hv
   · have hv':(if b=g then news[o]? else G.I b o)=some v:=hv
     split at hv'
     · rename_i e;exact .inr (.inl (by omega))
     · exact .inl hv'
 refine ⟨G',⟨fun b o v hv=>?_,hW.inj,fun n b h=>Nat.lt_of_lt_of_le (hW.lt n b h) hB.size,fun n b h o=>?_,fun t tk ht=>?_,hW.tokInj,hW.tokBlk,hW.glob.step hE⟩,hE,fun j u hj=>?_⟩
 · have hv':(if b=g then news[o]? else G.I b o)=some v:=hv
   split at hv'
   · rename_i e;subst e;exact hc o v hv'
   · rw[World.cell?_of_block (w:=w) (hB.block b (imm_lt hW hv'))];exact hW.imm _ _ _ hv'
 · show (if b=g then _ else _)=_
   rw[if_neg (by have:=hW.lt n b h;omega)];exact hW.blkImm n b h o
 · refine (hW.tokOk t tk ht).keep fun g' hg'=>⟨hB.block g' (tok_lt hW ht hg'),fun o v hv=>?_⟩
   have hv':(if g'=g then news[o]? else G.I g' o)=some v:=hv
   rw[if_neg (by have:=tok_lt hW ht hg';omega)] at hv'
   exact hv'
 · show (if g=g then _ else _)=_
   rw[if_pos rfl];exact hj
theorem repE_strs {I:Imm}:∀(names:List ByteArray) (b o:Nat),(∀j s,names[j]? = some s→I b (o+j)=some (.string s))→RepE I .one (names.map .str) b o
 | [],b,o,h=>by simp[RepE]
 |s::r,b,o,h=>by
   rw[List.map_cons,RepE]
   refine ⟨⟨.string s,by simp[Rep],rfl,fun j v hj=>?_⟩,repE_strs r b _ fun j s' hj=>?_⟩
   · cases j with
     |zero=>simp[Value.cells] at hj;subst hj;exact h 0 s rfl
     |succ j=>simp[Value.cells] at hj
   · have:=h (j+1) s' (by simpa using hj)
     simp only[Sz.size]
     rw[Nat.add_assoc,Nat.add_comm 1 j];exact this
theorem repE_strs_inv {I:Imm}{k:Sz}:∀(names:List ByteArray) (b o:Nat),RepE I k (names.map .str) b o→∀j s,names[j]? = some s→I b (o+j)=some (.string s)
 | [],b,o,h,j,s,hj=>by simp at hj
 |x::r,b,o,h,j,s,hj=>by
   rw[List.map_cons,RepE] at h
   obtain ⟨⟨u,h1,h2,h3⟩,h4⟩:=h
   rw[Rep] at h1
   subst h1
   have hk:k=.one:=okV_unique (u:=.string x) h2 rfl
   subst hk
   cases j with
   |zero=>simp at hj;subst hj;exact h3 0 _ (by simp[Value.cells])
   |succ j=>
     have:=repE_strs_inv r b _ h4 j s (by simpa using hj)
     simp only[Sz.size] at this
     rw[Nat.add_assoc,Nat.add_comm 1 j] at this;exact this
theorem ownsRow_rep {G:Gh}{w w':World}{v':Value}{names:List ByteArray}(hW:WInv G w) (hB:RowKit.Below w.heap.size w w') (ho:w'.ownsRow w.heap.size 9 1 v' names.length (names.map Value.string)) (mods:Nm→Prop) (us:Nat→Prop) :
   ∃G',WInv G' w'∧Ext G G' w w' mods us∧Rep G'.I (.slice (names.map .str)) v':=by
 obtain ⟨_,ho⟩:=ho
 rcases ho with ⟨rfl,h0⟩|⟨g,cap,cur,rfl,hg,hh,hcap,hmx,_,ht⟩
 · obtain ⟨h1,h2⟩:=below_ext hW hB mods us
   rw[List.eq_nil_of_length_eq_zero h0]
   exact ⟨G,h1,h2,by rw[List.map_nil,Rep];exact ⟨none,0,0,.one,rfl,rfl,Nat.le_refl _,Nat.zero_le _,.inl rfl⟩⟩
 · rw[Nat.mul_one] at ht
   obtain ⟨G',h1,h2,h3⟩:=lay_ext hW hB g hg (names.map Value.string) (fun j u hj=>by
     rw[cell_row hh]
     rw[←ht,List.getElem?_take] at hj
     split at hj
     · rw[←Array.getElem?_toList];exact hj
     · cases hj) mods us
   refine ⟨G',h1,h2,?_⟩
   rw[Rep]
   refine ⟨some ⟨g,0,none⟩,names.length,cap,.one,rfl,by simp,hcap,hmx,.inr ⟨g,0,rfl,repE_strs names g 0 fun j s hj=>?_⟩⟩
   rw[Nat.zero_add]
   exact h3 j _ (by simp[hj])
theorem Clone_spec (names:List ByteArray) (hn:names.length≤1000000000):Spec Tryz.prog 70 [pp (.slice (names.map .str))] [] (.slice (names.map .str)) []:=by
 refine ⟨by kernel_rfl,rfl,fun G w vs hW _ _ _ hr=>?_⟩
 simp only[RepSVs,pp,RepSV,RepSC] at hr
 obtain ⟨v,rest,hvs,hv,hrest⟩:=hr
 subst hrest
 obtain rfl:vs=#[v]:=Array.toList_inj.1 hvs
 rw[Rep] at hv
 obtain ⟨a,len,cap,k,rfl,hlen,hcap,hmx,hes⟩:=hv
 rw[List.length_map] at hlen
 subst hlen
 cases a with
 |none=>
   have h0:names=[]:=by
     rcases hes with h|⟨b,o,h,_⟩
     · simpa using h
     · cases h
   subst h0
   refine (Tryz.slices_Clone_string_nil _ cap w).mono ?_
   rintro e w' ⟨rfl,rfl⟩
   exact ⟨_,G,rfl,by rw[List.map_nil,Rep];exact ⟨none,0,0,.one,rfl,rfl,Nat.le_refl _,Nat.zero_le _,.inl rfl⟩,hW,Ext.refl _ _ _ _,fun j bx hj=>by simp at hj⟩
 |some a=>
   have fin:∀(e:Ending) (w':World),(∃v',e=.returned v'∧w'.ownsRow w.heap.size 9 1 v' names.length (names.map Value.string)∧v'≠.slice none 0 0∧RowKit.Below w.heap.size w w') →
       ∃v G',e=.returned v∧Rep G'.I (.slice (names.map .str)) v∧WInv G' w'∧Ext G G' w w' (fun n=>isRef n ([]:List Box).length) (fun _=>True)∧(∀j bx,([]:List Box)[j]? = some bx→BoxAt G' [] w' (.ref j) bx):=by
     rintro e w' ⟨v',rfl,ho,_,hB⟩
     obtain ⟨G',h1,h2,h3⟩:=ownsRow_rep hW hB ho (fun n=>isRef n ([]:List Box).length) (fun _=>True)
     exact ⟨v',G',rfl,h3,h1,h2,fun j bx hj=>by simp at hj⟩
   by_cases h0:names=[]
   · subst h0
     exact (Tryz.slices_Clone_string_zero a cap w).mono fin
   · rcases hes with h|⟨b,o,h,hE⟩
     · exact absurd (by simpa using h) h0
     · cases h
       have hI:=repE_strs_inv names b o hE
       have:=Tryz.slices_Clone_string b o names.length cap names w (Nat.le_refl _) (by omega) (fun j hj=>by
         have:=hW.imm _ _ _ (hI j names[j] (by simp[hj]))
         rw[this,List.getD_eq_getElem?_getD];simp[hj])
       rw[List.take_length] at this
       exact this.mono fin
mutual
def leaves:ConT→Int→List (ConT×Int)
 | .mk op n s k names l,b=>if op=1∨op=2 then [(.mk op n s k names l,b)] else leavesL l (if isBinder op then b+1 else b)
def leavesL:List ConT→Int→List (ConT×Int)
 | [],_=>[]
 |x::r,b=>leaves x b++leavesL r b
end
mutual
def wtF:ConT→Nat
 | .mk _ _ _ k names l=>1+knL k+names.length+wtL l
def wtL:List ConT→Nat
 | []=>0
 |x::r=>wtF x+wtL r
end
theorem wtL_len (l:List ConT):l.length≤wtL l:=by
 induction l with
 |nil=>simp[wtL]
 |cons x r ih=>
   rw[wtL,List.length_cons]
   have:1≤wtF x:=by cases x;rw[wtF];omega
   omega
@[go_sem] def leafBox (f:FuncId) (caps:List PV) (left:Int):Box:=⟨.agg 2,.agg [.pv (.fn f caps),.pv (.int .i64 left)]⟩
theorem depthF_mem {c:ConT}{l:List ConT}(h:c∈l):depthF c≤depthL l:=by
 induction l with
 |nil=>simp at h
 |cons x r ih=>
   rw[depthL]
   rcases List.mem_cons.1 h with rfl|h
   · omega
   · have:=ih h;omega
end Go.Abs.Kon
