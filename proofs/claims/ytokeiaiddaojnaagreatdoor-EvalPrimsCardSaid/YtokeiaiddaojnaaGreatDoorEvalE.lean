/- Evaluation: Run. -/
import Derived.Test.YtokeiaiddaojnaaGreatDoorEvalD
import Derived.Defers
import Derived.Recover
import Derived.WalkKit
import Derived.Test.YtokeiaiddaojnaaGreatDoorTermD
set_option linter.unusedSimpArgs false
set_option linter.unusedVariables false
namespace Go.Abs.Kon
open Go Go.Proofs Go.Abs
set_option maxRecDepth 100000
set_option maxHeartbeats 4000000
structure Grow (w w':World):Prop where
 old:∀b,b<w.heap.size→w'.heap[b]? = w.heap[b]?
 size:w.heap.size≤w'.heap.size
 os:w'.os=w.os
 tape:w'.tape=w.tape
 output:w'.output=w.output
theorem Grow.ext {G:Gh}{w w':World}(h:Grow w w') (mods:Nm→Prop) (us:Nat→Prop):Ext G G w w' mods us:=
 ⟨Imm.le_refl _,fun _ _ _ h=>.inl h,fun _ _=>rfl,fun _ _ h=>h,fun _ _ h=>.inl h,fun _ _ _ h=>h,fun _ _ _ h _=>.inl h,fun b hb _ _=>h.old b hb,h.size,h.os,h.tape,h.output,fun _ _=>rfl⟩
theorem Grow.inv {G:Gh}{w w':World}(h:Grow w w') (hW:WInv G w):WInv G w':=by
 refine ⟨fun b o u hv=>?_,hW.inj,fun m b hm=>Nat.lt_of_lt_of_le (hW.lt m b hm) h.size,hW.blkImm,fun t tk ht=>?_,hW.tokInj,hW.tokBlk,hW.glob.step (h.ext (fun _=>False) (fun _=>False))⟩
 · rw[World.cell?_of_block (w:=w) (h.old b (imm_lt hW hv))]
   exact hW.imm b o u hv
 · exact (hW.tokOk t tk ht).keep fun g hg=>⟨h.old g (tok_lt hW ht hg),fun _ _ h=>h⟩
theorem Grow.box {G:Gh}{w w':World}{n:Nm}{bx:Box}(h:Grow w w') (hW:WInv G w) (hb:BoxAt G [] w n bx):BoxAt G [] w' n bx:=by
 have:=hb.ext (h.ext (fun _=>False) (·∈([]:List Nat))) hW (fun h=>h)
 simpa using this
theorem grow_alloc (w:World) (o:Obj):Grow w (w.alloc o):=by
 refine ⟨fun b hb=>?_,?_,rfl,rfl,rfl⟩
 · show (w.heap.push o)[b]? = _
   rw[Array.getElem?_push,if_neg (by omega)]
 · show _≤(w.heap.push o).size
   rw[Array.size_push];omega
structure Un (G:Gh) (b:Nat):Prop where
 I:∀o,G.I b o=none
 blk:∀n,G.blk n≠some b
 tok:∀t tk,G.tok t=some tk→tk.g≠some b
 glob:b∉gvars
structure But (b:Nat) (w w':World):Prop where
 old:∀c,c<w.heap.size→c≠b→w'.heap[c]? = w.heap[c]?
 size:w.heap.size≤w'.heap.size
 os:w'.os=w.os
 tape:w'.tape=w.tape
 output:w'.output=w.output
theorem But.inv {G:Gh}{w w':World}{b:Nat}(h:But b w w') (hu:Un G b) (hW:WInv G w):WInv G w':=by
 have hI:∀{c o u},G.I c o=some u→c≠b:=fun hv e=>by rw[e,hu.I] at hv;cases hv
 refine ⟨fun c o u hv=>?_,hW.inj,fun m c hm=>Nat.lt_of_lt_of_le (hW.lt m c hm) h.size,hW.blkImm,fun t tk ht=>?_,hW.tokInj,hW.tokBlk,fun g hg=>⟨?_,(hW.glob g hg).2⟩⟩
 · rw[World.cell?_of_block (w:=w) (h.old c (imm_lt hW hv) (hI hv))]
   exact hW.imm c o u hv
 · exact (hW.tokOk t tk ht).keep fun g hg=>⟨h.old g (tok_lt hW ht hg) (fun e=>hu.tok t tk ht (by rw[hg,e])),fun _ _ h=>h⟩
 · rw[h.old g (hW.glob.lt hg) (fun e=>hu.glob (e ▸ hg))]
   exact (hW.glob g hg).1
theorem But.box {G:Gh}{w w':World}{b:Nat}{n:Nm}{bx:Box}(h:But b w w') (hu:Un G b) (hW:WInv G w) (hb:BoxAt G [] w n bx):BoxAt G [] w' n bx:=by
 have hk:∀c,G.blk n=some c→w'.heap[c]? = w.heap[c]? := fun c hc=>h.old c (hW.lt n c hc) (fun e=>hu.blk n (by rw[hc,e]))
 rcases hb with ⟨g,vs,T,u,h1,h2,h3,h4,h5⟩|⟨g,ks,es,clock,h1,h2,h3,h4⟩|h1
 · exact .inl ⟨g,vs,T,u,h1,by rw[hk g h1];exact h2,h3,h4,h5⟩
 · exact .inr (.inl ⟨g,ks,es,clock,h1,by rw[hk g h1];exact h2,h3,h4⟩)
 · exact .inr (.inr (h1.keep (Imm.le_refl _) (fun c hc=>⟨hc,hk c hc⟩) (fun _=>rfl) fun _ _ e=>e))
theorem around {G G':Gh}{w w2 w3:World}{o:Obj}{mods:Nm→Prop}(hW:WInv G w) (hE:Ext G G' (w.alloc o) w2 mods (fun _=>True)) (hW2:WInv G' w2) (hB:But w.heap.size w2 w3) :
   WInv G' w3∧Ext G G' w w3 mods (fun _=>True)∧(∀n bx,BoxAt G' [] w2 n bx→BoxAt G' [] w3 n bx)∧w2.heap[w.heap.size]? = some o:=by
 have hg:=grow_alloc w o
 have hsz:(w.alloc o).heap.size=w.heap.size+1:=Array.size_push ..
 have hT:∀{c:Nat}{us:Nat→Prop},TokBlk G c us→c<w.heap.size:=by
   rintro c us ⟨t,tk,_,h1,h2⟩
   exact tok_lt hW h1 h2
 have hU:Un G' w.heap.size:=by
   refine ⟨fun o'=>?_,fun n hn=>?_,fun t tk ht htg=>?_,fun hm=>?_⟩
   · cases hv:G'.I w.heap.size o' with
     |none=>rfl
     |some u=>
       rcases hE.INew _ _ _ hv with h|h|h
       · exact absurd (imm_lt hW h) (Nat.lt_irrefl _)
       · omega
       · exact absurd (hT h) (Nat.lt_irrefl _)
   · rcases hE.blkNew n _ hn with h|h|h
     · exact absurd (hW.lt n _ h) (Nat.lt_irrefl _)
     · omega
     · exact absurd (hT h) (Nat.lt_irrefl _)
   · rcases hE.tokNew t tk _ ht htg with h|h|h
     · exact absurd (tok_lt hW h htg) (Nat.lt_irrefl _)
     · omega
     · exact absurd (hT h) (Nat.lt_irrefl _)
   · exact absurd (hW.glob.lt hm) (Nat.lt_irrefl _)
 have hs2:=hE.size
 refine ⟨hB.inv hU hW2,⟨hE.I,fun b o' v hv=>?_,hE.blk,hE.mono,fun n b hn=>?_,hE.tok,fun t tk g h1 h2=>?_,fun b hb h1 h2=>?_,?_,by rw[hB.os,hE.os];rfl,by rw[hB.tape,hE.tape];rfl,by rw[hB.output,hE.output];rfl,hE.cap⟩,fun n bx h=>hB.box hU hW2 h,?_⟩
 · rcases hE.INew b o' v hv with h|h|h
   · exact .inl h
   · exact .inr (.inl (by omega))
   · exact .inr (.inr h)
 · rcases hE.blkNew n b hn with h|h|h
   · exact .inl h
   · exact .inr (.inl (by omega))
   · exact .inr (.inr h)
 · rcases hE.tokNew t tk g h1 h2 with h|h|h
   · exact .inl h
   · exact .inr (.inl (by omega))
   · exact .inr (.inr h)
 · rw[hB.old b (by omega) (by omega),hE.heap b (by omega) h1 h2,hg.old b hb]
 · have:=hB.size;omega
 · rw[hE.heap w.heap.size (by omega) (fun n _ hn=>absurd (hW.lt n _ hn) (Nat.lt_irrefl _)) (fun h=>absurd (hT h) (Nat.lt_irrefl _))]
   show (w.heap.push o)[w.heap.size]? = _
   simp
theorem catch_idle (p:Addr) (w:World):CallsD Tryz.prog 68 #[.pointer (some p)] .returning w fun e u' w'=>e=.returned (.tuple #[])∧u'=.returning∧w'=w:=by
 refine callsD_of_wpS Tryz.func68 rfl fun c₀ cs hu=>?_
 apply wpS_seq
 apply wpS_region
 simp[wpOpsS,go_sem,recoverD,hu,Tryz.ntmps68,Exit.thenS]
 have hnil:∀w:World,(binOp BinOp.eql 20 .nilIface .nilIface).run Tryz.prog w=.ok (.bool true) w:=fun _=>by kernel_rfl
 refine wpS_of_wp ?_
 go_wp2
 cases c₀
 simp_all [bodyPostS,results,Tryz.results68,Exit.thenS]
def World2 (w:World) (b:Nat) (op n:Int):World:=((w.setCell ⟨b,0,none⟩ (.int .i64 op)).setCell ⟨b,1,none⟩ (.int .i64 n)).alloc (.cells #[.int .i64 op,.int .i64 n] 73)
theorem catch_pan (b:Nat) (op n:Int) (w:World) (hb:w.heap[b]? = some (.cells #[.int .i64 0,.int .i64 0] 73 (0,0))) :
   CallsD Tryz.prog 68 #[.pointer (some ⟨b,0,none⟩)] (.panicking [{v:=.iface 73 (.agg #[.int .i64 op,.int .i64 n]),recovered:=false}]) w
     fun e u' w'=>e=.returned (.tuple #[])∧u'=.panicking [{v:=.iface 73 (.agg #[.int .i64 op,.int .i64 n]),recovered:=true}]∧w'=World2 w b op n:=by
 have hlt:b<w.heap.size:=(Array.getElem?_eq_some_iff.1 hb).1
 have hc0:w.cell? ⟨b,0,none⟩=some (.int .i64 0):=by rw[cell_row hb];rfl
 have hc1:w.cell? ⟨b,1,none⟩=some (.int .i64 0):=by rw[cell_row hb];rfl
 have hf0:w.frozen? ⟨b,0,none⟩=false:=by simp[World.frozen?,hb]
 have hf1:w.frozen? ⟨b,1,none⟩=false:=by simp[World.frozen?,hb]
 refine callsD_of_wpS Tryz.func68 rfl fun c₀ cs hu=>?_
 apply wpS_seq
 apply wpS_region
 simp[wpOpsS,go_sem,recoverD,hu,Tryz.ntmps68,Exit.thenS]
 have hta:∀w:World,(Instr.typeAssert (.iface 73 (.agg #[.int .i64 op,.int .i64 n])) 20 73 true).run Tryz.prog w=.ok (.tuple #[.agg #[.int .i64 op,.int .i64 n],.bool true]) w:=fun _=>by kernel_rfl
 refine wpS_of_wp ?_
 go_wp2
 cases c₀
 simp_all [bodyPostS,results,Tryz.results68,Exit.thenS,World2]
theorem but_store (w:World) (b:Nat) (u v:Value):But b w ((w.setCell ⟨b,0,none⟩ u).setCell ⟨b,1,none⟩ v):=by
 refine ⟨fun c hc hne=>?_,?_,rfl,rfl,rfl⟩
 · rw[heap_setCell_other _ _ _ _ hne,heap_setCell_other _ _ _ _ hne]
 · simp[World.setCell]
theorem but_world2 (w:World) (b:Nat) (op n:Int):But b w (World2 w b op n):=by
 have h:=but_store w b (.int .i64 op) (.int .i64 n)
 have hg:=grow_alloc ((w.setCell ⟨b,0,none⟩ (.int .i64 op)).setCell ⟨b,1,none⟩ (.int .i64 n)) (.cells #[.int .i64 op,.int .i64 n] 73)
 refine ⟨fun c hc hne=>?_,Nat.le_trans h.size hg.size,rfl,rfl,rfl⟩
 rw[World2,hg.old c (Nat.lt_of_lt_of_le hc h.size),h.old c hc hne]
theorem try_ret {f:FuncId}{caps:List Cap}{refs refs':List Box}(h:Spec Tryz.prog f (caps.map capSV) refs (.tuple []) refs'):Spec Tryz.prog 32 [.one (.fn f caps)] refs (.agg [.int .i64 0,.int .i64 0]) refs':=by
 obtain ⟨hbod,hlen,hS⟩:=h
 refine ⟨by kernel_rfl,hlen,fun G w vs hW hev hblk hbox hargs=>?_⟩
 simp only[RepSVs,RepSV,RepSC] at hargs
 obtain ⟨v,rest,hvs,⟨cv,rfl,hcv⟩,rfl⟩:=hargs
 obtain rfl:vs=#[.func (.func f) #[] cv]:=by apply Array.ext';simpa using hvs
 have hmf:∀(fn:Fn) (first cap:Array Value) (w:World),(Instr.makeFunc fn first cap).run Tryz.prog w=.ok (.func fn first cap) w:=fun _ _ _ _=>rfl
 have hcf:∀w:World,(callFunc f cv).run Tryz.prog w=.ok (.enter f cv) w:=by
   intro w
   unfold bodied at hbod
   cases hfn:Tryz.prog.funcs[f]? with
   |none=>simp[hfn] at hbod
   |some fn=>
     simp only[hfn,Bool.and_eq_true,Bool.not_eq_true'] at hbod
     have h1:fn.body≠none:=by intro hb;rw[hb] at hbod;simp at hbod
     have h2:fn.name≠ "runtime.NumGoroutine":=beq_eq_false_iff_ne.1 hbod.2
     simp[callFunc,hfn,h1,h2]
 refine calls_of_wp_defers Tryz.func32 rfl ?_
 go_wp2
 have hg:=grow_alloc w (.cells #[.int .i64 0,.int .i64 0] 73)
 refine (hS G _ cv (hg.inv hW) hev hblk (fun j bx hj=>hg.box hW (hbox j bx hj)) (RepSVs_caps hcv)).mono ?_
 rintro e w2 ⟨v,G',rfl,g1,g2,g3,g4⟩
 obtain ⟨_,_,_,hb⟩:=around hW g3 g2 (⟨fun _ _ _=>rfl,Nat.le_refl _,rfl,rfl,rfl⟩:But w.heap.size w2 w2)
 have hc0:w2.cell? ⟨w.heap.size,0,none⟩=some (.int .i64 0):=by rw[cell_row hb];rfl
 have hc1:w2.cell? ⟨w.heap.size,1,none⟩=some (.int .i64 0):=by rw[cell_row hb];rfl
 have hf0:w2.frozen? ⟨w.heap.size,0,none⟩=false:=by simp[World.frozen?,hb]
 have hf1:w2.frozen? ⟨w.heap.size,1,none⟩=false:=by simp[World.frozen?,hb]
 obtain ⟨k1,k2,k3,_⟩:=around hW g3 g2 (but_store w2 w.heap.size (.int .i64 0) (.int .i64 0))
 simp only
 go_wp2
 refine leaves_cons (f:=68) (args:=#[.pointer (some ⟨w.heap.size,0,none⟩)]) (by simp) (by simp[go_sem]) ?_
 refine (catch_idle _ _).mono ?_
 rintro e u' w3 ⟨rfl,rfl,rfl⟩
 refine ⟨.agg #[.int .i64 0,.int .i64 0],?_,_,G',rfl,?_,k1,k2,fun j bx hj=>k3 _ _ (g4 j bx hj)⟩
 · have q0:((w2.setCell ⟨w.heap.size,0,none⟩ (.int .i64 0)).setCell ⟨w.heap.size,1,none⟩ (.int .i64 0)).heap[w.heap.size]? = some (.cells #[.int .i64 0,.int .i64 0] 73 (0,0)):=by
     rw[heap_setCell_same _ _ _ #[.int .i64 0,.int .i64 0] 73 _ (by rw[heap_setCell_same _ _ _ _ _ _ hb];rfl)];rfl
   have:=run_loadVar_sz (P:=Tryz.prog) (t:=73) (k:=.agg 2) (by simp only[go_sem]) (b:=w.heap.size) (o:=0) (u:=.agg #[.int .i64 0,.int .i64 0]) rfl (fun j v hj=>by rw[cell_row q0];rw[Nat.zero_add];exact hj)
   simp[results,Tryz.results32,this,Array.getD,asAddr]
 · rw[Rep]
   refine ⟨_,rfl,?_,by simp[Value.oneCell']⟩
   rw[RepL]
   refine ⟨_,_,rfl,by rw[Rep],?_⟩
   rw[RepL]
   exact ⟨_,_,rfl,by rw[Rep],by rw[RepL]⟩
theorem try_pan {f:FuncId}{caps:List Cap}{refs refs':List Box}{op n:Int}(h:SpecP Tryz.prog f (caps.map capSV) refs (endedE op n) refs'):Spec Tryz.prog 32 [.one (.fn f caps)] refs (.agg [.int .i64 op,.int .i64 n]) refs':=by
 obtain ⟨hbod,hlen,hS⟩:=h
 refine ⟨by kernel_rfl,hlen,fun G w vs hW hev hblk hbox hargs=>?_⟩
 simp only[RepSVs,RepSV,RepSC] at hargs
 obtain ⟨v,rest,hvs,⟨cv,rfl,hcv⟩,rfl⟩:=hargs
 obtain rfl:vs=#[.func (.func f) #[] cv]:=by apply Array.ext';simpa using hvs
 have hmf:∀(fn:Fn) (first cap:Array Value) (w:World),(Instr.makeFunc fn first cap).run Tryz.prog w=.ok (.func fn first cap) w:=fun _ _ _ _=>rfl
 have hcf:∀w:World,(callFunc f cv).run Tryz.prog w=.ok (.enter f cv) w:=by
   intro w
   unfold bodied at hbod
   cases hfn:Tryz.prog.funcs[f]? with
   |none=>simp[hfn] at hbod
   |some fn=>
     simp only[hfn,Bool.and_eq_true,Bool.not_eq_true'] at hbod
     have h1:fn.body≠none:=by intro hb;rw[hb] at hbod;simp at hbod
     have h2:fn.name≠ "runtime.NumGoroutine":=beq_eq_false_iff_ne.1 hbod.2
     simp[callFunc,hfn,h1,h2]
 refine calls_of_wp_defers Tryz.func32 rfl ?_
 go_wp2
 have hg:=grow_alloc w (.cells #[.int .i64 0,.int .i64 0] 73)
 refine (hS G _ cv (hg.inv hW) hev hblk (fun j bx hj=>hg.box hW (hbox j bx hj)) (RepSVs_caps hcv)).mono ?_
 rintro e w2 ⟨v,G',rfl,g1,g2,g3,g4⟩
 obtain ⟨k1,k2,k3,hb⟩:=around hW g3 g2 (but_world2 w2 w.heap.size op n)
 obtain rfl:v=.iface 73 (.agg #[.int .i64 op,.int .i64 n]):=by
   rw[endedE,Rep] at g1
   obtain ⟨u,rfl,hu⟩:=g1
   rw[Rep] at hu
   obtain ⟨vs,rfl,h1,_⟩:=hu
   rw[RepL] at h1
   obtain ⟨v1,r1,e1,q1,h2⟩:=h1
   rw[RepL] at h2
   obtain ⟨v2,r2,rfl,q2,h3⟩:=h2
   rw[RepL] at h3
   subst h3
   rw[Rep] at q1 q2
   subst q1 q2
   have:vs=#[.int .i64 op,.int .i64 n]:=by apply Array.ext';exact e1
   rw[this]
 simp only
 refine leaves_cons (f:=68) (args:=#[.pointer (some ⟨w.heap.size,0,none⟩)]) (by simp) (by simp[go_sem]) ?_
 refine (catch_pan w.heap.size op n w2 hb).mono ?_
 rintro e u' w3 ⟨rfl,rfl,rfl⟩
 refine ⟨.agg #[.int .i64 op,.int .i64 n],?_,_,G',rfl,?_,k1,k2,fun j bx hj=>k3 _ _ (g4 j bx hj)⟩
 · have q1:((w2.setCell ⟨w.heap.size,0,none⟩ (.int .i64 op)).setCell ⟨w.heap.size,1,none⟩ (.int .i64 n)).heap[w.heap.size]? = some (.cells #[.int .i64 op,.int .i64 n] 73 (0,0)):=by
     rw[heap_setCell_same _ _ _ #[.int .i64 op,.int .i64 0] 73 _ (by rw[heap_setCell_same _ _ _ _ _ _ hb];rfl)];rfl
   have q0:(World2 w2 w.heap.size op n).heap[w.heap.size]? = some (.cells #[.int .i64 op,.int .i64 n] 73 (0,0)):=by
     rw[World2,(grow_alloc _ _).old _ (Array.getElem?_eq_some_iff.1 q1).1];exact q1
   have:=run_loadVar_sz (P:=Tryz.prog) (t:=73) (k:=.agg 2) (by simp only[go_sem]) (b:=w.heap.size) (o:=0) (u:=.agg #[.int .i64 op,.int .i64 n]) rfl (fun j v hj=>by rw[cell_row q0];rw[Nat.zero_add];exact hj)
   simp[results,Tryz.results32,this,Array.getD,asAddr]
 · rw[Rep]
   refine ⟨_,rfl,?_,by simp[Value.oneCell']⟩
   rw[RepL]
   refine ⟨_,_,rfl,by rw[Rep],?_⟩
   rw[RepL]
   exact ⟨_,_,rfl,by rw[Rep],by rw[RepL]⟩
theorem closed_spec (t:TermT) (hok:okT t) (hwc:wcT t):Spec Tryz.prog 31 [pp (encT t)] [] (.bool (closedT t)) []:=by
 have hs:=tFreeX_spec t hok hwc
 refine wk (rv:=[.tmp 2]) ann31 24 Tryz.func31 ?_
 rw[closedT]
 simp only[go_sem]
 refine aCall_intro hs ?_
 rw[FreeT]
 cases hv:validT t with
 |false=>simp only[go_sem,Bool.false_eq_true,if_false]
 |true=>
   have e1:∀l:List Int,decide (l.length=0)=(((l.length:Nat):Int)==0):=by
     intro l;rw[Bool.eq_iff_iff,decide_eq_true_iff,beq_iff_eq];omega
   rw[e1,e1]
   simp only[if_true]
   cases h1:(((sortU (consF t 0)).length:Int)==0) with
   |false=>simp only[go_sem,ints,List.length_map,h1]
   |true=>simp only[go_sem,ints,List.length_map,h1]
structure OutT where
 op:Int
 n:Int
 st:Int
 v:ValT
 out:List ByteArray
def ValT.op:ValT→Int | .mk op _ _ _ _=>op
def ValT.n:ValT→Int | .mk _ n _ _ _=>n
def ValT.s:ValT→ByteArray | .mk _ _ s _ _=>s
def ValT.names:ValT→List ByteArray | .mk _ _ _ names _=>names
def ValT.l:ValT→List ValT | .mk _ _ _ _ l=>l
def encOut (o:OutT):PV:=.agg [.int .i64 o.op,.int .i64 o.n,.int .i64 o.st,.int .i64 o.v.op,.int .i64 o.v.n,.str o.v.s,.slice (o.v.names.map .str),.slice (o.v.l.map encV),.slice (strs o.out)]
def zeroV:ValT:=.mk 0 0 ByteArray.empty [] []
def zeroO:OutT:=⟨0,0,0,zeroV,[]⟩
def outE:Ev→OutT
 | .bad op n st out=>⟨op,n,st,zeroV,out⟩
 | .ok v st out=>match obsT v 20000 1 with
   | .inl _=>⟨2,2,st,zeroV,out⟩
   | .inr r=>⟨1,0,st,r.1,out⟩
def runE (t:TermT) (fuel:Int):OutT:=outE (ev fuel.toNat (fuel.toNat+1) t [] 0 [])
def runP (t:TermT) (fuel:Int):OutT×Int:=if closedT t=false then (zeroO,1) else if fuel<0∨fuel>1048576 then (zeroO,2) else (runE t fuel,0)
def rBox:Box:=⟨.one,.one (.ptr (.ref 2) 0)⟩
def vBox:ValT→Box
 |v=>⟨.agg 5,.one (.pv (encV v))⟩
def vBox0:Box:=⟨.agg 5,.agg [.pv (.int .i64 0),.pv (.int .i64 0),.pv (.str ByteArray.empty),.nilS,.nilS]⟩
def encRun (F:Nat):Ev→Res
 | .bad op n st out=>.pan (endedE op n) [rBox,vBox0,runB 0 F st out]
 | .ok v st out=>match obsT v 20000 1 with
   | .inl _=>.pan (endedE 2 2) [rBox,vBox0,runB 0 F st out]
   | .inr r=>.ret (.tuple []) [rBox,vBox r.1,runB 0 F st out]
theorem closed_ok {t:TermT}(h:closedT t=true):evOK t []:=by
 obtain ⟨h1,h2⟩:=closed_iff.1 h
 exact ⟨(valid_wf h1).1,by simpa using cl_sc t 0 0 h2,trivial⟩
theorem run1_spec (F:Nat) (hF:F≤2000000) (t:TermT) (h:evOK t []) (T:Nat):SpecR Tryz.prog 33 [.one (.ptr (.ref 0) 0),pp (.ep (encT t) 0),.one (.ptr (.ref 1) 0)] [rBox,vBox0,runB T F 0 []] (encRun F (ev F (F+1) t [] 0 [])):=by
 have hI:=evI_ev F (F+1) t [] 0 [] h (Nat.zero_le _) (by omega) (Nat.zero_le _)
 have hsp:=fun T=>eval_spec hF (F+1) t [] 0 [] T 0 .nilp h (Nat.zero_le _) (by omega) (Nat.zero_le _) (by rw[encEnv_nil];exact PV.imp_refl _)
 generalize ev F (F+1) t [] 0 []=r at hI hsp ⊢
 refine SpecR.tok_in (refs:=[rBox,vBox0,runB 0 F 0 []]) (t1:=0) T rfl rfl rfl ?_
 cases r with
 |bad op n st out=>
   show SpecR _ _ _ _ (Res.tok 0 (.pan (endedE op n) [rBox,vBox0,runB 0 F st out]))
   refine SpecR.walkT (rv:=[]) 0 ann33 8 Tryz.func33 mixed rfl rfl (by kernel_rfl) rfl rfl rfl fun hfit=>?_
   clear hfit
   simp only[go_sem,rBox,vBox0,runB]
   refine aCall_res (hsp 0) ?_
   simp only[go_sem,encEv,runB,Go.Abs.finT_def,strs]
   exact ⟨_,rfl⟩
 |ok v st out=>
   obtain ⟨hv,_,_,_⟩:=hI
   have ho:=observe_spec v 20000 1 hv (by decide) (by decide) (by decide) (by decide)
   rw[encRun]
   generalize obsT v 20000 1=r2 at ho ⊢
   cases r2 with
   |inl e=>
     show SpecR _ _ _ _ (Res.tok 0 (.pan (endedE 2 2) [rBox,vBox0,runB 0 F st out]))
     refine SpecR.walkT (rv:=[]) 0 ann33 8 Tryz.func33 mixed rfl rfl (by kernel_rfl) rfl rfl rfl fun hfit=>?_
     clear hfit
     simp only[go_sem,rBox,vBox0,runB]
     refine aCall_res (hsp 0) ?_
     simp only[go_sem,encEv,runB]
     refine aCall_res ho ?_
     simp only[go_sem,encO,leftB,Go.Abs.finT_def]
     exact ⟨_,rfl⟩
   |inr w=>
     show SpecR _ _ _ _ (Res.tok 0 (.ret (.tuple []) [rBox,vBox w.1,runB 0 F st out]))
     refine SpecR.walkT (rv:=[]) 0 ann33 8 Tryz.func33 mixed rfl rfl (by kernel_rfl) rfl rfl rfl fun hfit=>?_
     clear hfit
     simp only[go_sem,rBox,vBox0,runB]
     refine aCall_res (hsp 0) ?_
     simp only[go_sem,encEv,runB]
     refine aCall_res ho ?_
     simp only[go_sem,encO,leftB,Go.Abs.finT_def,vBox]
     exact ⟨_,rfl⟩
def annRun:Ann:=⟨[2],[2000006,6900006,4006025],ann10.live,ann10.head⟩
@[go_sem] theorem annRun_imm:annRun.imm=[2]:=rfl
@[go_sem] theorem annRun_frz:annRun.frz=[2000006,6900006,4006025]:=rfl
@[go_sem] theorem annRun_live:annRun.live=ann10.live:=rfl
@[go_sem] theorem annRun_head:annRun.head=ann10.head:=rfl
theorem run_spec (t:TermT) (fuel:Int) (hok:okT t) (hwc:wcT t):Spec Tryz.prog 10 [pp (encT t),ii fuel] [] (.tuple [encOut (runP t fuel).1,.int .i64 (runP t fuel).2]) []:=by
 have hc:=closed_spec t hok hwc
 rw[runP]
 cases hcl:closedT t with
 |false=>
   rw[hcl] at hc
   rw[if_pos rfl]
   refine wk (rv:=[.cell 4 38,.tmp 5]) annRun 50 Tryz.func10 ?_
   simp only[go_sem]
   refine aCall_intro hc ?_
   simp only[go_sem,encOut,zeroO,zeroV,ValT.op,ValT.n,ValT.s,ValT.names,ValT.l,strs]
 |true=>
   rw[hcl] at hc
   rw[if_neg (by decide)]
   by_cases hf:fuel<0∨fuel>1048576
   · rw[if_pos hf]
     refine wk (rv:=[.cell 4 38,.tmp 5]) annRun 50 Tryz.func10 ?_
     simp only[go_sem]
     refine aCall_intro hc ?_
     by_cases h0:fuel<0
     · have d1:decide (fuel<0)=true:=decide_eq_true h0
       simp only[go_sem,d1,encOut,zeroO,zeroV,ValT.op,ValT.n,ValT.s,ValT.names,ValT.l,strs]
     · have d1:decide (fuel<0)=false:=decide_eq_false h0
       have d2:decide (fuel>1048576)=true:=decide_eq_true (hf.resolve_left h0)
       simp only[go_sem,d1,d2,encOut,zeroO,zeroV,ValT.op,ValT.n,ValT.s,ValT.names,ValT.l,strs]
   · rw[if_neg hf]
     obtain ⟨F,rfl⟩:=Int.eq_ofNat_of_zero_le (show 0≤fuel by omega)
     have d1:decide ((F:Int)<0)=false:=decide_eq_false (by omega)
     have d2:decide ((F:Int)>1048576)=false:=decide_eq_false (by omega)
     have hr:=fun T=>run1_spec F (by omega) t (closed_ok hcl) T
     have hI:=evI_ev F (F+1) t [] 0 [] (closed_ok hcl) (Nat.zero_le _) (by omega) (Nat.zero_le _)
     rw[runE,Int.toNat_natCast]
     generalize ev F (F+1) t [] 0 []=r at hr hI ⊢
     refine wk (rv:=[.cell 4 38,.tmp 5]) annRun 50 Tryz.func10 ?_
     simp only[go_sem]
     refine aCall_intro hc ?_
     simp only[go_sem,d1,d2]
     refine aFlipOr_ops ?_
     simp only[go_sem,Nat.reduceLT,Nat.reduceAdd,ne_eq]
     cases r with
     |bad op n st out=>
       have h3:op≠0:=hI.1
       have d3:(op != 0)=true:=by simp[h3]
       refine aCall_intro (try_pan (caps:=[.ptr (.ref 0) 0,.pv (.ep (encT t) 0),.ptr (.ref 1) 0]) (hr 50)) ?_
       simp only[go_sem,rBox,vBox0,runB,d3,encOut,outE,ValT.op,ValT.n,ValT.s,ValT.names,ValT.l,zeroV,strs]
       repeat' (first | (show anc _ _ _ _=true;kernel_rfl) | (refine And.intro ?_ ?_))
       all_goals try simp only[go_sem,rBox,vBox0,runB,d3,encOut,outE,ValT.op,ValT.n,ValT.s,ValT.names,ValT.l,zeroV,strs]
       all_goals repeat' (first | (show anc _ _ _ _=true;kernel_rfl) | (refine And.intro ?_ ?_))
       all_goals try simp only[go_sem,rBox,vBox0,runB,d3,encOut,outE,ValT.op,ValT.n,ValT.s,ValT.names,ValT.l,zeroV,strs]
     |ok v st out=>
       rw[encRun] at hr
       rw[outE]
       generalize obsT v 20000 1=r2 at hr ⊢
       cases r2 with
       |inl e=>
         have d3:((2:Int) != 0)=true:=rfl
         refine aCall_intro (try_pan (caps:=[.ptr (.ref 0) 0,.pv (.ep (encT t) 0),.ptr (.ref 1) 0]) (hr 50)) ?_
         simp only[go_sem,rBox,vBox0,runB,d3,encOut,outE,ValT.op,ValT.n,ValT.s,ValT.names,ValT.l,zeroV,strs]
         repeat' (first | (show anc _ _ _ _=true;kernel_rfl) | (refine And.intro ?_ ?_))
         all_goals try simp only[go_sem,rBox,vBox0,runB,d3,encOut,outE,ValT.op,ValT.n,ValT.s,ValT.names,ValT.l,zeroV,strs]
         all_goals repeat' (first | (show anc _ _ _ _=true;kernel_rfl) | (refine And.intro ?_ ?_))
         all_goals try simp only[go_sem,rBox,vBox0,runB,d3,encOut,outE,ValT.op,ValT.n,ValT.s,ValT.names,ValT.l,zeroV,strs]
       |inr w=>
         obtain ⟨w,lf⟩:=w
         cases w with
         |mk wop wn ws wnames wl=>
           have d3:((0:Int) != 0)=false:=rfl
           refine aCall_intro (try_ret (caps:=[.ptr (.ref 0) 0,.pv (.ep (encT t) 0),.ptr (.ref 1) 0]) (hr 50)) ?_
           simp only[go_sem,rBox,vBox0,runB,d3,encOut,outE,ValT.op,ValT.n,ValT.s,ValT.names,ValT.l,zeroV,strs,vBox,encV_mk]
           repeat' (first | (show anc _ _ _ _=true;kernel_rfl) | (refine And.intro ?_ ?_))
           all_goals try simp only[go_sem,rBox,vBox0,runB,d3,encOut,outE,ValT.op,ValT.n,ValT.s,ValT.names,ValT.l,zeroV,strs,vBox,encV_mk]
           all_goals repeat' (first | (show anc _ _ _ _=true;kernel_rfl) | (refine And.intro ?_ ?_))
           all_goals try simp only[go_sem,rBox,vBox0,runB,d3,encOut,outE,ValT.op,ValT.n,ValT.s,ValT.names,ValT.l,zeroV,strs,vBox,encV_mk]
end Go.Abs.Kon
