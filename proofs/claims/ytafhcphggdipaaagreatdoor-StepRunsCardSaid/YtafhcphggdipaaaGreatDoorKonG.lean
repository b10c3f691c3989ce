/- Contracts of functions: what comes in is a tree; from a walk to a row. -/
import Derived.Test.YtafhcphggdipaaaGreatDoorKonF
import Derived.Test.YtafhcphggdipaaaGreatDoorShelfA
import Derived.WalkKit
import Derived.ProofKit
import Derived.OpenShut
import Derived.Carry
import Derived.Deep.Slices
import Derived.Test.YtafhcphggdipaaaGreatDoorCards
import Derived.Test.YtafhcphggdipaaaGreatDoorTie
import Derived.Deep.DeepHandedRow
import Derived.Lib.LaidTab
import Derived.LaidLaws
import Derived.Stop.LaidErr
set_option linter.unusedSimpArgs false
set_option linter.unusedVariables false
namespace Go.Abs.Kon
open Go Go.Proofs Go.Abs
set_option maxRecDepth 100000
set_option maxHeartbeats 4000000
/-! Sorting one element -/
end Go.Abs.Kon
namespace Go.Abs.Kon
open Go Go.Proofs Go.Abs Go.ChangeShapes Go.WideShapes Go.ChangeAt Go.RowKit
set_option maxRecDepth 100000
set_option maxHeartbeats 4000000
instance:Inhabited KindT:=⟨.mk []⟩
instance:Inhabited ConT:=⟨zeroC⟩
def memI (W:World):Imm:=fun b o=>W.cell? ⟨b,o,none⟩
theorem repE_of {I:Imm}{k:Sz}:∀(es:List PV) (b o:Nat),(∀i e,es[i]? = some e→∃u,Rep I e u∧Sz.okV k u=true∧At I b (o+i*k.size) u)→RepE I k es b o
 | [],b,o,h=>by simp[RepE]
 |e::es,b,o,h=>by
  rw[RepE]
  refine ⟨by simpa using h 0 e rfl,repE_of es b _ fun i e' hi=>?_⟩
  have:=h (i+1) e' (by simpa using hi)
  rw[Nat.add_mul,Nat.one_mul,Nat.add_comm (i*k.size),←Nat.add_assoc] at this
  exact this
section
variable {H:Type}{enc:TypeId×Value→H}{W:World}{base base':Nat}{sp:Nat→Bool}{hd:Bool}
theorem add_none (b o n:Nat):Addr.add ⟨b,o,none⟩ n=⟨b,o+n,none⟩:=by
 unfold Addr.add
 split
 ·rename_i h;subst h;rfl
 ·rfl
theorem open_i64 {n:Nat}{cs:List Value}{x:DataW H×List MemPlace}(h:DataW.trod enc Tryz.prog W base sp hd n 3 cs=some x):∃m:Int,cs=[.int .i64 m]:=by
 cases n with
 |zero=>simp[DataW.trod] at h
 |succ n=>
  unfold DataW.trod at h
  rw[Tryz.underlying3] at h
  split at h<;>simp_all
theorem cells24:Tryz.prog.cellsOf 24=1:=by kernel_rfl
theorem cells28:Tryz.prog.cellsOf 28=6:=by kernel_rfl
theorem cells9:Tryz.prog.cellsOf 9=1:=by kernel_rfl
theorem cells3:Tryz.prog.cellsOf 3=1:=by kernel_rfl
theorem cells25:Tryz.prog.cellsOf 25=1:=by kernel_rfl
theorem cells26:Tryz.prog.cellsOf 26=1:=by kernel_rfl
theorem cells22:Tryz.prog.cellsOf 22=1:=by kernel_rfl
end
end Go.Abs.Kon
namespace Go.Abs.Kon
open Go Go.Proofs Go.Abs Go.ChangeShapes Go.WideShapes Go.ChangeAt Go.RowKit
set_option maxRecDepth 100000
section
variable {H:Type}{enc:TypeId×Value→H}{W:World}{base base':Nat}{sp:Nat→Bool}{hd:Bool}
theorem arg_u8 {v:Value}{d:DataW H}{ps:List MemPlace}(hv:Value.okWide Tryz.prog W .any base' 5 v) (_:DataW.Trod enc Tryz.prog W base sp hd 5 v d ps):∃a:Int,Rep (memI W) (.int .u8 a) v∧0≤a∧a≤255:=by
 rw[Value.okWide,Tryz.underlying5] at hv
 simp only[Cell.okWide,Tryz.underlying5] at hv
 cases v<;>simp[Cell.ok,Tryz.underlying5] at hv
 obtain ⟨rfl,h1,h2⟩:=hv
 exact ⟨_,by rw[Rep],h1,h2⟩
end
end Go.Abs.Kon
namespace Go.Abs.Kon
open Go Go.Proofs Go.Abs Go.ChangeShapes Go.WideShapes Go.ChangeAt Go.RowKit
open Go.Proofs.YtafhcphggdipaaaGreatDoor
set_option maxRecDepth 100000
set_option maxHeartbeats 4000000
theorem gER:Tryz.prog.globalNamed "strconv.ErrRange"=some 2:=by kernel_rfl
theorem gERType:(Tryz.prog.globals[2]?).map (·.type)=some 178:=by kernel_rfl
theorem gTab:Tryz.prog.globalNamed "internal/strconv.uint64pow10"=some 3:=by kernel_rfl
theorem gTabType:(Tryz.prog.globals[3]?).map (·.type)=some 229:=by kernel_rfl
theorem glob_tab {W:World}{d3:DataW Unit}{rest:List (String×DataW Unit)}(h3:d3=Lib.tabData .u64 Lib.pow10Tab)
  (h:laidMet Tryz.prog (("internal/strconv.uint64pow10",d3)::rest) W):Held 3 W.heap[3]? := by
 subst h3
 have hv:=Lib.tabIs_of_head gTab gTabType Tryz.underlying229 Tryz.underlying176 (by kernel_rfl) (by kernel_rfl) h
 unfold Lib.TabIs at hv
 simp only[World.var?,gTab,Option.bind_some] at hv
 split at hv
 ·rename_i cs T fr hh
  simp only[Option.some.injEq] at hv
  exact ⟨cs,T,fr,hh,by rw[gcells,if_neg (by decide)];exact hv⟩
 ·cases hv
theorem glob_err {W:World}{nm:String}{d:DataW Unit}{rest:List (String×DataW Unit)}
  (h:laidMet Tryz.prog (("strconv.ErrRange",.iface nm d)::rest) W):Held 2 W.heap[2]? := by
 obtain ⟨ps,⟨g4,t4,cs4,f4,p4,q4,hg,ht,hv,hd,_,_⟩,_⟩:=h
 obtain rfl:=Option.some.inj (gER.symm.trans hg)
 obtain rfl:=Option.some.inj (gERType.symm.trans ht)
 have hcs:∃u v,cs4.toList=[.iface u v]:=by
  cases f4 with
  |zero=>simp[DataW.trod] at hd
  |succ n=>
   unfold DataW.trod at hd
   generalize cs4.toList=l at hd
   clear hv
   rw[Tryz.underlying178] at hd
   split at hd<;>simp_all
 obtain ⟨u,v,hcs⟩:=hcs
 have e4:cs4=#[.iface u v]:=by
  cases cs4;simp at hcs;subst hcs;rfl
 subst e4
 simp only[World.var?,hg,Option.bind_some] at hv
 split at hv
 ·rename_i cs T fr hh
  simp only[Option.some.injEq] at hv
  exact ⟨_,T,fr,hh,by rw[gcells,if_pos rfl];exact ⟨u,v,hv⟩⟩
 ·cases hv
def GlobW (W:World):Prop:=∀g∈gvars,Held g W.heap[g]?
theorem glob_of {W:World}{r1 r2:String×DataW Unit}{d3:DataW Unit}{nm:String}{d:DataW Unit}{rest:List (String×DataW Unit)}(h3:d3=Lib.tabData .u64 Lib.pow10Tab)
  (h:laidMet Tryz.prog (r1::r2::("internal/strconv.uint64pow10",d3)::("strconv.ErrRange",.iface nm d)::rest) W):GlobW W:=by
 have h:=h.tail.tail
 intro g hg
 simp only[gvars,List.mem_cons,List.not_mem_nil,or_false] at hg
 rcases hg with rfl|rfl
 ·exact glob_err (h.tail)
 ·exact glob_tab h3 h
theorem post_below {H:Type}{enc:TypeId×Value→H}{P:Program}{f:Func}{s:ChangeSpec}{apart fresh handsOn again:Bool}{W W':World}{args:Array Value}{v:Value}{ds gs:List (DataW H)}{before pa pv:List MemPlace}
  (hW:DataW.Whole enc P f.params.toList s.vars apart W args.toList ds gs before)
  (hres:∀(b:Nat) (sp:Nat→Bool) (hd:Bool),DataW.TrodAll enc P W' b sp hd f.resultTypes.toList (v.resultList f.resultTypes.size) (s.fn H (ds++gs)).results [])
  (hargs:∀sp:Nat→Bool,(∀p∈before,sp p.block=true)→DataW.TrodAll enc P W' 0 sp true f.params.toList args.toList (s.fn H (ds++gs)).args pa)
  (hvars:∀sp:Nat→Bool,(∀p∈before,sp p.block=true)→DataW.TrodVars enc P W' sp s.vars (s.fn H (ds++gs)).vars pv)
  (hps:before=pa++pv) (hB:Below W.heap.size W W')
  (hok:∀(j:Nat) (t:TypeId) (r:Value),f.resultTypes[j]? = some t→(v.resultList f.resultTypes.size)[j]? = some r→Value.okWide P W' .any 0 t r) :
  s.post enc P f apart fresh handsOn again W args v W':=by
 have hlt:=hW.lt
 have hold:∀p∈before,(fun b=>decide (b<W.heap.size)) p.block=true:=fun p hp=>by simpa using hlt p hp
 refine ⟨ds,gs,before,[],pa,pv,hW,hres _ _ _,hargs _ hold,hvars _ hold,World.keptBut_mono (fun p hp=>⟨hp,?_⟩) (hB.frame (·∈before)),fun _=>?_⟩
 ·rw[hps,List.mem_append] at hp
  exact Or.inr hp
 ·obtain ⟨_,_,_,_,_,hz,hn⟩:=hW
  refine ⟨hok,_,_,([]++pa)++pv,⟨[]++pa,pv,trodAll_append (hargs _ (fun _ _=>rfl)) (hres _ _ _),hvars _ (fun _ _=>rfl),rfl,?_,?_⟩,?_⟩
  ·intro b off hp
   have hp':MemPlace.cell b off∈before:=by rw[hps];simpa using hp
   rw[hB.frozen (hlt _ hp')]
   exact hz b off hp'
  ·intro ha
   have:=hn ha
   rw[hps] at this
   simpa using this
  ·intro p hp _
   rw[hps]
   simpa using hp
def G0 (W:World):Gh:=⟨memI W,fun _=>none,fun _=>none,fun _=>0⟩
theorem inv0 {W:World}(h:GlobW W):WInv (G0 W) W:=
 ⟨fun _ _ _ h=>h,fun _ _ _ h=>(nomatch h),fun _ _ h=>(nomatch h),fun _ _ h=>(nomatch h),fun _ _ h=>(nomatch h),fun _ _ _ _ _ h=>(nomatch h),fun _ _ _ _ h=>(nomatch h),fun g hg=>⟨h g hg,fun _ h=>(nomatch h),fun _ _ h=>(nomatch h)⟩⟩
theorem run_law {f:FuncId}{svs:List SV}(hS:Spec Tryz.prog f svs [] (.bool true) []) {W:World}(hg:GlobW W) {args:Array Value}(hr:RepSVs (G0 W) [] svs args.toList) :
  Calls Tryz.prog f args W fun e W'=>e=.returned (.bool true)∧Below W.heap.size W W':=by
 refine (hS.2.2 (G0 W) W args (inv0 hg) (fun t h=>absurd rfl h) (fun n h=>absurd rfl h) (fun j bx h=>by simp at h) hr).mono ?_
 rintro e W' ⟨v,G',he,hv,_,hE,_⟩
 rw[Rep] at hv
 subst hv
 exact ⟨he,hE.os,hE.tape,hE.output,hE.size,fun k hk=>hE.heap k hk (fun n _ h=>by cases h) (fun ⟨t,tk,_,h,_⟩=>by cases h)⟩
end Go.Abs.Kon
namespace Go.Abs.Kon
open Go Go.Proofs Go.Abs
set_option maxRecDepth 100000
set_option maxHeartbeats 4000000
theorem strEq_refl (s:ByteArray):strEq s s=true:=by rw[strEq];exact beq_self_eq_true _
mutual
theorem sameK_refl:∀k,sameK k k=true
 | .mk l=>by rw[sameK];exact sameKs_refl l
theorem sameKs_refl:∀l,sameKs l l=true
 | []=>rfl
 |x::r=>by rw[sameKs,sameK_refl x,sameKs_refl r];rfl
end
theorem eqL_refl {α:Type}(q:α→α→Bool) (h:∀x,q x x=true):∀l,eqL q l l=true
 | []=>rfl
 |x::r=>by rw[eqL,h x,eqL_refl q h r];rfl
mutual
theorem eqC_refl:∀c,eqC c c=true
 | .mk op n s k names l=>by
  rw[eqC,beq_self_eq_true,beq_self_eq_true,strEq_refl,sameK_refl,eqL_refl strEq strEq_refl,eqCs_refl l];rfl
theorem eqCs_refl:∀l,eqCs l l=true
 | []=>rfl
 |x::r=>by rw[eqCs,eqC_refl x,eqCs_refl r];rfl
end
end Go.Abs.Kon