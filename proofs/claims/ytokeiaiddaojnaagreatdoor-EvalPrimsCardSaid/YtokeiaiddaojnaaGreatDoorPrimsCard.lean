/- The card of EvalPrims. -/
import Derived.Test.YtokeiaiddaojnaaGreatDoorKonG
import Derived.Test.YtokeiaiddaojnaaGreatDoorTermC
import Derived.Test.YtokeiaiddaojnaaGreatDoorPrimsLaw
import Derived.LaidMore
set_option linter.unusedSimpArgs false
set_option linter.unusedVariables false
namespace Go.Abs.Kon
open Go Go.Proofs Go.Abs Go.ChangeShapes Go.WideShapes Go.ChangeAt Go.RowKit
set_option maxRecDepth 100000
set_option maxHeartbeats 4000000
def StrW:Type:={s:ByteArray // s.size≤9223372036854775807}
instance:Inhabited StrW:=⟨⟨ByteArray.empty,Nat.zero_le _⟩⟩
def ValW:Type:={v:ValT // okW v}
instance:Inhabited ValW:=⟨⟨zeroV,by rw[zeroV,okW];exact ⟨fun _ h=>absurd h (by simp),by rw[okWs];trivial⟩⟩⟩
theorem cellsVL:Tryz.prog.cellsOf 34=1:=by kernel_rfl
theorem cellsV:Tryz.prog.cellsOf 36=5:=by kernel_rfl
section
variable {H:Type}{enc:TypeId×Value→H}{W:World}{base base':Nat}{sp:Nat→Bool}{hd:Bool}
theorem open_strW {n:Nat}{cs:List Value}{x:DataW H×List MemPlace}(h:DataW.trod enc Tryz.prog W base sp hd n 9 cs=some x):∃(s:StrW) (u:Value),u.cells.toList=cs∧Rep (memI W) (.str s.1) u∧Sz.one.okV u=true:=by
 obtain ⟨s,rfl,rfl,hs⟩:=DataW.trod_string Tryz.underlying9 h
 exact ⟨⟨s,hs⟩,.string s,by simp[Value.cells],by simp[Rep],rfl⟩
theorem open_valW:∀(n:Nat) (cs:List Value) (x:DataW H×List MemPlace),DataW.trod enc Tryz.prog W base sp hd n 36 cs=some x →
   ∃(c:ValW) (u:Value),u.cells.toList=cs∧Rep (memI W) (encV c.1) u∧Sz.okV (.agg 5) u=true:=by
 intro n
 induction n using Nat.strongRecOn with
 |_ n ih=>
   intro cs x h
   obtain ⟨xs,m,rfl,_,hl,hxs,hf⟩:=DataW.trod_struct Tryz.underlying36 h
   rw[cellsV] at hl
   obtain ⟨v0,v1,v2,v4,v5,rfl⟩:∃v0 v1 v2 v4 v5,cs=[v0,v1,v2,v4,v5]:=by
     match cs,hl with
     | [v0,v1,v2,v4,v5],_=>exact ⟨v0,v1,v2,v4,v5,rfl⟩
   obtain ⟨y0,y1,y2,y4,y5,rfl⟩:∃y0 y1 y2 y4 y5,xs=[y0,y1,y2,y4,y5]:=by
     match xs,hxs with
     | [y0,y1,y2,y4,y5],_=>exact ⟨y0,y1,y2,y4,y5,rfl⟩
   have h0:=hf 0 {name:= "Op",type:=3,offset:=0,embedded:=false,tag:= "",pkgPath:= "",byteOffset:=0} rfl
   have h1:=hf 1 {name:= "N",type:=3,offset:=1,embedded:=false,tag:= "",pkgPath:= "",byteOffset:=8} rfl
   have h2:=hf 2 {name:= "S",type:=9,offset:=2,embedded:=false,tag:= "",pkgPath:= "",byteOffset:=16} rfl
   have h4:=hf 3 {name:= "Names",type:=25,offset:=3,embedded:=false,tag:= "",pkgPath:= "",byteOffset:=32} rfl
   have h5:=hf 4 {name:= "L",type:=34,offset:=4,embedded:=false,tag:= "",pkgPath:= "",byteOffset:=56} rfl
   simp only[cells3,cells9,cells25,cellsVL,List.drop_succ_cons,List.drop_zero,List.take_succ_cons,List.take_zero,List.getElem?_cons_zero,List.getElem?_cons_succ] at h0 h1 h2 h4 h5
   obtain ⟨op,k0⟩:=open_i64 h0
   obtain ⟨nn,k1⟩:=open_i64 h1
   obtain ⟨s,us,k2,r2,_⟩:=open_strW h2
   obtain ⟨names,vn,k4,r4,o4⟩:=open_elems (k:=.one) Tryz.underlying25 cells9 (by decide) (fun s:StrW=>PV.str s.1) (fun m' cs' x' hm h'=>open_strW h') h4
   obtain ⟨l,vl,k5,r5,o5⟩:=open_elems (k:=.agg 5) Tryz.underlying34 cellsV (by decide) (fun v:ValW=>encV v.1) (fun m' cs' x' hm h'=>ih m' (by omega) cs' x' h') h5
   rw[Rep] at r2
   subst r2
   simp[Value.cells] at k0 k1 k2 k4 k5
   subst k0 k1 k2 k4 k5
   have hone:∀z∈#[Value.int .i64 op,.int .i64 nn,.string s.1,v4,v5].toList,z.oneCell'=true:=by
     intro z hz
     simp only[List.mem_cons,List.not_mem_nil,or_false] at hz
     rcases hz with rfl|rfl|rfl|rfl|rfl
     · rfl
     · rfl
     · rfl
     · exact o4
     · exact o5
   have hok:okW (.mk op nn s.1 (names.map (·.1)) (l.map (·.1))):=by
     rw[okW]
     refine ⟨fun x hx=>?_,okWs_mem.2 fun x hx=>?_⟩
     · obtain ⟨y,_,rfl⟩:=List.mem_map.1 hx
       exact y.2
     · obtain ⟨y,_,rfl⟩:=List.mem_map.1 hx
       exact y.2
   refine ⟨⟨.mk op nn s.1 (names.map (·.1)) (l.map (·.1)),hok⟩,.agg #[.int .i64 op,.int .i64 nn,.string s.1,v4,v5],rfl,?_,?_⟩
   · rw[encV_mk,List.map_map,List.map_map,Rep]
     refine ⟨_,rfl,?_,hone⟩
     simp only[RepL]
     exact ⟨_,_,rfl,by rw[Rep],_,_,rfl,by rw[Rep],_,_,rfl,by rw[Rep],_,_,rfl,r4,_,_,rfl,r5,rfl⟩
   · simp only[Sz.okV,Bool.and_eq_true,List.all_eq_true]
     exact ⟨rfl,hone⟩
theorem arg_vals {v:Value}{d:DataW H}{ps:List MemPlace}(hv:Value.okWide Tryz.prog W .any base' 34 v) (h:DataW.Trod enc Tryz.prog W base sp hd 34 v d ps):∃l:List ValT,Rep (memI W) (.slice (l.map encV)) v∧∀x∈l,okW x:=by
 obtain ⟨n,hn⟩:=h
 obtain ⟨l,u,h1,h2,h3⟩:=open_elems (k:=.agg 5) Tryz.underlying34 cellsV (by decide) (fun v:ValW=>encV v.1) (fun m' cs' x' hm h'=>open_valW m' cs' x' h') hn
 have hu:u=v:=by
   rw[Value.okWide,Tryz.underlying34] at hv
   simp only[Cell.okWide,Tryz.underlying34] at hv
   cases v<;>simp[Cell.ok,Tryz.underlying34] at hv<;>simp[Value.cells] at h1<;>exact h1.symm
 refine ⟨l.map (·.1),by rw[List.map_map];exact hu ▸ h2,fun x hx=>?_⟩
 obtain ⟨y,_,rfl⟩:=List.mem_map.1 hx
 exact y.2
end
end Go.Abs.Kon
namespace Go.Proofs.YtokeiaiddaojnaaGreatDoor.eprims
open Go Go.Proofs Go.Abs Go.Abs.Kon Go.ChangeShapes Go.WideShapes Go.ChangeAt Go.RowKit
set_option maxRecDepth 100000
set_option maxHeartbeats 4000000
theorem own:ownKnob Tryz.prog.godebug=none:=by kernel_rfl
theorem laidOut:laidOutB Tryz.prog=true:=by kernel_rfl
theorem contract (H:Type) (enc:TypeId×Value→H) (W:World) (base:Nat) (args:Array Value) (ds gs:List (DataW H)) (before:List MemPlace)
   (hval:∀(j:Nat) t v,Tryz.f6.params[j]? = some t→args[j]? = some v→Value.okWide Tryz.prog W .any base t v)
   (hW:DataW.Whole enc Tryz.prog Tryz.f6.params.toList Rows.evalPrimsSpec.vars false W args.toList ds gs before) (hL:laidMetH Tryz.prog Rows.evalPrimsRow.laid W) :
   Calls Tryz.prog 6 args W fun e W'=>∃v,e=.returned v∧Rows.evalPrimsSpec.post enc Tryz.prog Tryz.f6 false true false false W args v W':=by
 have hW':=hW
 obtain ⟨p,q,hA0,hV,rfl,hfz,hnd⟩:=hW
 have hA:DataW.TrodAll enc Tryz.prog W 0 (fun _=>true) true Tryz.f6.params.toList args.toList ds p:=hA0
 rw[Tryz.params6] at hA hval
 obtain ⟨v0,vs0,d0,ds0,p0,q0,hargs,rfl,rfl,h0,r0⟩:=trodAll_cons hA
 obtain ⟨v1,vs1,d1,ds1,p1,q1,rfl,rfl,rfl,h1,r1⟩:=trodAll_cons r0
 obtain ⟨rfl,rfl,rfl⟩:=trodAll_nil r1
 obtain rfl:args=#[v0,v1]:=by cases args;simp_all
 obtain ⟨rfl,rfl⟩:=trodVars_none hV
 clear hA0 hA r0 r1
 simp only[List.append_nil] at hW'
 obtain ⟨a0,ha0⟩:=arg_int (hval 0 3 v0 rfl rfl) h0
 obtain ⟨a1,ha1,o1⟩:=arg_vals (hval 1 34 v1 rfl rfl) h1
 have hg:=glob_of (by kernel_rfl) (show laidMet Tryz.prog Rows.evalPrimsRow.laid W from hL)
 have hrep:RepSVs (G0 W) [] [ii a0,pp (.slice (a1.map encV))] #[v0,v1].toList:=by
   simp only[RepSVs]
   exact ⟨v0,_,rfl,ha0,⟨v1,_,rfl,ha1,rfl⟩⟩
 refine (run_law (EvalPrims_spec a0 a1 o1) hg hrep).mono ?_
 rintro e W' ⟨rfl,hB⟩
 have hlt:=hW'.lt
 exact ⟨_,rfl,post_below (pa:=(p0++(p1++[]))) (pv:=[]) hW' (fun _ _ _=>trodAll_cons_mk (shut_bool Tryz.underlying4 _) trodAll_mk0)
   (fun sp hsp=>(trodAll_cons_mk
     (WideElems.Trod_stays laidOut (by kernel_rfl) (of_decide_eq_true (by kernel_rfl)) h0 (fun x hx=>hB.same (hlt x (List.mem_append_left _ hx))) fun x hx=>hsp x (List.mem_append_left _ hx))
     (trodAll_cons_mk
     (WideElems.Trod_stays laidOut (by kernel_rfl) (of_decide_eq_true (by kernel_rfl)) h1 (fun x hx=>hB.same (hlt x (List.mem_append_right _ hx))) fun x hx=>hsp x (List.mem_append_right _ hx))
     trodAll_mk0)))
   (fun _ _=>rfl) (by simp) hB (ok_one (by kernel_rfl) rfl (okWide_bool_mk Tryz.underlying4 _))⟩
def zeroV:Value:=.agg #[.int .i64 0,.int .i64 0,.string ⟨#[]⟩,.int .i64 0,.int .i64 0,.string ⟨#[]⟩,.slice none 0 0,.slice none 0 0,.slice none 0 0,.int .i64 0,.int .i64 0,.string ⟨#[]⟩,.slice none 0 0,.slice none 0 0,.slice none 0 0,.slice none 0 0,.slice none 0 0,.slice none 0 0]
noncomputable def laidWorld (os:Os):World:=World.doorLaid Tryz.prog 400 os
theorem laid_met (os:Os):laidMet Tryz.prog Rows.evalPrimsRow.laid ((laidWorld os).forCall (fun _ _=>0) ⟨#[],#[.int .i64 0,.slice none 0 0],[]⟩).memory:=
 laidMet_of_run' 8 (by kernel_rfl) (by kernel_rfl)
theorem reads (os:Os) {H:Type}(enc:TypeId×Value→H):DataW.whole enc Tryz.prog ((laidWorld os).forCall (fun _ _=>0) ⟨#[],#[.int .i64 0,.slice none 0 0],[]⟩).memory Tryz.f6.params.toList Rows.evalPrimsSpec.vars false (#[.int .i64 0,.slice none 0 0]:Array Value).toList 8=some ([.lit (.int .i64 0),.nil],[],[]):=by kernel_rfl
theorem lifted (os:Os) (started:os.Started) (H:Type) (enc:TypeId×Value→H) (F:Stop.Interp) :
   ReturnsInHanded {} Tryz.checked os 6 .any ((OpenSpec.ofChange Rows.evalPrimsSpec).preRow enc Tryz.prog Tryz.f6 Rows.evalPrimsRow.domain false Rows.evalPrimsRow.laid) (((OpenSpec.ofChange Rows.evalPrimsSpec).at F).post enc Tryz.prog Tryz.f6 false true false false):=by
 have hx:=reads os enc
 refine returnsInHanded_of_row (C:=Tryz.checked) (s:=OpenSpec.ofChange Rows.evalPrimsSpec) own started (by kernel_rfl) Tryz.func6
   (witness_row_at (enc:=enc) (C:=Tryz.checked) false (laidWorld os) #[.int .i64 0,.slice none 0 0] rfl (by kernel_rfl) (by kernel_rfl) (by kernel_rfl)
     (OpenSpec.preRow_of_cond 8 hx (by kernel_rfl) (fun k hk=>by cases hk) (by kernel_rfl) (laid_met os))) ?_
 intro W base args ds gs before hval hW _ _ _ hL _ _
 exact contract H enc W base args ds gs before hval hW hL
theorem and_t {a b:Bool}(ha:a=true) (hb:b=true):(a&&b)=true:=by rw[ha,hb];rfl
theorem jA:(Rows.evalPrimsRow.inPlace==Tryz.prog.inPlace 6)=true:=by kernel_rfl
theorem jB:(Rows.evalPrimsRow.unfollowed==Tryz.prog.unfollowed 6)=true:=by kernel_rfl
theorem jC:(Rows.evalPrimsRow.recurses==Tryz.prog.recurses 6)=true:=by kernel_rfl
theorem jD:(Rows.evalPrimsRow.named==Tryz.prog.varsNamed 6)=true:=by kernel_rfl
theorem jE:laidOutB Tryz.prog=true:=by kernel_rfl
theorem jF:mapsRowed Tryz.prog=true:=by kernel_rfl
theorem jG:(Rows.evalPrimsRow.plainKeys==Tryz.prog.plainKeys)=true:=by kernel_rfl
theorem jH:Tryz.prog.stopsHeard=true:=by kernel_rfl
theorem jI:Tryz.prog.mayEnter=true:=by kernel_rfl
theorem jJ:(Rows.evalPrimsRow.lifted==Tryz.prog.liftsFinal)=true:=by kernel_rfl
theorem jK:(Rows.evalPrimsRow.pinned==Rows.evalPrimsRow.pinnedBy)=true:=by kernel_rfl
theorem joined:joinedFacts Tryz.prog 6 Tryz.f6 (OpenSpec.ofChange Rows.evalPrimsSpec).bare Rows.evalPrimsRow=true:=by
 unfold joinedFacts
 repeat' (with_reducible apply and_t)
 all_goals first|with_reducible exact jA|with_reducible exact jB|with_reducible exact jC|with_reducible exact jD|with_reducible exact jE|with_reducible exact jF|with_reducible exact jG|with_reducible exact jH|with_reducible exact jI|with_reducible exact jJ|with_reducible exact jK | (as_aux_lemma=>kernel_rfl)
theorem said:Rows.EvalPrimsSaid:=
 OpenClaim.holds_of_cond 6 Tryz.f6 rfl rfl rfl rfl rfl rfl rfl ⟨rfl,rfl,rfl,rfl,rfl⟩ rfl rfl rfl rfl rfl (by kernel_rfl) Tryz.func6 joined
   (of_decide_eq_true (by kernel_rfl)) (by unfold Func.isWrapper;first | (rw[if_pos (by decide +kernel)];kernel_rfl) | (rw[if_neg (by decide +kernel)];exact ⟨rfl,rfl⟩))
   (fun os started H enc _ F=>by rw[OpenClaim.pre_eq_preRow];exact lifted os started H enc F)
theorem plain (f:FuncId) (fn:Func) (hf:Tryz.pinned.checked.prog.funcNamed Rows.evalPrimsRow.func=some f) (hfn:Tryz.pinned.checked.prog.funcs[f]? = some fn) :
   true=Tryz.pinned.checked.prog.looks []∧∀(j:Nat) t,fn.params[j]? = some t→Tryz.pinned.checked.prog.wantsStandIn t=false:=by
 obtain rfl:f=6:=Option.some.inj ((show Tryz.prog.funcNamed Rows.evalPrimsRow.func=some 6 by kernel_rfl).symm.trans hf) |>.symm
 obtain rfl:fn=Tryz.f6:=(Option.some.inj (Tryz.func6.symm.trans hfn)).symm
 refine ⟨by kernel_rfl,fun j t ht=>?_⟩
 rw[Tryz.params6] at ht
 have hm:t=3∨t=34:=by
   have h1:=Array.mem_of_getElem? ht
   simp at h1
   first|exact h1 | (rcases h1 with h1|h1<;>simp[h1]) | (rcases h1 with h1|h1|h1<;>simp[h1]) | (rcases h1 with h1|h1|h1|h1|h1<;>simp[h1])
 rcases hm with rfl|rfl
 · exact (show Tryz.prog.wantsStandIn 3=false by kernel_rfl)
 · exact (show Tryz.prog.wantsStandIn 34=false by kernel_rfl)
theorem card:Rows.EvalPrimsCardSaid:=
 Claim7.holds_tied_plain_at .later [] _ _ _ _ said (fun _ h=>by cases h) (by kernel_rfl) (fun _ h=>by cases h) evalPrims_row_tie rfl ⟨rfl,rfl⟩ (by kernel_rfl) rfl plain (by kernel_rfl)
#print axioms card
end Go.Proofs.YtokeiaiddaojnaaGreatDoor.eprims
