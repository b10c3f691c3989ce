/- The card of StepRuns. -/
import Derived.Test.YtafhcphggdipaaaGreatDoorKonG
import Derived.Test.YtafhcphggdipaaaGreatDoorTermC
import Derived.Test.YtafhcphggdipaaaGreatDoorRunsLaw
import Derived.LaidMore
set_option linter.unusedSimpArgs false
set_option linter.unusedVariables false
namespace Go.Proofs.YtafhcphggdipaaaGreatDoor.sruns
open Go Go.Proofs Go.Abs Go.Abs.Kon Go.ChangeShapes Go.WideShapes Go.ChangeAt Go.RowKit
set_option maxRecDepth 100000
set_option maxHeartbeats 4000000
theorem own:ownKnob Tryz.prog.godebug=none:=by kernel_rfl
theorem laidOut:laidOutB Tryz.prog=true:=by kernel_rfl
theorem contract (H:Type) (enc:TypeId×Value→H) (W:World) (base:Nat) (args:Array Value) (ds gs:List (DataW H)) (before:List MemPlace)
  (hval:∀(j:Nat) t v,Tryz.f7.params[j]? = some t→args[j]? = some v→Value.okWide Tryz.prog W .any base t v)
  (hW:DataW.Whole enc Tryz.prog Tryz.f7.params.toList Rows.stepRunsSpec.vars false W args.toList ds gs before) (hL:laidMetH Tryz.prog Rows.stepRunsRow.laid W) :
  Calls Tryz.prog 7 args W fun e W'=>∃v,e=.returned v∧Rows.stepRunsSpec.post enc Tryz.prog Tryz.f7 false true false false W args v W':=by
 have hW':=hW
 obtain ⟨p,q,hA0,hV,rfl,hfz,hnd⟩:=hW
 have hA:DataW.TrodAll enc Tryz.prog W 0 (fun _=>true) true Tryz.f7.params.toList args.toList ds p:=hA0
 rw[Tryz.params7] at hA hval
 obtain ⟨v0,vs0,d0,ds0,p0,q0,hargs,rfl,rfl,h0,r0⟩:=trodAll_cons hA
 obtain ⟨v1,vs1,d1,ds1,p1,q1,rfl,rfl,rfl,h1,r1⟩:=trodAll_cons r0
 obtain ⟨rfl,rfl,rfl⟩:=trodAll_nil r1
 obtain rfl:args=#[v0,v1]:=by cases args;simp_all
 obtain ⟨rfl,rfl⟩:=trodVars_none hV
 clear hA0 hA r0 r1
 simp only[List.append_nil] at hW'
 obtain ⟨a0,ha0,_⟩:=arg_term (hval 0 31 v0 rfl rfl) h0
 obtain ⟨a1,ha1⟩:=arg_int (hval 1 3 v1 rfl rfl) h1
 have hg:=glob_of (by kernel_rfl) (show laidMet Tryz.prog Rows.stepRunsRow.laid W from hL)
 have hrep:RepSVs (G0 W) [] [pp (encT a0),ii a1] #[v0,v1].toList:=by
  simp only[RepSVs]
  exact ⟨v0,_,rfl,ha0,⟨v1,_,rfl,ha1,rfl⟩⟩
 refine (run_law (StepRuns_all a0 a1) hg hrep).mono ?_
 rintro e W' ⟨rfl,hB⟩
 have hlt:=hW'.lt
 exact ⟨_,rfl,post_below (pa:=(p0++(p1++[]))) (pv:=[]) hW' (fun _ _ _=>trodAll_cons_mk (shut_bool Tryz.underlying4 _) trodAll_mk0)
  (fun sp hsp=>(trodAll_cons_mk
   (WideElems.Trod_stays laidOut (by kernel_rfl) (of_decide_eq_true (by kernel_rfl)) h0 (fun x hx=>hB.same (hlt x (List.mem_append_left _ hx))) fun x hx=>hsp x (List.mem_append_left _ hx))
   (trodAll_cons_mk
   (WideElems.Trod_stays laidOut (by kernel_rfl) (of_decide_eq_true (by kernel_rfl)) h1 (fun x hx=>hB.same (hlt x (List.mem_append_right _ hx))) fun x hx=>hsp x (List.mem_append_right _ hx))
   trodAll_mk0)))
  (fun _ _=>rfl) (by simp) hB (ok_one (by kernel_rfl) rfl (okWide_bool_mk Tryz.underlying4 _))⟩
def zeroV:Value:=.agg #[.int .i64 0,.int .i64 0,.string ⟨#[]⟩,.int .i64 0,.int .i64 0,.string ⟨#[]⟩,.slice none 0 0,.slice none 0 0,.slice none 0 0,.int .i64 0,.int .i64 0,.string ⟨#[]⟩,.slice none 0 0,.slice none 0 0,.slice none 0 0,.slice none 0 0,.slice none 0 0,.slice none 0 0]
def zeroDC (H:Type):DataW H:=.agg [.lit (.int .i64 0),.lit (.int .i64 0),.lit (.string []),.agg [.nil],.nil,.nil]
def zeroD (H:Type):DataW H:=.agg [.lit (.int .i64 0),.lit (.int .i64 0),.lit (.string []),zeroDC H,zeroDC H,.agg [.nil],.nil,.nil]
noncomputable def laidWorld (os:Os):World:=World.doorLaid Tryz.prog 400 os
theorem laid_met (os:Os):laidMet Tryz.prog Rows.stepRunsRow.laid ((laidWorld os).forCall (fun _ _=>0) ⟨#[],#[zeroV,.int .i64 0],[]⟩).memory:=
 laidMet_of_run' 8 (by kernel_rfl) (by kernel_rfl)
theorem reads (os:Os) {H:Type}(enc:TypeId×Value→H):DataW.whole enc Tryz.prog ((laidWorld os).forCall (fun _ _=>0) ⟨#[],#[zeroV,.int .i64 0],[]⟩).memory Tryz.f7.params.toList Rows.stepRunsSpec.vars false (#[zeroV,.int .i64 0]:Array Value).toList 8=some ([zeroD H,.lit (.int .i64 0)],[],[]):=by kernel_rfl
theorem lifted (os:Os) (started:os.Started) (H:Type) (enc:TypeId×Value→H) (F:Stop.Interp) :
  ReturnsInHanded {} Tryz.checked os 7 .any ((OpenSpec.ofChange Rows.stepRunsSpec).preRow enc Tryz.prog Tryz.f7 Rows.stepRunsRow.domain false Rows.stepRunsRow.laid) (((OpenSpec.ofChange Rows.stepRunsSpec).at F).post enc Tryz.prog Tryz.f7 false true false false):=by
 have hx:=reads os enc
 refine returnsInHanded_of_row (C:=Tryz.checked) (s:=OpenSpec.ofChange Rows.stepRunsSpec) own started (by kernel_rfl) Tryz.func7
  (witness_row_at (enc:=enc) (C:=Tryz.checked) false (laidWorld os) #[zeroV,.int .i64 0] rfl (by kernel_rfl) (by kernel_rfl) (by kernel_rfl)
   (OpenSpec.preRow_of_cond 8 hx (by kernel_rfl) (fun k hk=>by cases hk) (by kernel_rfl) (laid_met os))) ?_
 intro W base args ds gs before hval hW _ _ _ hL _ _
 exact contract H enc W base args ds gs before hval hW hL
theorem and_t {a b:Bool}(ha:a=true) (hb:b=true):(a&&b)=true:=by rw[ha,hb];rfl
theorem jA:(Rows.stepRunsRow.inPlace==Tryz.prog.inPlace 7)=true:=by kernel_rfl
theorem jB:(Rows.stepRunsRow.unfollowed==Tryz.prog.unfollowed 7)=true:=by kernel_rfl
theorem jC:(Rows.stepRunsRow.recurses==Tryz.prog.recurses 7)=true:=by kernel_rfl
theorem jD:(Rows.stepRunsRow.named==Tryz.prog.varsNamed 7)=true:=by kernel_rfl
theorem jE:laidOutB Tryz.prog=true:=by kernel_rfl
theorem jF:mapsRowed Tryz.prog=true:=by kernel_rfl
theorem jG:(Rows.stepRunsRow.plainKeys==Tryz.prog.plainKeys)=true:=by kernel_rfl
theorem jH:Tryz.prog.stopsHeard=true:=by kernel_rfl
theorem jI:Tryz.prog.mayEnter=true:=by kernel_rfl
theorem jJ:(Rows.stepRunsRow.lifted==Tryz.prog.liftsFinal)=true:=by kernel_rfl
theorem jK:(Rows.stepRunsRow.pinned==Rows.stepRunsRow.pinnedBy)=true:=by kernel_rfl
theorem joined:joinedFacts Tryz.prog 7 Tryz.f7 (OpenSpec.ofChange Rows.stepRunsSpec).bare Rows.stepRunsRow=true:=by
 unfold joinedFacts
 repeat' (with_reducible apply and_t)
 all_goals first|with_reducible exact jA|with_reducible exact jB|with_reducible exact jC|with_reducible exact jD|with_reducible exact jE|with_reducible exact jF|with_reducible exact jG|with_reducible exact jH|with_reducible exact jI|with_reducible exact jJ|with_reducible exact jK | (as_aux_lemma=>kernel_rfl)
theorem said:Rows.StepRunsSaid:=
 OpenClaim.holds_of_cond 7 Tryz.f7 rfl rfl rfl rfl rfl rfl rfl ⟨rfl,rfl,rfl,rfl,rfl⟩ rfl rfl rfl rfl rfl (by kernel_rfl) Tryz.func7 joined
  (of_decide_eq_true (by kernel_rfl)) (by unfold Func.isWrapper;first | (rw[if_pos (by decide +kernel)];kernel_rfl) | (rw[if_neg (by decide +kernel)];exact ⟨rfl,rfl⟩))
  (fun os started H enc _ F=>by rw[OpenClaim.pre_eq_preRow];exact lifted os started H enc F)
theorem plain (f:FuncId) (fn:Func) (hf:Tryz.pinned.checked.prog.funcNamed Rows.stepRunsRow.func=some f) (hfn:Tryz.pinned.checked.prog.funcs[f]? = some fn) :
  true=Tryz.pinned.checked.prog.looks []∧∀(j:Nat) t,fn.params[j]? = some t→Tryz.pinned.checked.prog.wantsStandIn t=false:=by
 obtain rfl:f=7:=Option.some.inj ((show Tryz.prog.funcNamed Rows.stepRunsRow.func=some 7 by kernel_rfl).symm.trans hf) |>.symm
 obtain rfl:fn=Tryz.f7:=(Option.some.inj (Tryz.func7.symm.trans hfn)).symm
 refine ⟨by kernel_rfl,fun j t ht=>?_⟩
 rw[Tryz.params7] at ht
 have hm:t=3∨t=31:=by
  have h1:=Array.mem_of_getElem? ht
  simp at h1
  first|exact h1 | (rcases h1 with h1|h1<;>simp[h1]) | (rcases h1 with h1|h1|h1<;>simp[h1]) | (rcases h1 with h1|h1|h1|h1|h1<;>simp[h1])
 rcases hm with rfl|rfl
 ·exact (show Tryz.prog.wantsStandIn 3=false by kernel_rfl)
 ·exact (show Tryz.prog.wantsStandIn 31=false by kernel_rfl)
theorem card:Rows.StepRunsCardSaid:=
 Claim7.holds_tied_plain_at .later [] _ _ _ _ said (fun _ h=>by cases h) (by kernel_rfl) (fun _ h=>by cases h) stepRuns_row_tie rfl ⟨rfl,rfl⟩ (by kernel_rfl) rfl plain (by kernel_rfl)
#print axioms card
end Go.Proofs.YtafhcphggdipaaaGreatDoor.sruns