/- Evaluation: the reference's observing, Run, and comparing. -/
import Derived.Test.YtokeiaiddaojnaaGreatDoorEvalH
set_option linter.unusedSimpArgs false
set_option linter.unusedVariables false
namespace Go.Abs.Kon
open Go Go.Proofs Go.Abs
set_option maxRecDepth 100000
set_option maxHeartbeats 1000000
mutual
def fH:Th→Prop
 | .mk op n s names l _ env _=>(op=7→n=0∧s=ByteArray.empty∧names=[]∧l=[])∧fHs l∧fHs env
def fHs:List Th→Prop
 | []=>True
 |v::r=>fH v∧fHs r
end
theorem fHs_mem:∀{l:List Th},fHs l↔∀x∈l,fH x
 | []=>by simp[fHs]
 |x::r=>by simp[fHs,fHs_mem (l:=r)]
theorem fH_mk {op n:Int}{s:ByteArray}{names:List ByteArray}{l:List Th}{part:TermT}{env:List Th}{fix:Bool}:fH (.mk op n s names l part env fix)↔(op=7→n=0∧s=ByteArray.empty∧names=[]∧l=[])∧fHs l∧fHs env:=by rw[fH]
theorem fH_parts {v:Th}(h:fH v):fHs v.l∧fHs v.env:=by cases v;exact (fH_mk.1 h).2
theorem fH_envOf {v:Th}(h:fH v):fHs v.envOf:=by
 unfold Th.envOf
 split
 ·exact ⟨h,(fH_parts h).2⟩
 ·exact (fH_parts h).2
theorem fH_simple {op n:Int}{s:ByteArray}{names:List ByteArray}{l:List Th}{part:TermT}(ho:op≠7) (hl:fHs l):fH (.mk op n s names l part [] false):=fH_mk.2 ⟨fun e=>absurd e ho,hl,trivial⟩
def evF:Ev→Prop
 | .ok v _ _=>fH v
 | .bad _ _ _ _=>True
theorem evF_then {r:Ev}{k:Th→Nat→List ByteArray→Ev}(hr:evF r) (hk:∀v st' out',fH v→evF (k v st' out')):evF (andThen r k):=by
 cases r with
 |ok v s o=>exact hk v s o hr
 |bad op n s o=>trivial
theorem evF_ite {c:Prop} [Decidable c] {x y:Ev}(h1:evF x) (h2:evF y):evF (if c then x else y):=by split<;>assumption
def fP:Int ⊕ Th→Prop
 | .inl _=>True
 | .inr v=>fH v
theorem fP_ite {c:Prop} [Decidable c] {x y:Int ⊕ Th}(h1:fP x) (h2:fP y):fP (if c then x else y):=by split<;>assumption
theorem fH_int (n:Int):fH (intH n):=by rw[intH];exact fH_simple (by decide) trivial
theorem fH_txt (s:ByteArray):fH (txtH s):=by rw[txtH];exact fH_simple (by decide) trivial
theorem fH_zero:fH zeroH:=by rw[zeroH];exact fH_simple (by decide) trivial
theorem fH_rec {names:List ByteArray}{l:List Th}(h:fHs l):fH (recH names l):=by rw[recH];exact fH_simple (by decide) h
theorem fH_one {v:Th}(h:fH v):fHs [v]:=⟨h,trivial⟩
theorem fH_inj {s:ByteArray}{v:Th}(h:fH v):fH (injH s v):=by rw[injH];exact fH_simple (by decide) (fH_one h)
theorem fH_roll {v:Th}(h:fH v):fH (rollH v):=by rw[rollH];exact fH_simple (by decide) (fH_one h)
theorem fH_pack {v:Th}(h:fH v):fH (packH v):=by rw[packH];exact fH_simple (by decide) (fH_one h)
theorem fH_nth {l:List Th}(h:fHs l) (i:Nat):fH (nthH l i):=by
 rw[nthH,List.getD_eq_getElem?_getD]
 cases he:l[i]? with
 |none=>exact fH_zero
 |some x=>exact fHs_mem.1 h x (List.mem_of_getElem? he)
theorem fP_num (n:Int):fP (numP n):=fP_ite trivial (show fH (intH n) from fH_int n)
theorem fP_txt (s:ByteArray):fP (txtP s):=fP_ite trivial (show fH (txtH s) from fH_txt s)
theorem fH_unit:fH unitH:=fH_rec trivial
theorem fH_truth (b:Bool):fH (truthH b):=by rw[truthH];exact fH_roll (fH_inj fH_unit)
theorem fP_prim (k:Int) (a b:Th):fP (primP k a b):=by
 have hm:fP (mulP a.n b.n):=fP_ite trivial (fP_num _)
 exact fP_ite (fP_num _) (fP_ite (fP_num _) (fP_ite hm (fP_ite (fP_ite trivial (fP_num _)) (fP_ite (fP_ite trivial (fP_num _)) (fP_ite (fP_num _) (fP_ite (fH_truth _) (fP_ite (fH_truth _) (fP_ite (fH_truth _)
  (fP_ite (fP_txt _) (fP_ite (fP_num _) (fP_ite (fH_truth _) (fP_ite (fP_txt _) fH_unit))))))))))))
theorem evF_prim {st:Nat}{k:Int}{l:List Th}{out:List ByteArray}:evF (primE k l st out):=by
 unfold primE
 refine evF_ite trivial (evF_ite (evF_ite trivial (show evF (.ok unitH _ _) from fH_unit)) ?_)
 have:=fP_prim k (l.head?.getD zeroH) (lastH l)
 cases hp:primP k (l.head?.getD zeroH) (lastH l) with
 |inl n=>trivial
 |inr v=>rw[hp] at this;exact this
theorem fH_clo {t:TermT}{env:List Th}(h:fHs env):fH (cloH t env):=by rw[cloH];exact fH_mk.2 ⟨fun _=>⟨rfl,rfl,rfl,rfl⟩,trivial,h⟩
theorem fH_fix {t:TermT}{env:List Th}(h:fHs env):fH (fixH t env):=by rw[fixH];exact fH_mk.2 ⟨fun _=>⟨rfl,rfl,rfl,rfl⟩,trivial,h⟩
theorem fHs_app {l:List Th}{v:Th}(h:fHs l) (hv:fH v):fHs (l++[v]):=by
 rw[fHs_mem] at h ⊢
 intro x hx
 rcases List.mem_append.1 hx with hx|hx
 ·exact h x hx
 ·rw[List.mem_singleton] at hx;rw[hx];exact hv
theorem evF_evs {f:TermT→Nat→List ByteArray→Ev}{k:List Th→Nat→List ByteArray→Ev}(hf:∀t st out,evF (f t st out)) (hk:∀vs st out,fHs vs→evF (k vs st out)) :
  ∀(ts:List TermT) (acc:List Th) (st:Nat) (out:List ByteArray),fHs acc→evF (evs f k ts acc st out)
 | [],acc,st,out,ha=>hk acc st out ha
 |t::ts,acc,st,out,ha=>by
  rw[evs]
  exact evF_then (hf t st out) fun v st' out' h2=>evF_evs hf hk ts (acc++[v]) st' out' (fHs_app ha h2)
theorem evF_K {f:TermT→List Th→Nat→List ByteArray→Ev}(hf:∀t env st out,fHs env→evF (f t env st out)) (op:Int) (s:ByteArray) (names:List ByteArray) (l:List TermT) {env:List Th}(hw:fHs env)
  {v:Th}{st:Nat}(hv:fH v) (out:List ByteArray):evF (evK f op s names l env v st out):=by
 have bad:∀{o:Int}{n:Int},evF (.bad o n st out):=fun {_ _}=>trivial
 have ok:∀{w:Th},fH w→evF (.ok w st out):=fun {_} h=>h
 have h1:∀{w:Th}(t:TermT),fH w→evF (f t (w::env) st out):=fun {w} t h=>hf t (w::env) st out ⟨h,hw⟩
 have hl:fHs v.l:=(fH_parts hv).1
 unfold evK
 refine evF_ite ?_ (evF_ite ?_ (evF_ite (ok (fH_pack hv)) (evF_ite (ok (fH_inj hv)) (evF_ite (ok (fH_roll hv)) (evF_ite (evF_ite (h1 _ (fH_nth hl 0)) bad) (evF_ite (evF_ite (ok (fH_nth hl 0)) bad) (evF_ite (evF_ite (ok (fH_nth hl _)) bad)
  (evF_ite (evF_ite (h1 _ (fH_nth hl 0)) bad) (h1 _ hv)))))))))
 ·exact evF_then (hf _ env st out hw) fun a st' out' g2=>evF_ite (hf _ _ st' out' ⟨g2,fH_envOf hv⟩) trivial
 ·exact evF_ite (hf _ _ st out (fH_envOf hv)) bad
theorem ev_Fn (F:Nat):∀(g:Nat) (t:TermT) (env:List Th) (st:Nat) (out:List ByteArray),fHs env→evF (ev F g t env st out)
 | 0,_,_,_,_,_=>trivial
 |g+1,t,env,st,out,hw=>by
  have ok:∀{w:Th}{s:Nat},fH w→evF (.ok w s out):=fun {_ _} h=>h
  have hf:=fun x st' out'=>ev_Fn F g x env st' out' hw
  rw[ev]
  refine evF_ite trivial (evF_ite (ok (fH_nth hw _)) (evF_ite (ok (fH_int _)) (evF_ite (ok (fH_txt _)) (evF_ite (ok (fH_clo hw)) (evF_ite (evF_ite (evF_ite trivial (ok (fH_fix hw))) trivial) (evF_ite trivial (evF_ite ?_ (evF_ite ?_ ?_))))))))
  ·exact evF_evs (f:=fun x st out=>ev F g x env st out) (k:=fun vs st out=>.ok (recH t.names vs) st out) hf (fun vs st' out' hv=>show evF (.ok _ _ _) from fH_rec hv) t.l [] (st+1) out trivial
  ·exact evF_evs (f:=fun x st out=>ev F g x env st out) hf (fun vs st' out' hv=>evF_prim) t.l [] (st+1) out trivial
  ·exact evF_then (hf _ (st+1) out) fun v st' out' h2=>evF_K (fun t env st out=>ev_Fn F g t env st out) _ _ _ _ hw h2 out'
/-! What the reference observes -/
def obsR:Int ⊕ (ValT×Int)→PV
 | .inl _=>.tuple [encV zeroV,.int .i64 (-1)]
 | .inr r=>.tuple [encV r.1,.int .i64 r.2]
def accR:List ValT→SC
 | []=>.nilS
 |v::r=>.own 122 (.agg 5) ((v::r).map encV)
theorem accR_nil:accR []=.nilS:=rfl
theorem accR_cons (v:ValT) (r:List ValT):accR (v::r)=.own 122 (.agg 5) (encV v::r.map encV):=rfl
theorem robserve_spec:∀(v:Th) (left depth:Int),fH v→0≤left→left≤20000→1≤depth→depth≤401→Spec Tryz.prog 39 [pp (encW v),ii left,ii (401 - depth)] [] (obsR (obsT v left depth)) []:=by
 refine Th.ind1 fun op n s names l part env fix ih1 ih2=>?_
 intro left depth hok h1 h2 h3 h4
 have w1:IntKind.i64.wrap (left - 1)=left - 1:=wrapI (by omega) (by omega)
 by_cases hb:left - 1<0∨depth>400
 ·rw[obsT,if_pos hb,obsR]
  refine wk (rv:=[.cell 6 36,.tmp 7]) ann39 66 Tryz.func39 ?_
  by_cases hl:left≤0
  ·have d1:decide (left≤0)=true:=decide_eq_true hl
   simp only[go_sem,d1,zeroV,encV_mk,List.map_nil]
  ·have d1:decide (left≤0)=false:=decide_eq_false hl
   have d2:decide (401 - depth≤0)=true:=decide_eq_true (by omega)
   simp only[go_sem,d1,d2,zeroV,encV_mk,List.map_nil]
 ·have hT:obsT (.mk op n s names l part env fix) left depth=obsK op n s names [] (obsL l (left - 1) (depth+1)):=by
   rw[obsT,if_neg hb];cases obsL l (left - 1) (depth+1)<;>rfl
  rw[hT]
  have d1:decide (left≤0)=false:=decide_eq_false (by omega)
  have d2:decide (401 - depth≤0)=false:=decide_eq_false (by omega)
  obtain ⟨hf7,hfl,_⟩:=fH_mk.1 hok
  by_cases h7:op=7
  ·obtain ⟨rfl,rfl,rfl,rfl⟩:=hf7 h7
   subst h7
   rw[obsL,obsK]
   refine wk (rv:=[.cell 6 36,.tmp 7]) ann39 66 Tryz.func39 ?_
   simp only[go_sem,d1,d2,w1,encW_mk,obsR,encV_mk,List.map_nil]
  ·have d7:(op==7)=false:=by rw[beq_eq_false_iff_ne];exact h7
   generalize hR:obsK op n s names [] (obsL l (left - 1) (depth+1))=R
   refine wf (rv:=[.cell 6 36,.tmp 7]) ann39 66 Tryz.func39 fun hfit=>?_
   have hlen:l.length≤9223372036854775807:=by
    simp only[argsFit,SV.pv?,SC.pv?,encW_mk,PV.fit,fitL,maxLen_eq,List.length_map] at hfit
    exact hfit.1.2.2.2.2.1.1
   clear hfit
   have w2:IntKind.i64.wrap (401 - depth - 1)=401 - (depth+1):=by rw[wrapI (by omega) (by omega)];omega
   simp only[go_sem,d1,d2,d7,w1,encW_mk]
   refine aLoop_list (α:=Th) (β:=List ValT×Int) (fun rest b=>⟨[(6,.one (.ptr (.loc 6) 0)),(9,ii b.1.length),(8,.one (.ptr (.loc 8) 0)),(2,ii (401 - depth)),(1,ii b.2),(3,pp (.ep (encW (.mk op n s names l part env fix)) 0))],
     [(.loc 6,⟨.agg 5,.agg [.pv (.int .i64 0),.pv (.int .i64 0),.pv (.str ByteArray.empty),.nilS,.nilS]⟩),(.loc 8,⟨.agg 5,.agg [.pv (.int .i64 op),.pv (.int .i64 n),.pv (.str s),.pv (.slice (names.map .str)),accR b.1]⟩)],[]⟩)
    (fun rest b=>obsK op n s names b.1 (obsL rest b.2 (depth+1))=R∧(∃pre,l=pre++rest∧b.1.length=pre.length)∧0≤b.2∧b.1.length+b.2≤20000) ?_ ?_ l ([],left - 1) _ ?_ ⟨hR,⟨[],rfl,rfl⟩,by show 0≤left - 1;omega,by show ((0:Nat):Int)+(left - 1)≤20000;omega⟩
   ·rintro ⟨ws,lf⟩ ⟨g1,⟨pre,g2,g3⟩,g5,g6⟩ K
    simp only at g1 g3 g5 g6
    rw[List.append_nil] at g2
    subst g2
    rw[obsL] at g1
    have d0:decide ((ws.length:Int)<(l.length:Int))=false:=by rw[g3];exact lt_false (Int.le_refl _)
    simp only[obsK,List.append_nil] at g1
    subst g1
    cases ws with
    |nil=>
     simp only[List.length_nil] at d0
     simp only[go_sem,encW_mk,List.length_map,List.length_nil,d0,accR_nil,obsR,encV_mk,List.map_nil]
    |cons w0 wr=>
     simp only[List.length_cons] at d0
     simp only[go_sem,encW_mk,List.length_map,List.length_cons,d0,accR_cons,obsR,encV_mk,List.map_cons]
   ·rintro x rest ⟨ws,lf⟩ ⟨g1,⟨pre,g2,g3⟩,g5,g6⟩ K hK
    simp only at g1 g3 g5 g6
    have hx:(l.map encW)[ws.length]? = some (encW x):=by rw[g2,g3];simp
    have hlt:decide ((ws.length:Int)<(l.length:Int))=true:=decide_eq_true (by rw[g2,g3];simp;omega)
    have hvl:ws.length<l.length:=by rw[g2,g3];simp
    have w4:IntKind.i64.wrap ((ws.length:Int)+1)=((ws.length+1:Nat):Int):=by rw[wrapI (by omega) (by omega)];simp
    have hxm:x∈l:=by rw[g2];simp
    rw[obsL] at g1
    have hsp:=ih1 x hxm lf (depth+1) (fHs_mem.1 hfl x hxm) g5 (by omega) (by omega) (by omega)
    generalize hr1:obsT x lf (depth+1)=r1 at hsp g1
    have e1:((ws.length+1)*80≤140737488355328)=True:=by simp;omega
    have e2:(ws.length+1≤maxLen)=True:=by rw[maxLen_eq];simp;omega
    cases ws with
    |nil=>
     simp only[List.length_nil] at hx hlt w4 g6
     simp only[go_sem,encW_mk,List.length_map,List.length_nil,hlt,hx,accR_nil,w2]
     refine aCall_intro hsp ?_
     cases r1 with
     |inl e=>
      subst g1
      simp only[go_sem,obsR,obsK,zeroV,encV_mk,List.map_nil]
     |inr r=>
      obtain ⟨w,lf1⟩:=r
      have hle:=obsT_le x lf (depth+1) w lf1 hr1
      have d3:decide (lf1<0)=false:=decide_eq_false (by omega)
      have g1:=(obsK_cons op n s names w _ (obsL rest lf1 (depth+1))).symm.trans g1
      simp only[go_sem,obsR,d3,le_mx,w4]
      refine hK ([w],lf1) _ ?_ ⟨g1,⟨pre++[x],by rw[g2];simp,by rw[List.length_append,←g3];rfl⟩,hle.1,by show ((1:Nat):Int)+lf1≤20000;omega⟩
      simp only[go_sem,encW_mk,accR_cons,List.length_cons,List.length_nil,List.map_nil]
    |cons w0 wr=>
     simp only[List.length_cons] at hx hlt w4 g6 e1 e2
     simp only[go_sem,encW_mk,List.length_map,List.length_cons,hlt,hx,accR_cons,w2]
     refine aCall_intro hsp ?_
     cases r1 with
     |inl e=>
      subst g1
      simp only[go_sem,obsR,obsK,zeroV,encV_mk,List.map_nil]
     |inr r=>
      obtain ⟨w,lf1⟩:=r
      have hle:=obsT_le x lf (depth+1) w lf1 hr1
      have d3:decide (lf1<0)=false:=decide_eq_false (by omega)
      have g1:=(obsK_cons op n s names w _ (obsL rest lf1 (depth+1))).symm.trans g1
      simp only[go_sem,obsR,d3,e1,e2,List.length_map,w4]
      refine hK (w0::wr++[w],lf1) _ ?_ ⟨g1,⟨pre++[x],by rw[g2];simp,by simp at g3 ⊢;omega⟩,hle.1,by simp only[List.length_append,List.length_cons,List.length_nil];omega⟩
      simp only[go_sem,encW_mk,accR_cons,List.map_append,List.length_append,List.cons_append,List.length_cons,List.length_nil,List.map_cons,List.map_nil]
   ·simp only[go_sem,accR_nil,encW_mk,List.length_nil,Int.natCast_zero]
end Go.Abs.Kon
namespace Go.Abs.Kon
open Go Go.Proofs Go.Abs
set_option maxRecDepth 100000
set_option maxHeartbeats 1000000
def annRR:Ann:=⟨[2],[2000006,6900006,4006029],ann11.live,ann11.head⟩
@[go_sem] theorem annRR_imm:annRR.imm=[2]:=rfl
@[go_sem] theorem annRR_frz:annRR.frz=[2000006,6900006,4006029]:=rfl
@[go_sem] theorem annRR_live:annRR.live=ann11.live:=rfl
@[go_sem] theorem annRR_head:annRR.head=ann11.head:=rfl
theorem rrun_spec (t:TermT) (fuel:Int) (hok:okT t) (hwc:wcT t):Spec Tryz.prog 11 [pp (encT t),ii fuel] [] (.tuple [encOut (runP t fuel).1,.int .i64 (runP t fuel).2]) []:=by
 have hv:=rtValid_spec t hok
 rw[runP]
 cases hcl:closedT t with
 |false=>
  rw[if_pos rfl]
  cases hvl:validT t with
  |false=>
   rw[hvl] at hv
   refine wk (rv:=[.cell 4 38,.tmp 5]) annRR 70 Tryz.func11 ?_
   simp only[go_sem]
   refine aCall_intro hv ?_
   simp only[go_sem,encOut,zeroO,zeroV,ValT.op,ValT.n,ValT.s,ValT.names,ValT.l,strs]
  |true=>
   rw[hvl] at hv
   have hc:=rClosed_spec t hvl hok
   rw[show (decide ((sortU (consF t 0)).length=0)&&decide ((sortU (termsF t 0)).length=0))=closedT t from by rw[closedT,hvl];simp,hcl] at hc
   refine wk (rv:=[.cell 4 38,.tmp 5]) annRR 70 Tryz.func11 ?_
   simp only[go_sem]
   refine aCall_intro hv ?_
   simp only[go_sem]
   refine aCall_intro hc ?_
   simp only[go_sem,encOut,zeroO,zeroV,ValT.op,ValT.n,ValT.s,ValT.names,ValT.l,strs]
 |true=>
  rw[if_neg (by decide)]
  have hvl:=closed_valid hcl
  rw[hvl] at hv
  have hc:=rClosed_spec t hvl hok
  rw[show (decide ((sortU (consF t 0)).length=0)&&decide ((sortU (termsF t 0)).length=0))=closedT t from by rw[closedT,hvl];simp,hcl] at hc
  by_cases hf:fuel<0∨fuel>1048576
  ·rw[if_pos hf]
   refine wk (rv:=[.cell 4 38,.tmp 5]) annRR 70 Tryz.func11 ?_
   simp only[go_sem]
   refine aCall_intro hv ?_
   simp only[go_sem]
   refine aCall_intro hc ?_
   by_cases h0:fuel<0
   ·have d1:decide (fuel<0)=true:=decide_eq_true h0
    simp only[go_sem,d1,encOut,zeroO,zeroV,ValT.op,ValT.n,ValT.s,ValT.names,ValT.l,strs]
   ·have d1:decide (fuel<0)=false:=decide_eq_false h0
    have d2:decide (fuel>1048576)=true:=decide_eq_true (hf.resolve_left h0)
    simp only[go_sem,d1,d2,encOut,zeroO,zeroV,ValT.op,ValT.n,ValT.s,ValT.names,ValT.l,strs]
  ·rw[if_neg hf]
   obtain ⟨F,rfl⟩:=Int.eq_ofNat_of_zero_le (show 0≤fuel by omega)
   have d1:decide ((F:Int)<0)=false:=decide_eq_false (by omega)
   have d2:decide ((F:Int)>1048576)=false:=decide_eq_false (by omega)
   have hr:=fun T=>rval_spec (F:=F) (by omega) (F+1) t [] 0 [] T 0 (closed_ok hcl) (Nat.zero_le _) trivial (Nat.zero_le _) (by omega) (Nat.zero_le _)
   have hI:=evI_ev F (F+1) t [] 0 [] (closed_ok hcl) (Nat.zero_le _) (by omega) (Nat.zero_le _)
   have hF:=ev_Fn F (F+1) t [] 0 [] trivial
   rw[runE,Int.toNat_natCast]
   generalize ev F (F+1) t [] 0 []=r at hr hI hF ⊢
   refine wk (rv:=[.cell 4 38,.tmp 5]) annRR 70 Tryz.func11 ?_
   simp only[go_sem]
   refine aCall_intro hv ?_
   simp only[go_sem]
   refine aCall_intro hc ?_
   simp only[go_sem,d1,d2]
   refine aFlipOr_ops ?_
   simp only[go_sem,Nat.reduceLT,Nat.reduceAdd,ne_eq]
   refine aCall_res (hr _) ?_
   cases r with
   |bad op n st out=>
    have d3:(op != 0)=true:=by simp[hI.1]
    simp only[go_sem,stB,encS_bad,encW_z,encW_simple,d3,encOut,outE,ValT.op,ValT.n,ValT.s,ValT.names,ValT.l,zeroV,strs]
    repeat' (first | (show anc _ _ _ _=true;kernel_rfl) | (refine And.intro ?_ ?_))
    all_goals try simp only[go_sem,stB,encS_bad,encW_z,encW_simple,d3,encOut,outE,ValT.op,ValT.n,ValT.s,ValT.names,ValT.l,zeroV,strs]
   |ok v st out=>
    have ho:Spec Tryz.prog 39 [pp (encW v),ii 20000,ii 400] [] (obsR (obsT v 20000 1)) []:=robserve_spec v 20000 1 hF (by decide) (by decide) (by decide) (by decide)
    rw[outE]
    have hle:=fun w lf=>obsT_le v 20000 1 w lf
    generalize obsT v 20000 1=r2 at ho hle ⊢
    cases r2 with
    |inl e=>
     simp only[go_sem,stB,encS_ok]
     iterate 8 (try (refine ⟨by kernel_rfl,?_⟩))
     try simp only[go_sem,stB,encS_ok]
     refine aCall_intro ho ?_
     simp only[go_sem,obsR,encOut,ValT.op,ValT.n,ValT.s,ValT.names,ValT.l,zeroV,encV_mk,strs,List.map_nil]
     repeat' (first | (show anc _ _ _ _=true;kernel_rfl) | (refine And.intro ?_ ?_))
     all_goals try simp only[go_sem,obsR,encOut,ValT.op,ValT.n,ValT.s,ValT.names,ValT.l,zeroV,encV_mk,strs,List.map_nil]
    |inr w=>
     obtain ⟨w,lf⟩:=w
     have d4:decide (lf<0)=false:=decide_eq_false (by have:=(hle w lf rfl).1;omega)
     cases w with
     |mk wop wn ws wnames wl=>
      simp only[go_sem,stB,encS_ok]
      iterate 8 (try (refine ⟨by kernel_rfl,?_⟩))
      try simp only[go_sem,stB,encS_ok]
      refine aCall_intro ho ?_
      simp only[go_sem,obsR,d4,encOut,ValT.op,ValT.n,ValT.s,ValT.names,ValT.l,zeroV,encV_mk,strs]
      repeat' (first | (show anc _ _ _ _=true;kernel_rfl) | (refine And.intro ?_ ?_))
      all_goals try simp only[go_sem,obsR,d4,encOut,ValT.op,ValT.n,ValT.s,ValT.names,ValT.l,zeroV,encV_mk,strs]
      all_goals repeat' (first | (show anc _ _ _ _=true;kernel_rfl) | (refine And.intro ?_ ?_))
      all_goals try simp only[go_sem,obsR,d4,encOut,ValT.op,ValT.n,ValT.s,ValT.names,ValT.l,zeroV,encV_mk,strs]
end Go.Abs.Kon
namespace Go.Abs.Kon
open Go Go.Proofs Go.Abs
set_option maxRecDepth 100000
set_option maxHeartbeats 1000000
mutual
theorem ValT.ind1 {M:ValT→Prop}(h:∀op n s names l,(∀x∈l,M x)→M (.mk op n s names l)):∀c,M c
 | .mk op n s names l=>h op n s names l (ValT.ind2 h l)
theorem ValT.ind2 {M:ValT→Prop}(h:∀op n s names l,(∀x∈l,M x)→M (.mk op n s names l)):∀l:List ValT,∀x∈l,M x
 | [],_,hx=>absurd hx (by simp)
 |c::l,x,hx=>(List.mem_cons.1 hx).elim (fun e=>e ▸ ValT.ind1 h c) (fun hx=>ValT.ind2 h l x hx)
end
theorem SameAll_refl (l:List ValT) (h:∀x∈l,Spec Tryz.prog 16 [pp (encV x),pp (encV x)] [] (.bool true) []):Spec Tryz.prog 46 [pp (.slice (l.map encV)),pp (.slice (l.map encV))] [] (.bool true) []:=by
 refine wf (rv:=[.tmp 4]) ann46 27 Tryz.func46 fun hfit=>?_
 have hlen:l.length≤9223372036854775807:=by
  simp only[argsFit,SV.pv?,SC.pv?,PV.fit,maxLen_eq,List.length_map] at hfit
  exact hfit.1.1
 clear hfit
 have d1:((l.length:Int) != (l.length:Int))=false:=by simp
 simp only[go_sem,List.length_map,d1]
 refine aLoop_list (α:=ValT) (β:=Nat) (fun rest m=>⟨[(5,ii m),(1,pp (.slice (l.map encV))),(0,pp (.slice (l.map encV)))],[],[]⟩) (fun rest m=>∃pre,l=pre++rest∧m=pre.length) ?_ ?_ l 0 _ ?_ ⟨[],rfl,rfl⟩
 ·rintro m ⟨pre,g1,g2⟩ K
  simp only[List.append_nil] at g1
  subst g1
  simp only[go_sem,g2,lt_false (Int.le_refl _),List.length_map]
 ·rintro x rest m ⟨pre,g1,g2⟩ K hK
  have hx:(l.map encV)[m]? = some (encV x):=by simp[g1,g2]
  have hlt:decide ((m:Int)<(l.length:Int))=true:=decide_eq_true (by rw[g1,g2];simp;omega)
  have hll:m<l.length:=by rw[g1,g2];simp
  have w4:IntKind.i64.wrap ((m:Int)+1)=((m+1:Nat):Int):=by rw[wrapI (by omega) (by omega)];simp
  simp only[go_sem,hlt,hx,List.length_map]
  iterate 8 (try (refine ⟨by kernel_rfl,?_⟩))
  refine aCall_intro (h x (by rw[g1];simp)) ?_
  simp only[go_sem,w4]
  refine hK (m+1) _ ?_ ⟨pre++[x],by simp[g1],by simp[g2]⟩
  simp only[go_sem]
 ·simp only[go_sem,Int.natCast_zero]
theorem Same14_refl:∀v:ValT,Spec Tryz.prog 16 [pp (encV v),pp (encV v)] [] (.bool true) []:=by
 refine ValT.ind1 fun op n s names l ih=>?_
 have hS:=SameAll_refl l ih
 rw[encV_mk]
 refine wf (rv:=[.tmp 4]) ann16 66 Tryz.func16 fun hfit=>?_
 have hlen:names.length≤9223372036854775807:=by
  simp only[argsFit,SV.pv?,SC.pv?,PV.fit,fitL,maxLen_eq,List.length_map] at hfit
  exact hfit.1.2.2.2.1.1
 clear hfit
 have d1:(op != op)=false:=by simp
 have d2:(n != n)=false:=by simp
 have d3:(s.toList==s.toList)=true:=by rw[beq_iff_eq]
 have d4:((names.length:Int) != (names.length:Int))=false:=by simp
 have d5:((l.length:Int) != (l.length:Int))=false:=by simp
 simp only[go_sem,List.length_map,d1,d2,d3,d4,d5]
 refine aLoop_list (α:=ByteArray) (β:=Nat) (fun rest m=>⟨[(5,ii m),(3,pp (.ep (.agg [.int .i64 op,.int .i64 n,.str s,.slice (names.map .str),.slice (l.map encV)]) 0)),(2,pp (.ep (.agg [.int .i64 op,.int .i64 n,.str s,.slice (names.map .str),.slice (l.map encV)]) 0))],[],[]⟩) (fun rest m=>∃pre,names=pre++rest∧m=pre.length) ?_ ?_ names 0 _ ?_ ⟨[],rfl,rfl⟩
 ·rintro m ⟨pre,g1,g2⟩ K
  simp only[List.append_nil] at g1
  subst g1
  simp only[go_sem,g2,lt_false (Int.le_refl _),List.length_map]
  iterate 8 (try (refine ⟨by kernel_rfl,?_⟩))
  refine aCall_intro hS ?_
  simp only[go_sem]
 ·rintro x rest m ⟨pre,g1,g2⟩ K hK
  have hx:(names.map PV.str)[m]? = some (.str x):=by simp[g1,g2]
  have hlt:decide ((m:Int)<(names.length:Int))=true:=decide_eq_true (by rw[g1,g2];simp;omega)
  have hll:m<names.length:=by rw[g1,g2];simp
  have w4:IntKind.i64.wrap ((m:Int)+1)=((m+1:Nat):Int):=by rw[wrapI (by omega) (by omega)];simp
  have d6:(x.toList==x.toList)=true:=by rw[beq_iff_eq]
  simp only[go_sem,hlt,hx,List.length_map,d6,w4]
  iterate 8 (try (refine ⟨by kernel_rfl,?_⟩))
  try simp only[go_sem,hlt,hx,List.length_map,d6,w4]
  refine hK (m+1) _ ?_ ⟨pre++[x],by simp[g1],by simp[g2]⟩
  simp only[go_sem]
 ·simp only[go_sem,Int.natCast_zero]
theorem eqS_refl:∀l:List ByteArray,eqL strEq l l=true
 | []=>rfl
 |x::r=>by simp[eqL,strEq,eqS_refl r]
theorem Same15_refl (o:OutT):Spec Tryz.prog 12 [pp (encOut o),pp (encOut o)] [] (.bool true) []:=by
 have hS:=Same14_refl o.v
 have hT:=rSameS_spec o.out o.out
 rw[eqS_refl] at hT
 have hv:encV o.v=.agg [.int .i64 o.v.op,.int .i64 o.v.n,.str o.v.s,.slice (o.v.names.map .str),.slice (o.v.l.map encV)]:=by
  cases hc:o.v;rw[encV_mk];rfl
 rw[hv] at hS
 unfold encOut
 refine wk (rv:=[.tmp 4]) ann12 38 Tryz.func12 ?_
 have d1:(o.op==o.op)=true:=by simp
 have d2:(o.n==o.n)=true:=by simp
 have d3:(o.st==o.st)=true:=by simp
 simp only[go_sem,d1,d2,d3]
 refine aCall_intro hS ?_
 simp only[go_sem,strs]
 refine aCall_intro hT ?_
 simp only[go_sem]
end Go.Abs.Kon