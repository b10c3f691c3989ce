/- Small steps, plain: a step keeps closedness; runs and traces. -/
import Derived.Test.YtafhcphggdipaaaGreatDoorStepX
import Derived.Test.YtafhcphggdipaaaGreatDoorStepF
set_option linter.unusedSimpArgs false
set_option linter.unusedVariables false
namespace Go.Abs.Kon
open Go Go.Proofs Go.Abs
set_option maxRecDepth 100000
set_option maxHeartbeats 4000000
theorem cl_zeroC (u:Int):bndC zeroC u:=by rw[zeroC,bndC,if_neg (by decide),if_neg (by decide)];trivial
theorem cl_conZ {c:Int}(h:c≠1) (u:Int):bndC (conZ c) u:=by
 rw[conZ,bndC,if_neg h]
 split
 ·trivial
 ·trivial
theorem cl_nodeL (op:Int) (h1:op≠1) (l:List TermT) (h:clTs op l 0 0 0):clTm (nodeL op l) 0 0:=by
 rw[nodeL,clTm]
 exact ⟨fun _=>cl_zeroC 0,fun _=>cl_zeroC 0,fun e=>absurd e h1,h⟩
theorem cl_fail (n c:Int) (h:c≠1):clTm (failT n c) 0 0:=by
 rw[failT,clTm]
 exact ⟨fun _=>cl_conZ h 0,fun e=>absurd e (by decide),fun e=>absurd e (by decide),trivial⟩
theorem cl_int (n:Int):clTm (intT n) 0 0:=by
 rw[intT,clTm]
 exact ⟨fun e=>absurd e (by decide),fun e=>absurd e (by decide),fun e=>absurd e (by decide),trivial⟩
theorem cl_txt (s:ByteArray):clTm (txtT s) 0 0:=by
 rw[txtT,clTm]
 exact ⟨fun e=>absurd e (by decide),fun e=>absurd e (by decide),fun e=>absurd e (by decide),trivial⟩
theorem cl_unit:clTm unitT 0 0:=cl_nodeL 10 (by decide) [] trivial
theorem cl_unitC (u:Int):bndC unitC u:=by rw[unitC,bndC,if_neg (by decide),if_neg (by decide)];trivial
theorem cl_sumC (u:Int):bndC sumC u:=by
 rw[sumC,bndC,if_neg (by decide),if_neg (by decide)]
 exact ⟨cl_unitC _,cl_unitC _,trivial⟩
theorem cl_boolC (u:Int):bndC boolC u:=by
 rw[boolC,bndC,if_neg (by decide),if_neg (by decide)]
 refine ⟨?_,trivial⟩
 rw[bndC,if_neg (by decide),if_neg (by decide)]
 exact ⟨cl_unitC _,cl_unitC _,trivial⟩
theorem cl_truth (b:Bool):clTm (truthT b) 0 0:=by
 rw[truthT,clTm]
 refine ⟨fun _=>cl_boolC 0,fun e=>absurd e (by decide),fun e=>absurd e (by decide),?_,trivial⟩
 rw[clTm]
 refine ⟨fun _=>cl_sumC _,fun e=>absurd e (by decide),fun e=>absurd e (by decide),?_,trivial⟩
 exact cl_mono unitT 0 0 _ _ (by decide) (by decide) cl_unit
theorem cl_numb (n:Int) (b:Bool):clTm (numbT n b) 0 0:=by
 rw[numbT]
 split
 ·exact cl_fail 2 4 (by decide)
 ·exact cl_int n
theorem cl_nums (op a b:Int):clTm (numsT op a b) 0 0:=by
 rw[numsT]
 repeat' split
 all_goals first|exact cl_numb _ _|exact cl_truth _|exact cl_txt _|exact cl_fail _ _ (by decide)
theorem cl_texts (op:Int) (a b:ByteArray):clTm (textsT op a b).1 0 0:=by
 rw[textsT]
 split
 ·show clTm (if _ then _ else _) 0 0
  split
  ·exact cl_fail _ _ (by decide)
  ·exact cl_txt _
 ·split
  ·exact cl_numb _ _
  ·split
   ·exact cl_truth _
   ·exact cl_unit
theorem cl_get {t:TermT}(h:clTm t 0 0) {j:Nat}{x:TermT}(hx:t.l[j]? = some x):clTm x (insC t.op j) (insT t.op j):=by
 obtain ⟨op,n,s,con,to,k,names,l⟩:=t
 rw[clTm] at h
 have:=cl_part op 0 0 l 0 j x h.2.2.2 hx
 rw[Nat.zero_add,Int.zero_add,Int.zero_add] at this
 exact this
theorem cl_con {t:TermT}(h:clTm t 0 0) (ho:hasConF t.op=true):bndC t.con 0:=by
 obtain ⟨op,n,s,con,to,k,names,l⟩:=t
 rw[clTm] at h
 exact h.1 ho
theorem hd_some {l:List TermT}(h:0<l.length):l[0]? = some (hdT l):=by
 cases l with
 |nil=>cases h
 |cons a r=>rfl
theorem snd_some {l:List TermT}(h:1<l.length):l[1]? = some (sndT l):=by
 match l,h with
 |a::b::r,_=>rfl
theorem get_getD' {l:List TermT}{i:Nat}(h:i<l.length):l[i]? = some (l.getD i zeroT):=by
 rw[List.getD_eq_getElem?_getD,List.getElem?_eq_getElem h];rfl
theorem cl_rsub {b t:TermT}(hb:validT b=true) (ht:wfT t=true) (cb:clTm b 0 0) (ct:clTm t 0 1):clTm (rsubT b t 0 0) 0 0:=by
 rw[rsub_map b (valid_wf hb).1 t 0 0 ht]
 exact cl_sub b (valid_wf hb).1 cb t 0 0 (Int.le_refl _) (Int.le_refl _) ct
theorem cl_rsubC {c:ConT}{t:TermT}(hc:validF c=true) (ht:wfT t=true) (w:Int) (cb:bndC c 0) (ct:clTm t 1 w):clTm (rsubC [c] t 0) 0 w:=by
 rw[rsubC_map [c] (by simp[hc]) t 0 w ht]
 exact cl_subC c (validF_formed hc) cb t 0 w w (Int.le_refl _) ct
theorem contr_cl {t:TermT}(h:validT t=true) (hcl:clTm t 0 0) (hr:validT (rcontrT t).1=true) (e:(rcontrT t).2.2.2=true):clTm (rcontrT t).1 0 0:=by
 have hp:=vpart h
 have hg:=fun (j:Nat) (x:TermT)=>cl_get hcl (j:=j) (x:=x)
 have hgc:=cl_con hcl
 have hcv:=fun g=>vcon h g
 obtain ⟨op,n,s,con,to,k,names,l⟩:=t
 simp only[TermT.op,TermT.l,TermT.con] at hp hg hgc hcv
 rw[rcontrT] at hr e ⊢
 by_cases h18:op=18
 ·rw[if_pos h18] at hr e ⊢
  rw[rprimT] at e ⊢
  split at e
  ·cases e
  ·rename_i h1
   rw[if_neg h1]
   split
   ·split
    ·exact cl_unit
    ·exact cl_texts _ _ _
   ·exact cl_nums _ _ _
 rw[if_neg h18] at hr e ⊢
 by_cases ha:actT op l.length=0∨l=[]
 ·rw[if_pos ha] at e;cases e
 rw[if_neg ha] at hr e ⊢
 have hl0:0<l.length:=by
  cases l with
  |nil=>exact absurd (.inr rfl) ha
  |cons a r=>simp
 have hv:=hp _ (hd_mem hl0)
 have ch:=hg 0 _ (hd_some hl0)
 cases hc:rcontrN op s con names l with
 |none=>rw[hc] at e;cases e
 |some r=>
 rw[hc] at hr
 simp only at hr ⊢
 rw[rcontrN] at hc
 split at hc
 ·rename_i h5
  subst h5
  have h2:l.length=2:=len2 h (.inl rfl)
  have hw:=hp _ (snd_mem (l:=l) (by omega))
  have cw:=hg 1 _ (snd_some (l:=l) (by omega))
  split at hc
  ·rename_i h4
   obtain rfl:=Option.some.inj hc
   have hi:=inner_valid hv (.inl h4)
   have cx:=cl_get ch (hd_some (l:=(hdT l).l) (by rw[len1 hv (.inl h4)];decide))
   rw[h4] at cx
   exact cl_rsub hw (valid_wf hi).1 cw cx
  ·split at hc
   ·rename_i h16
    obtain rfl:=Option.some.inj hc
    have hi:=inner_valid hv (by omega)
    have cx:=cl_get ch (hd_some (l:=(hdT l).l) (by rw[len1 hv (by omega)];decide))
    rw[h16.1] at cx
    exact cl_nodeL 5 (by decide) _ ⟨cl_rsub hv (valid_wf hi).1 ch cx,cw,trivial⟩
   ·cases hc
 split at hc
 ·rename_i h7
  subst h7
  have hcon:=hcv (by decide)
  have ccon:=hgc (by decide)
  split at hc
  ·rename_i h6
   obtain rfl:=Option.some.inj hc
   have hi:=inner_valid hv (.inr (.inl h6))
   have cx:=cl_get ch (hd_some (l:=(hdT l).l) (by rw[len1 hv (.inr (.inl h6))];decide))
   rw[h6] at cx
   exact cl_rsubC hcon (valid_wf hi).1 0 ccon cx
  ·split at hc
   ·rename_i h16
    obtain rfl:=Option.some.inj hc
    have hi:=inner_valid hv (by omega)
    have cx:=cl_get ch (hd_some (l:=(hdT l).l) (by rw[len1 hv (by omega)];decide))
    rw[h16.1] at cx
    rw[tappT,clTm]
    exact ⟨fun _=>ccon,fun e=>absurd e (by decide),fun e=>absurd e (by decide),cl_rsub hv (valid_wf hi).1 ch cx,trivial⟩
   ·cases hc
 split at hc
 ·rename_i h9
  subst h9
  have h2:l.length=2:=len2 h (.inr (.inl rfl))
  have hw:=hp _ (snd_mem (l:=l) (by omega))
  have cw:=hg 1 _ (snd_some (l:=l) (by omega))
  split at hc
  ·rename_i h8
   obtain rfl:=Option.some.inj hc
   have hc8:=vcon hv (by rw[h8];decide)
   have cc8:=cl_con ch (by rw[h8];decide)
   have hi:=inner_valid hv (by omega)
   have cx:=cl_get ch (hd_some (l:=(hdT l).l) (by rw[len1 hv (by omega)];decide))
   rw[h8] at cx
   have hin:validT (rsubC [(hdT l).con] (sndT l) 0)=true:=by
    cases g:validT (rsubC [(hdT l).con] (sndT l) 0) with
    |true=>rfl
    |false=>rw[sub_invalid (vok_rsubC _ _ 0 (wf_vok _ (valid_wf hw).1)) g] at hr;cases hr
   exact cl_rsub hi (valid_wf hin).1 cx (cl_rsubC hc8 (valid_wf hw).1 1 cc8 cw)
  ·cases hc
 split at hc
 ·rename_i h11
  subst h11
  split at hc
  ·rename_i h10
   obtain rfl:=Option.some.inj hc
   have hf:=find_lt (hdT l).names s 0 (Int.le_refl _) h10.2
   have hll:=len10 hv h10.1
   have cx:=cl_get ch (get_getD' (l:=(hdT l).l) (i:=(findS (hdT l).names s 0).toNat) (by omega))
   rw[h10.1] at cx
   exact cx
  ·cases hc
 split at hc
 ·rename_i h13
  subst h13
  split at hc
  ·rename_i h12
   obtain rfl:=Option.some.inj hc
   have hf:=find_lt names (hdT l).s 0 (Int.le_refl _) h12.2
   have hll:l.length=names.length+1:=len13 h rfl
   have hm:=getD_mem (l:=l) (i:=(findS names (hdT l).s 0).toNat+1) (by omega)
   have cy:=hg _ _ (get_getD' (l:=l) (i:=(findS names (hdT l).s 0).toNat+1) (by omega))
   rw[show insC 13 ((findS names (hdT l).s 0).toNat+1)=0 from rfl,show insT 13 ((findS names (hdT l).s 0).toNat+1)=1 by rw[insT,if_neg (by decide),if_pos (by decide),if_neg (by omega)]] at cy
   have hi:=inner_valid hv (by omega)
   have cx:=cl_get ch (hd_some (l:=(hdT l).l) (by rw[len1 hv (by omega)];decide))
   rw[h12.1] at cx
   exact cl_rsub hi (valid_wf (hp _ hm)).1 cx cy
  ·cases hc
 split at hc
 ·rename_i h15
  subst h15
  split at hc
  ·rename_i h14
   obtain rfl:=Option.some.inj hc
   have cx:=cl_get ch (hd_some (l:=(hdT l).l) (by rw[len1 hv (by omega)];decide))
   rw[h14] at cx
   exact cx
  ·cases hc
 split at hc
 ·rename_i h17
  subst h17
  have h2:l.length=2:=len2 h (.inr (.inr rfl))
  have hw:=hp _ (snd_mem (l:=l) (by omega))
  have cw:=hg 1 _ (snd_some (l:=l) (by omega))
  obtain rfl:=Option.some.inj hc
  exact cl_rsub hv (valid_wf hw).1 ch cw
 ·cases hc
theorem rstep_cl {t:TermT}(hok:okT t) (e:(rstepT t).2.2=0):closedT (rstepT t).1=true:=by
 rw[rstepT] at e ⊢
 split at e
 ·cases e
 ·rename_i h1
  have hc:closedT t=true:=by simpa using h1
  obtain ⟨hv,hcl⟩:=closed_iff.1 hc
  rw[if_neg h1]
  split at e
  ·cases e
  ·rename_i h2
   rw[if_neg h2]
   split at e
   ·cases e
   ·rename_i h3
    rw[if_neg h3]
    split at e
    ·cases e
    ·rename_i h4
     rw[if_neg h4]
     have h4':validT (rbT (rcontrT (nextT t)).1 t)=true:=by simpa using h4
     obtain ⟨nv,nok⟩:=next_valid t hv hok
     exact closed_iff.2 ⟨h4',reb_cl (contr_cl nv (next_cl t hcl) (reb_inv t h4') (by simpa using h3)) t hcl⟩
theorem step_cl {t:TermT}(hok:okT t) (e:(stepT t).2.2=0):closedT (stepT t).1=true:=by
 rw[step_eq hok] at e ⊢
 exact rstep_cl hok e
def reachT:Nat→TermT→List ByteArray→List TermT
 | 0,t,_=>[t]
 |n+1,t,out=>if (stepT t).2.2≠0 then [t] else if out.length+(stepT t).2.1.length>1000 then [t] else t::reachT n (stepT t).1 (out++(stepT t).2.1)
def rtrT:Nat→TermT→List TermT→List ByteArray→List TermT×List ByteArray×Int
 | 0,_,l,out=>(l,out,0)
 |n+1,t,l,out=>if (rstepT t).2.2=7∨(rstepT t).2.2=23 then (l,out,0) else if (rstepT t).2.2≠0 then ([],[],(rstepT t).2.2) else
  if (out++(rstepT t).2.1).length>1000 then ([],[],5) else rtrT n (rstepT t).1 (l++[(rstepT t).1]) (out++(rstepT t).2.1)
theorem step_err {t:TermT}(hok:okT t) (hc:closedT t=true):(stepT t).2.2=0∨(stepT t).2.2=6∨(stepT t).2.2=7∨(stepT t).2.2=23:=by
 rw[step_eq hok,rstepT,if_neg (by rw[hc];decide)]
 split
 ·exact .inr (.inr (.inl rfl))
 ·split
  ·exact .inr (.inr (.inr rfl))
  ·split
   ·exact .inr (.inl rfl)
   ·exact .inl rfl
theorem run_0 {n:Nat}{t:TermT}{out:List ByteArray}{st:Int}(e:(stepT t).2.2=0):runT (n+1) t out st=if out.length+(stepT t).2.1.length>1000 then (zeroT,[],0,5) else runT n (stepT t).1 (out++(stepT t).2.1) (st+1):=by
 rw[runT,if_neg (by rw[e];decide),if_neg (by rw[e];decide)]
theorem run_6 {n:Nat}{t:TermT}{out:List ByteArray}{st:Int}(e:(stepT t).2.2=6):runT (n+1) t out st=(zeroT,[],0,6):=by rw[runT,if_pos e]
theorem run_s {n:Nat}{t:TermT}{out:List ByteArray}{st:Int}(e:(stepT t).2.2=7∨(stepT t).2.2=23):runT (n+1) t out st=(t,out,st,0):=by
 rw[runT,if_neg (by omega),if_pos (by omega)]
theorem reach_0 {n:Nat}{t:TermT}{out:List ByteArray}(e:(stepT t).2.2=0):reachT (n+1) t out=if out.length+(stepT t).2.1.length>1000 then [t] else t::reachT n (stepT t).1 (out++(stepT t).2.1):=by
 rw[reachT,if_neg (by omega)]
theorem reach_s {n:Nat}{t:TermT}{out:List ByteArray}(e:(stepT t).2.2≠0):reachT (n+1) t out=[t]:=by rw[reachT,if_pos e]
theorem rtr_0 {n:Nat}{t:TermT}{l:List TermT}{out:List ByteArray}(hok:okT t) (e:(stepT t).2.2=0):rtrT (n+1) t l out=if out.length+(stepT t).2.1.length>1000 then ([],[],5) else rtrT n (stepT t).1 (l++[(stepT t).1]) (out++(stepT t).2.1):=by
 rw[rtrT,←step_eq hok,if_neg (by omega),if_neg (by omega),List.length_append]
theorem rtr_6 {n:Nat}{t:TermT}{l:List TermT}{out:List ByteArray}(hok:okT t) (e:(stepT t).2.2=6):rtrT (n+1) t l out=([],[],6):=by
 rw[rtrT,←step_eq hok,if_neg (by omega),if_pos (by omega),e]
theorem rtr_s {n:Nat}{t:TermT}{l:List TermT}{out:List ByteArray}(hok:okT t) (e:(stepT t).2.2=7∨(stepT t).2.2=23):rtrT (n+1) t l out=(l,out,0):=by
 rw[rtrT,←step_eq hok,if_pos e]
theorem run_tr:∀(n:Nat) (t:TermT) (out:List ByteArray) (st:Int) (l0:List TermT),okT t→closedT t=true →
  (∃e,e≠0∧runT n t out st=(zeroT,[],0,e)∧rtrT n t (l0++[t]) out=([],[],e)) ∨
  ∃o pre y,runT n t out st=(y,o,st+(pre.length:Int),0)∧reachT n t out=pre++[y]∧rtrT n t (l0++[t]) out=(l0++pre++[y],o,0)
 | 0,t,out,st,l0,_,_=>.inr ⟨out,[],t,by rw[runT];simp,by rw[reachT];rfl,by rw[rtrT];simp⟩
 |n+1,t,out,st,l0,hok,hc=>by
  have hs:((stepT t).2.2=7∨(stepT t).2.2=23)→(∃e,e≠0∧runT (n+1) t out st=(zeroT,[],0,e)∧rtrT (n+1) t (l0++[t]) out=([],[],e)) ∨
    ∃o pre y,runT (n+1) t out st=(y,o,st+(pre.length:Int),0)∧reachT (n+1) t out=pre++[y]∧rtrT (n+1) t (l0++[t]) out=(l0++pre++[y],o,0):=fun e=>by
   rw[run_s e,reach_s (by omega),rtr_s hok e]
   exact .inr ⟨out,[],t,by simp,rfl,by simp⟩
  rcases step_err hok hc with e|e|e|e
  ·rw[run_0 e,reach_0 e,rtr_0 hok e]
   by_cases hL:out.length+(stepT t).2.1.length>1000
   ·rw[if_pos hL,if_pos hL,if_pos hL]
    exact .inl ⟨5,by decide,rfl,rfl⟩
   ·rw[if_neg hL,if_neg hL,if_neg hL]
    rcases run_tr n (stepT t).1 (out++(stepT t).2.1) (st+1) (l0++[t]) (step_ok hok e) (step_cl hok e) with ⟨x,h0,h1,h2⟩|⟨o,pre,y,h1,h2,h3⟩
    ·exact .inl ⟨x,h0,h1,h2⟩
    ·refine .inr ⟨o,t::pre,y,?_,by rw[h2];rfl,?_⟩
     ·rw[h1,List.length_cons,Int.natCast_succ]
      simp only[Prod.mk.injEq,true_and,and_true]
      omega
     ·rw[h3];simp
  ·rw[run_6 e,rtr_6 hok e]
   exact .inl ⟨6,by decide,rfl,rfl⟩
  ·exact hs (.inl e)
  ·exact hs (.inr e)
theorem reach_steps:∀(n:Nat) (t:TermT) (out:List ByteArray) (i:Nat) (x y:TermT),(reachT n t out)[i]? = some x→(reachT n t out)[i+1]? = some y→(stepT x).2.2=0∧(stepT x).1=y
 | 0,t,out,i,x,y,_,h2=>by rw[reachT] at h2;simp at h2
 |n+1,t,out,i,x,y,h1,h2=>by
  rw[reachT] at h1 h2
  by_cases e:(stepT t).2.2≠0
  ·rw[if_pos e] at h2;simp at h2
  ·rw[if_neg e] at h1 h2
   by_cases hL:out.length+(stepT t).2.1.length>1000
   ·rw[if_pos hL] at h2;simp at h2
   ·rw[if_neg hL] at h1 h2
    cases i with
    |zero=>
     simp only[List.getElem?_cons_zero,Option.some.injEq] at h1
     subst h1
     refine ⟨by simpa using e,?_⟩
     rw[List.getElem?_cons_succ] at h2
     cases n with
     |zero=>rw[reachT] at h2;simpa using h2
     |succ m=>
      rw[reachT] at h2
      split at h2
      ·simpa using h2
      ·split at h2
       ·simpa using h2
       ·simpa using h2
    |succ j=>
     rw[List.getElem?_cons_succ] at h1 h2
     exact reach_steps n _ _ j x y h1 h2
theorem run_more:∀(a b:Nat) (t:TermT) (out:List ByteArray) (st:Int),okT t→closedT t=true →
  (∃e,e≠0∧runT a t out st=(zeroT,[],0,e)∧runT (a+b) t out st=(zeroT,[],0,e)) ∨
  ∃x o,∃k:Nat,runT a t out st=(x,out++o,st+(k:Int),0)∧k≤a∧okT x∧closedT x=true ∧
   (runT (a+b) t out st=runT b x (out++o) (st+(k:Int))∨(((stepT x).2.2=7∨(stepT x).2.2=23)∧runT (a+b) t out st=(x,out++o,st+(k:Int),0)))
 | 0,b,t,out,st,hok,hc=>.inr ⟨t,[],0,by rw[runT];simp,Nat.le_refl _,hok,hc,.inl (by simp)⟩
 |a+1,b,t,out,st,hok,hc=>by
  rw[show a+1+b=(a+b)+1 by omega]
  have hs:((stepT t).2.2=7∨(stepT t).2.2=23)→(∃e,e≠0∧runT (a+1) t out st=(zeroT,[],0,e)∧runT (a+b+1) t out st=(zeroT,[],0,e)) ∨
    ∃x o,∃k:Nat,runT (a+1) t out st=(x,out++o,st+(k:Int),0)∧k≤a+1∧okT x∧closedT x=true ∧
     (runT (a+b+1) t out st=runT b x (out++o) (st+(k:Int))∨(((stepT x).2.2=7∨(stepT x).2.2=23)∧runT (a+b+1) t out st=(x,out++o,st+(k:Int),0))):=fun e=>by
   rw[run_s e,run_s e]
   exact .inr ⟨t,[],0,by simp,by omega,hok,hc,.inr ⟨e,by simp⟩⟩
  rcases step_err hok hc with e|e|e|e
  ·rw[run_0 e,run_0 e]
   by_cases hL:out.length+(stepT t).2.1.length>1000
   ·rw[if_pos hL,if_pos hL]
    exact .inl ⟨5,by decide,rfl,rfl⟩
   ·rw[if_neg hL,if_neg hL]
    rcases run_more a b (stepT t).1 (out++(stepT t).2.1) (st+1) (step_ok hok e) (step_cl hok e) with ⟨x,h0,h1,h2⟩|⟨x,o,k,h1,h2,h3,h4,h5⟩
    ·exact .inl ⟨x,h0,h1,h2⟩
    ·refine .inr ⟨x,(stepT t).2.1++o,k+1,?_,by omega,h3,h4,?_⟩
     ·rw[h1,Int.natCast_succ,List.append_assoc]
      simp only[Prod.mk.injEq,true_and,and_true]
      omega
     ·rw[Int.natCast_succ,←List.append_assoc,show st+((k:Int)+1)=st+1+(k:Int) by omega]
      exact h5
  ·rw[run_6 e,run_6 e]
   exact .inl ⟨6,by decide,rfl,rfl⟩
  ·exact hs (.inl e)
  ·exact hs (.inr e)
theorem run_shift:∀(b:Nat) (t:TermT) (out:List ByteArray) (st:Int) (y:TermT) (o:List ByteArray) (m:Int),runT b t out st=(y,o,m,0) →
  ∃rest,o=out++rest∧∀(out':List ByteArray) (st':Int),out'.length≤out.length→runT b t out' st'=(y,out'++rest,m - st+st',0)
 | 0,t,out,st,y,o,m,h=>by
  rw[runT] at h
  simp only[Prod.mk.injEq] at h
  obtain ⟨rfl,rfl,rfl,_⟩:=h
  refine ⟨[],by simp,fun out' st' _=>?_⟩
  rw[runT]
  simp only[Prod.mk.injEq,List.append_nil,true_and,and_true]
  omega
 |b+1,t,out,st,y,o,m,h=>by
  rw[runT] at h
  split at h
  ·simp only[Prod.mk.injEq] at h
   exact absurd h.2.2.2 (by decide)
  ·rename_i h1
   split at h
   ·rename_i h2
    simp only[Prod.mk.injEq] at h
    obtain ⟨rfl,rfl,rfl,_⟩:=h
    refine ⟨[],by simp,fun out' st' _=>?_⟩
    rw[runT,if_neg h1,if_pos h2]
    simp only[Prod.mk.injEq,List.append_nil,true_and,and_true]
    omega
   ·rename_i h2
    split at h
    ·simp only[Prod.mk.injEq] at h
     exact absurd h.2.2.2 (by decide)
    ·rename_i h3
     obtain ⟨r1,e1,f1⟩:=run_shift b _ _ _ y o m h
     refine ⟨(stepT t).2.1++r1,by rw[e1,List.append_assoc],fun out' st' hl=>?_⟩
     rw[runT,if_neg h1,if_neg h2,if_neg (by omega),f1 (out'++(stepT t).2.1) (st'+1) (by simp only[List.length_append];omega),List.append_assoc]
     simp only[Prod.mk.injEq,true_and,and_true]
     omega
end Go.Abs.Kon