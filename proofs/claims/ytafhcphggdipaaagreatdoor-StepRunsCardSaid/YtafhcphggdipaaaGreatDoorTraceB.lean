/- The walk of Trace. -/
import Derived.Test.YtafhcphggdipaaaGreatDoorStepF
import Derived.Test.YtafhcphggdipaaaGreatDoorTraceA
set_option linter.unusedSimpArgs false
set_option linter.unusedVariables false
namespace Go.Abs.Kon
open Go Go.Proofs Go.Abs
set_option maxRecDepth 100000
set_option maxHeartbeats 4000000
theorem none16_spec:Spec Tryz.prog 30 [pp (encT zeroT)] [] (.bool true) []:=by
 have h:=rtSame_spec zeroT zeroT
 rw[sameT_refl] at h
 rw[encT_zero] at h ⊢
 refine wk (rv:=[.tmp 2]) ann30 6 Tryz.func30 ?_
 simp only[go_sem]
 refine aCall_intro h ?_
 simp only[go_sem]
theorem reach_len:∀(n:Nat) (t:TermT) (out:List ByteArray),(reachT n t out).length≤n+1
 | 0,t,out=>by rw[reachT];simp
 |n+1,t,out=>by
  rw[reachT]
  split
  ·simp
  ·split
   ·simp
   ·have:=reach_len n (stepT t).1 (out++(stepT t).2.1)
    simp only[List.length_cons]
    omega
theorem set_snoc {α:Type}(l:List α) (a b:α):(l++[a]).set l.length b=l++[b]:=by
 rw[List.set_append_right _ _ (Nat.le_refl _)];simp
theorem set_snoc_map {α β:Type}(f:α→β) (l:List α) (a b:β):(l.map f++[a]).set l.length b=l.map f++[b]:=by
 have:=set_snoc (l.map f) a b
 rwa [List.length_map] at this
theorem len_snoc_map {α β:Type}(f:α→β) (l:List α) (a:β):(l.map f++[a]).length=l.length+1:=by simp
theorem Trace1_nil (t:TermT) (hv:validT t=true) (hok:okT t):Spec Tryz.prog 81 [pp (encT t),.one (.ptr (.ref 0) 0)] [⟨.one,.one .nilS⟩] (.tuple []) [exB 16 (.agg 18) [encT t]]:=by
 have hCo:=copied_spec16 t hv hok
 refine wk (rv:=[]) ann81 10 Tryz.func81 ?_
 simp only[go_sem,encT_sz]
 refine aCall_intro hCo ?_
 have h01:(0:Int)<((1:Nat):Int):=by decide
 have r0:rowIx 0 18=some 0:=by decide
 simp only[go_sem,encT_sz,h01,r0,one_le_maxLen,Int.natCast_zero,Int.reduceToNat,List.set_cons_zero,exB,Value.oneCell']
 iterate 3 (try (refine ⟨by kernel_rfl,?_⟩;try simp only[go_sem,encT_sz,h01,r0,one_le_maxLen,Int.natCast_zero,Int.reduceToNat,List.set_cons_zero,exB,Value.oneCell']))
 all_goals kernel_rfl
theorem Trace1_ex (t:TermT) (hv:validT t=true) (hok:okT t) (l:List TermT) (hl:l.length≤1000000) (t1:Nat):Spec Tryz.prog 81 [pp (encT t),.one (.ptr (.ref 0) 0)] [exB t1 (.agg 18) (l.map encT)] (.tuple []) [exB 16 (.agg 18) ((l++[t]).map encT)]:=by
 refine Spec.in_ex (t1:=20) t1 rfl rfl ?_
 have hCo:=copied_spec16 t hv hok
 have hb1:(l.length+1)*312≤140737488355328:=by omega
 have hb2:l.length+1≤maxLen:=by rw[maxLen_eq];omega
 have hi:((l.length:Int)<((l.length+1:Nat):Int)):=by omega
 have hi2:=Nat.lt_succ_self l.length
 rw[List.map_append,List.map_cons,List.map_nil]
 refine wk (rv:=[]) ann81 10 Tryz.func81 ?_
 simp only[exB]
 simp only[go_sem,encT_sz]
 refine aCall_intro hCo ?_
 simp only[go_sem,encT_sz,Value.oneCell',List.length_map,hb1,hb2,hi,Int.natCast_nonneg,Int.toNat_natCast,len_snoc_map,hi2,set_snoc_map]
 iterate 3 (try (refine ⟨by kernel_rfl,?_⟩;try simp only[go_sem,encT_sz,Value.oneCell',List.length_map,hb1,hb2,hi,Int.natCast_nonneg,Int.toNat_natCast,len_snoc_map,hi2,set_snoc_map]))
 all_goals kernel_rfl
theorem runX_spec (t:TermT) (hv:validT t=true) (hok:okT t) (fuel:Int) (h1:0≤fuel) (h2:fuel≤200) :
  Spec Tryz.prog 78 [pp (encT t),ii fuel,.one (.fn 81 [.ptr (.ref 0) 0])] [⟨.one,.one .nilS⟩] (encRun (runT fuel.toNat t [] 0)) [exB (if (reachT fuel.toNat t []).length=1 then 30 else 104) (.agg 18) ((reachT fuel.toNat t []).map encT)]:=by
 have hR0:=Trace1_nil t hv hok
 have hR:=@Trace1_ex
 generalize hres:runT fuel.toNat t [] 0=res
 generalize hrr:reachT fuel.toNat t []=rr
 generalize htk:(if rr.length=1 then 30 else 104)=tk
 obtain ⟨k,hk⟩:∃k:Nat,fuel=k:=⟨fuel.toNat,by omega⟩
 subst hk
 rw[Int.toNat_natCast] at hres hrr
 refine wk (rv:=[.cell 6 31,.tmp 7,.tmp 8,.tmp 9]) ann78 56 Tryz.func78 ?_
 simp only[go_sem,encT_sz]
 refine aCall_intro hR0 ?_
 simp only[exB]
 simp only[go_sem]
 refine aLoop_list (α:=Unit) (β:=TermT×List ByteArray×Int×Bool×List TermT) (fun rest b=>⟨[(6,.one (.ptr (.loc 6) 0)),(8,ii b.2.2.1),(7,.one (accO b.2.2.2.1 (b.2.1.map .str))),(3,.one (.ptr (.loc 3) 0)),(2,.one (.fn 81 [.ptr (.ref 0) 0])),(1,ii k)],[(.ref 0,exB (if b.2.2.2.1=true then 104 else 30) (.agg 18) ((b.2.2.2.2++[b.1]).map encT)),(.loc 3,⟨.agg 18,pp (encT b.1)⟩),(.loc 6,zboxT)],[]⟩)
  (fun rest b=>b.2.2.1+(rest.length:Int)=k∧0≤b.2.2.1∧runT rest.length b.1 b.2.1 b.2.2.1=res∧b.2.2.2.2++reachT rest.length b.1 b.2.1=rr∧validT b.1=true∧okT b.1∧b.2.1.length≤1000∧(b.2.2.2.1=false→b.2.1=[]∧b.2.2.2.2=[])∧(b.2.2.2.1=true→b.2.2.2.2≠[])∧b.2.2.2.2.length≤b.2.2.1.toNat) ?_ ?_ (List.replicate k ()) (t,[],0,false,[]) _ ?_ ⟨by simp,by simp,by simpa using hres,by simpa using hrr,hv,hok,by simp,fun _=>⟨rfl,rfl⟩,(fun h=>by cases h),by simp⟩
 ·rintro ⟨x,out,st,fl,pre⟩ ⟨g1,g2,g3,g3',g4,g5,g6,g7,g8,g9⟩ K
  simp only[List.length_nil] at g1 g3 g3'
  rw[runT] at g3
  rw[reachT] at g3'
  subst g3
  subst g3'
  rw[encRun_mk]
  have e:st=k:=by omega
  simp only at g7 g8
  cases fl with
  |false=>
   obtain ⟨rfl,rfl⟩:=g7 rfl
   subst htk
   simp only[go_sem,e,lt_false (Int.le_refl _),accO_f,zboxT,encT_sz,List.map_nil,exB,List.nil_append,List.length_cons,List.length_nil,List.map_cons]
  |true=>
   have hp:=List.length_pos_iff.2 (g8 rfl)
   have htk':tk=104:=by rw[←htk,if_neg];simp only[List.length_append,List.length_cons,List.length_nil];omega
   subst htk'
   simp only[go_sem,e,lt_false (Int.le_refl _),accO_t,zboxT,encT_sz,exB]
 ·rintro _ rest ⟨x,out,st,fl,pre⟩ ⟨g1,g2,g3,g3',g4,g5,g6,g7,g8,g9⟩ K hK
  simp only[List.length_cons] at g1 g2 g3 g3' g4 g5 g6 g7 g8 g9
  have hS:=Step_spec x g5 trivial
  have hlt:decide (st<(k:Int))=true:=decide_eq_true (by omega)
  have hko:=step_ok g5
  have hpr:=step_out g5
  have hvo:=@step_valid x
  have htk1:pre++[x]=rr→tk=if fl=true then 104 else 30:=by
   intro e
   rw[←htk,←e]
   cases fl with
   |false=>obtain ⟨_,rfl⟩:=g7 rfl;rfl
   |true=>
    have hp:=List.length_pos_iff.2 (g8 rfl)
    rw[if_neg (by simp only[List.length_append,List.length_cons,List.length_nil];omega),if_pos rfl]
  rw[runT] at g3
  rw[reachT] at g3'
  have hRx:=fun h1 h2=>hR (stepT x).1 h1 h2 (pre++[x]) (by simp only[List.length_append,List.length_cons,List.length_nil];omega) (if fl=true then 104 else 30)
  generalize stepT x=r at hS g3 g3' hko hvo hRx hpr
  obtain ⟨y,pr,e⟩:=r
  simp only[encR] at hS g3 g3' hko hvo hRx hpr
  have w1:IntKind.i64.wrap (st+1)=st+1:=wrap_id (by omega) (by omega)
  by_cases e6:e=6
  ·subst e6
   rw[if_pos rfl] at g3
   rw[if_pos (by decide)] at g3'
   have htk':=htk1 g3'
   clear htk htk1
   subst g3 g3' htk'
   rw[encRun_mk,encT_zero]
   cases fl<;>simp only[go_sem,accO_f,accO_t,hlt,zboxT,encT_sz,exB]<;>(refine aCall_intro hS ?_;simp only[go_sem,encT_sz,Int.reduceBEq,List.map_nil])
  have f6:(e==6)=false:=by simpa using e6
  rw[if_neg e6] at g3
  by_cases e0:e=0
  ·subst e0
   rw[if_neg (fun h=>h rfl)] at g3 g3'
   have w2:IntKind.i64.wrap ((out.length:Int)+(pr.length:Int))=(out.length:Int)+pr.length:=wrap_id (by omega) (by omega)
   by_cases hL:out.length+pr.length>1000
   ·rw[if_pos hL] at g3 g3'
    have htk':=htk1 g3'
    clear htk htk1
    subst g3 g3' htk'
    rw[encRun_mk,encT_zero]
    have hL':decide ((out.length:Int)+(pr.length:Int)>1000)=true:=decide_eq_true (by omega)
    cases fl with
    |false=>
     obtain ⟨rfl,_⟩:=g7 rfl
     simp only[List.length_nil] at hL
     omega
    |true=>
     simp only[go_sem,accO_t,hlt,zboxT,encT_sz,exB]
     refine aCall_intro hS ?_
     simp only[go_sem,encT_sz,Int.reduceBEq,Int.reduceBNe,List.length_map,w2,hL',List.map_nil]
   ·rw[if_neg hL] at g3 g3'
    have hL':decide ((out.length:Int)+(pr.length:Int)>1000)=false:=decide_eq_false (by omega)
    have hall:=strs_all pr
    have hb1:(out.length+pr.length)*16≤140737488355328:=by omega
    have hb2:out.length+pr.length≤maxLen:=by rw[maxLen_eq];omega
    have hRx:=hRx (hvo rfl) (hko rfl)
    have hK':=fun s' hs=>hK (y,out++pr,st+1,true,pre++[x]) s' hs ⟨by simp only;omega,by simp only;omega,g3,by rw[←g3'];simp only[List.append_assoc,List.singleton_append],hvo rfl,hko rfl,by simp only[List.length_append];omega,(fun h=>by cases h),(fun _=>by simp),(by simp only[List.length_append,List.length_cons,List.length_nil];omega)⟩
    clear hK hko hvo g3 g3' htk htk1
    cases fl with
    |false=>
     obtain ⟨rfl,_⟩:=g7 rfl
     simp only[List.length_nil,Nat.zero_add] at hb1 hb2 w2 hL'
     simp only[Bool.false_eq_true,↓reduceIte,exB] at hRx
     simp only[go_sem,accO_f,hlt,zboxT,encT_sz,List.map_nil,exB]
     refine aCall_intro hS ?_
     simp only[go_sem,encT_sz,Int.reduceBEq,Int.reduceBNe,List.length_map,List.length_nil,w2,hL',hall,hb1,hb2,w1]
     try (refine ⟨by kernel_rfl,?_⟩;try simp only[go_sem,encT_sz,w1])
     refine aCall_intro hRx ?_
     simp only[go_sem]
     refine hK' _ ?_
     simp only[go_sem,accO_t,List.map_append,zboxT,List.nil_append,List.map_nil,exB]
    |true=>
     simp only[↓reduceIte,exB] at hRx
     rcases out with _|⟨o1,os⟩
     ·simp only[List.length_nil,Nat.zero_add] at hb1 hb2 w2 hL'
      simp only[go_sem,accO_t,hlt,zboxT,encT_sz,List.map_nil,exB]
      refine aCall_intro hS ?_
      simp only[go_sem,encT_sz,Int.reduceBEq,Int.reduceBNe,List.length_map,List.length_nil,w2,hL',hall,hb1,hb2,w1]
      try (refine ⟨by kernel_rfl,?_⟩;try simp only[go_sem,encT_sz,w1])
      refine aCall_intro hRx ?_
      simp only[go_sem]
      refine hK' _ ?_
      simp only[go_sem,accO_t,List.map_append,zboxT,List.nil_append,List.map_nil,exB]
     ·simp only[List.length_cons] at hb1 hb2 w2 hL'
      simp only[go_sem,accO_t,hlt,zboxT,encT_sz,List.map_cons,exB]
      refine aCall_intro hS ?_
      simp only[go_sem,encT_sz,Int.reduceBEq,Int.reduceBNe,List.length_map,List.length_cons,w2,hL',hall,hb1,hb2,w1]
      try (refine ⟨by kernel_rfl,?_⟩;try simp only[go_sem,encT_sz,w1])
      refine aCall_intro hRx ?_
      simp only[go_sem]
      refine hK' _ ?_
      simp only[go_sem,accO_t,List.map_append,zboxT,List.cons_append,List.map_cons,exB]
  ·rw[if_pos e0] at g3
   rw[if_pos e0] at g3'
   have htk':=htk1 g3'
   clear htk htk1
   subst g3 g3' htk'
   rw[encRun_mk]
   have n0:(e != 0)=true:=by simpa using e0
   cases fl with
   |false=>
    obtain ⟨rfl,_⟩:=g7 rfl
    simp only[go_sem,accO_f,hlt,zboxT,encT_sz,List.map_nil,exB]
    refine aCall_intro hS ?_
    simp only[go_sem,encT_sz,f6,n0,List.map_nil]
   |true=>
    simp only[go_sem,accO_t,hlt,zboxT,encT_sz,exB]
    refine aCall_intro hS ?_
    simp only[go_sem,encT_sz,f6,n0]
 ·simp only[go_sem,zboxT,accO_f,List.length_replicate,List.map_nil,exB,List.nil_append,List.map_cons]
def traceTop (t:TermT) (fuel:Int):List TermT×Int:=
 if closedT t=false then ([],1) else if fuel<0∨fuel>200 then ([],2) else if (runT fuel.toNat t [] 0).2.2.2≠0 then ([],(runT fuel.toNat t [] 0).2.2.2) else (reachT fuel.toNat t [],0)
theorem Trace_spec (t:TermT) (hok:okT t) (hwc:True) (fuel:Int):Spec Tryz.prog 28 [pp (encT t),ii fuel] [] (.tuple [.slice ((traceTop t fuel).1.map encT),.int .i64 (traceTop t fuel).2]) []:=by
 have hC:=closed_spec t hok hwc
 rw[traceTop]
 cases hc:closedT t with
 |false=>
  rw[hc] at hC
  rw[if_pos rfl,List.map_nil]
  refine wk (rv:=[.tmp 4,.tmp 5]) ann28 36 Tryz.func28 ?_
  simp only[go_sem,encT_sz]
  refine aCall_intro hC ?_
  simp only[go_sem]
 |true=>
  have hv:=closed_valid hc
  have hCo:=copied_spec16 t hv hok
  rw[hc] at hC
  rw[if_neg (by decide)]
  by_cases h1:fuel<0
  ·rw[if_pos (.inl h1),List.map_nil]
   refine wk (rv:=[.tmp 4,.tmp 5]) ann28 36 Tryz.func28 ?_
   simp only[go_sem,encT_sz]
   refine aCall_intro hC ?_
   simp only[go_sem,decide_eq_true h1]
  ·by_cases h2:fuel>200
   ·rw[if_pos (.inr h2),List.map_nil]
    refine wk (rv:=[.tmp 4,.tmp 5]) ann28 36 Tryz.func28 ?_
    simp only[go_sem,encT_sz]
    refine aCall_intro hC ?_
    simp only[go_sem,decide_eq_false h1,decide_eq_true h2]
   ·have hR:=runX_spec t hv hok fuel (by omega) (by omega)
    rw[if_neg (by rintro (e|e);exact h1 e;exact h2 e)]
    have d1:=decide_eq_false h1
    have d2:=decide_eq_false h2
    generalize reachT fuel.toNat t []=rr at hR ⊢
    generalize runT fuel.toNat t [] 0=r at hR ⊢
    obtain ⟨r1,r2,r3,r4⟩:=r
    simp only[encRun,exB] at hR ⊢
    by_cases e4:r4=0
    ·subst e4
     rw[if_neg (fun h=>h rfl)]
     have hall:(rr.map encT).all (fun x=>PV.hasSz (.agg 18) x)=true:=by
      rw[List.all_eq_true]
      intro y hy
      obtain ⟨z,_,rfl⟩:=List.mem_map.1 hy
      exact encT_sz z
     split at hR <;>
     ·refine wk (rv:=[.tmp 4,.tmp 5]) ann28 36 Tryz.func28 ?_
      simp only[go_sem,encT_sz]
      refine aCall_intro hC ?_
      simp only[go_sem,d1,d2,encT_sz]
      refine aCall_intro hCo ?_
      simp only[go_sem,encT_sz]
      refine aCall_intro hR ?_
      simp only[go_sem,encT_sz,Int.reduceBNe]
      refine aFlipOr_ops ?_
      simp only[go_sem,encT_sz,List.length_map]
    ·rw[if_pos e4,List.map_nil]
     have n4:(r4 != 0)=true:=by simpa using e4
     split at hR <;>
     ·refine wk (rv:=[.tmp 4,.tmp 5]) ann28 36 Tryz.func28 ?_
      simp only[go_sem,encT_sz]
      refine aCall_intro hC ?_
      simp only[go_sem,d1,d2,encT_sz]
      refine aCall_intro hCo ?_
      simp only[go_sem,encT_sz]
      refine aCall_intro hR ?_
      simp only[go_sem,encT_sz,n4]
end Go.Abs.Kon