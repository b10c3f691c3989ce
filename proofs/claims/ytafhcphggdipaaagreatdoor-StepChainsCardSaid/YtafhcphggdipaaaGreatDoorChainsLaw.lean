/- The library's slices.Concat; the law StepChains. -/
import Derived.Test.YtafhcphggdipaaaGreatDoorTraceA
import Derived.Test.YtafhcphggdipaaaGreatDoorKonC
import Derived.Test.YtafhcphggdipaaaGreatDoorShelfA
import Derived.Test.YtafhcphggdipaaaGreatDoorAbsD
import Derived.Test.YtafhcphggdipaaaGreatDoorTraceB
import Derived.Test.YtafhcphggdipaaaGreatDoorStepF
set_option linter.unusedSimpArgs false
set_option linter.unusedVariables false
namespace Go.Abs.Kon
open Go Go.Proofs Go.Abs
set_option maxRecDepth 100000
set_option maxHeartbeats 4000000
theorem reach_head (n:Nat) (t:TermT) (out:List ByteArray):(reachT n t out)[0]? = some t:=by
 cases n with
 |zero=>rw[reachT];rfl
 |succ n=>
  rw[reachT]
  split
  ·rfl
  ·split
   ·rfl
   ·rfl
theorem reach_len':∀(n:Nat) (t:TermT) (out:List ByteArray),(reachT n t out).length≤n+1
 | 0,t,out=>by rw[reachT];simp
 |n+1,t,out=>by
  rw[reachT]
  split
  ·simp
  ·split
   ·simp
   ·have:=reach_len' n (stepT t).1 (out++(stepT t).2.1)
    simp only[List.length_cons]
    omega
theorem run_stuck {t:TermT}(e:(stepT t).2.2=7∨(stepT t).2.2=23) (b:Nat) (out:List ByteArray) (st:Int):runT b t out st=(t,out,st,0):=by
 cases b with
 |zero=>rw[runT]
 |succ b=>exact run_s e
theorem reach_mid:∀(a b:Nat) (t x:TermT) (out o:List ByteArray) (st:Int) (k:Nat),okT t→closedT t=true→runT a t out st=(x,o,st+(k:Int),0)→(reachT (a+b) t out)[k]? = some x
 | 0,b,t,x,out,o,st,k,_,_,h=>by
  rw[runT] at h
  simp only[Prod.mk.injEq] at h
  obtain ⟨rfl,_,h3,_⟩:=h
  obtain rfl:k=0:=by omega
  exact reach_head _ _ _
 |a+1,b,t,x,out,o,st,k,hok,hc,h=>by
  rw[show a+1+b=(a+b)+1 by omega]
  have hs:((stepT t).2.2=7∨(stepT t).2.2=23)→(reachT (a+b+1) t out)[k]? = some x:=fun e=>by
   rw[run_s e] at h
   simp only[Prod.mk.injEq] at h
   obtain ⟨rfl,_,h3,_⟩:=h
   obtain rfl:k=0:=by omega
   exact reach_head _ _ _
  rcases step_err hok hc with e|e|e|e
  ·rw[run_0 e] at h
   split at h
   ·simp only[Prod.mk.injEq] at h
    exact absurd h.2.2.2 (by decide)
   ·rename_i hL
    rw[reach_0 e,if_neg hL]
    obtain ⟨j,rfl⟩:∃j,k=j+1:=by
     rcases run_more a 0 (stepT t).1 (out++(stepT t).2.1) (st+1) (step_ok hok e) (step_cl hok e) with ⟨x',h0,h1,_⟩|⟨x',o',k',h1,_⟩
     ·rw[h1] at h
      simp only[Prod.mk.injEq] at h
      exact absurd h.2.2.2 h0
     ·rw[h1] at h
      simp only[Prod.mk.injEq] at h
      exact ⟨k',by omega⟩
    rw[List.getElem?_cons_succ]
    exact reach_mid a b _ x _ o (st+1) j (step_ok hok e) (step_cl hok e) (by rw[h,Int.natCast_succ];simp only[Prod.mk.injEq,true_and,and_true];omega)
  ·rw[run_6 e] at h
   simp only[Prod.mk.injEq] at h
   exact absurd h.2.2.2 (by decide)
  ·exact hs (.inl e)
  ·exact hs (.inr e)
theorem run_stop:∀(n:Nat) (t y:TermT) (out o:List ByteArray) (st m:Int),okT t→closedT t=true→runT n t out st=(y,o,m,0)→m - st<n→(stepT y).2.2=7∨(stepT y).2.2=23
 | 0,t,y,out,o,st,m,_,_,h,hm=>by
  rw[runT] at h
  simp only[Prod.mk.injEq] at h
  exfalso;omega
 |n+1,t,y,out,o,st,m,hok,hc,h,hm=>by
  have hs:((stepT t).2.2=7∨(stepT t).2.2=23)→(stepT y).2.2=7∨(stepT y).2.2=23:=fun e=>by
   rw[run_s e] at h
   simp only[Prod.mk.injEq] at h
   obtain ⟨rfl,_⟩:=h
   exact e
  rcases step_err hok hc with e|e|e|e
  ·rw[run_0 e] at h
   split at h
   ·simp only[Prod.mk.injEq] at h
    exact absurd h.2.2.2 (by decide)
   ·exact run_stop n _ y _ o (st+1) m (step_ok hok e) (step_cl hok e) h (by omega)
  ·rw[run_6 e] at h
   simp only[Prod.mk.injEq] at h
   exact absurd h.2.2.2 (by decide)
  ·exact hs (.inl e)
  ·exact hs (.inr e)
theorem chain (a b:Nat) (t:TermT) (hok:okT t) (hc:closedT t=true) :
  (∃e,e≠0∧runT (a+b) t [] 0=(zeroT,[],0,e)) ∨
  ∃x y o rest pre,∃k:Nat,runT a t [] 0=(x,o,(k:Int),0)∧runT (a+b) t [] 0=(y,o++rest,(pre.length:Int),0)∧reachT (a+b) t []=pre++[y] ∧
   k≤a∧pre.length≤a+b∧k≤pre.length∧(pre++[y])[k]? = some x∧okT x∧closedT x=true∧runT b x [] 0=(y,rest,(pre.length:Int) - k,0) ∧
   (pre.length<a+b→(stepT y).2.2=7∨(stepT y).2.2=23):=by
 rcases run_tr (a+b) t [] 0 [] hok hc with ⟨e,e0,e1,_⟩|⟨all,pre,y,e1,e2,_⟩
 ·exact .inl ⟨e,e0,e1⟩
 rw[Int.zero_add] at e1
 have hlen:=reach_len' (a+b) t []
 rw[e2,List.length_append,List.length_singleton] at hlen
 rcases run_more a b t [] 0 hok hc with ⟨e,e0,_,f1⟩|⟨x,o,k,f1,f2,f3,f4,f5⟩
 ·rw[f1] at e1
  simp only[Prod.mk.injEq] at e1
  exact absurd e1.2.2.2 e0
 simp only[List.nil_append,Int.zero_add] at f1 f5
 have hmid:=reach_mid a b t x [] o 0 k hok hc (by rw[f1,Int.zero_add])
 rw[e2] at hmid
 have hk:k≤pre.length:=by
  have:=(List.getElem?_eq_some_iff.1 hmid).1
  rw[List.length_append,List.length_singleton] at this
  omega
 have hstop:pre.length<a+b→(stepT y).2.2=7∨(stepT y).2.2=23:=fun h=>run_stop (a+b) t y [] all 0 _ hok hc e1 (by omega)
 rcases f5 with f5|⟨f6,f5⟩
 ·rw[e1] at f5
  obtain ⟨rest,r1,r2⟩:=run_shift b x o k y all _ f5.symm
  subst r1
  have:=r2 [] 0 (by simp)
  rw[List.nil_append,Int.add_zero] at this
  exact .inr ⟨x,y,o,rest,pre,k,f1,e1,e2,f2,by omega,hk,hmid,f3,f4,this,hstop⟩
 ·rw[e1] at f5
  simp only[Prod.mk.injEq] at f5
  obtain ⟨rfl,rfl,f7,_⟩:=f5
  refine .inr ⟨y,y,all,[],pre,k,f1,by rw[List.append_nil];exact e1,e2,f2,by omega,hk,hmid,f3,f4,?_,hstop⟩
  rw[run_stuck f6]
  simp only[Prod.mk.injEq,true_and,and_true]
  omega
theorem GrowX_spec (n:Nat) (h0:0<n) (hn:n≤10000000):SpecX Tryz.prog 90 [pp .nilsl,ii n] .one []:=by
 refine ⟨by kernel_rfl,by simp,fun G w vs hW hT hB hr=>?_⟩
 have hvs:vs=#[.slice none 0 0,.int .i64 n]:=by
  simp only[RepSVs,pp,ii,RepSV,RepSC,Rep] at hr
  obtain ⟨v,rest,h1,rfl,v2,rest2,rfl,rfl,rfl⟩:=hr
  exact Array.toList_inj.1 h1
 subst hvs
 obtain ⟨e,i,z,hu,hsz,hi,hsi,hby,hpos,hz,hzo⟩:=elemSz_spec (P:=Tryz.prog) (t:=25) es25
 have he:e=9:=by
  have h:=Tryz.underlying25
  rw[hu] at h
  cases h
  rfl
 subst he
 have hs1:i.size=1:=hsi
 have hge:=grownCap_ge w n 0 9
 have hcm:=grownCap_le_maxLen w n 0 9 (by rw[maxLen_eq];omega)
 have hC:=Any8.slices_Grow_grow Tryz.growS i z hi hz (by omega) none 0 0 n [] w (Nat.le_refl _) (by omega) (by rw[hby];omega) (by omega) (by simp) (fun _=>rfl) (fun a h=>by cases h)
 refine hC.mono ?_
 rintro e w' ⟨rfl,rfl⟩
 simp only[Nat.zero_add,Nat.sub_zero]
 obtain ⟨G',g1,g2,g3,g4,g5,g6⟩:=lay_row_x (w:=w.drew) hW.drew (([]:List Value).toArray++Builtin.zeroCells z.cells n++Builtin.zeroCells z.cells (grownCap w n 0 9 - n)) 9 0 (grownCap w n 0 9) .one 0 (hT 0) (Nat.zero_le _) hcm (by
  have hzs:z.cells.size=1:=Sz.size_of_ok (k:=.one) hzo
  simp only[Array.size_append,List.size_toArray,size_zeroCells,hzs,List.length_nil,Sz.size,Nat.mul_one]
  omega) [] (by simp)
 exact ⟨_,G',0,_,rfl,g3,⟨rfl,rfl,_,_,[],rfl,rfl,by simp[RepL],by simp,rfl⟩,g1,(g2.weaken (fun _ h=>h) (fun _ h=>by simp at h)).drew⟩
theorem Grow0_spec:Spec Tryz.prog 90 [pp (.slice []),ii 0] [] (.slice []) []:=by
 refine Spec.of_below (by kernel_rfl) fun G w vs hW hr=>?_
 simp only[RepSVs,pp,ii,RepSV,RepSC,Rep] at hr
 obtain ⟨v,rest,h1,⟨a,len,cap,k,rfl,rfl,h2,h3,h4⟩,v2,rest2,rfl,rfl,rfl⟩:=hr
 have hvs:vs=#[.slice a 0 cap,.int .i64 ((0:Nat):Int)]:=Array.toList_inj.1 h1
 subst hvs
 rw[maxLen_eq] at h3
 refine (Any8.slices_Grow_room Tryz.growS a 0 cap 0 w (Nat.zero_le _) h3 (by decide) (Nat.zero_le _)).mono ?_
 rintro e w' ⟨rfl,rfl⟩
 refine ⟨_,rfl,?_,RowKit.Below.refl _ _⟩
 rw[Rep]
 exact ⟨a,0,cap,k,rfl,rfl,Nat.zero_le _,by rw[maxLen_eq];exact h3,.inl rfl⟩
def annCat:Ann:=⟨ann40.imm,[9000024,2000015,6000015],ann40.live,ann40.head⟩
@[go_sem] theorem annCat_imm:annCat.imm=ann40.imm:=rfl
@[go_sem] theorem annCat_frz:annCat.frz=[9000024,2000015,6000015]:=rfl
@[go_sem] theorem annCat_live:annCat.live=ann40.live:=rfl
@[go_sem] theorem annCat_head:annCat.head=ann40.head:=rfl
theorem texts_all (l:List ByteArray):((l.map PV.str).all fun x=>PV.hasSz .one x)=true:=by
 rw[List.all_eq_true]
 intro x hx
 obtain ⟨n,_,rfl⟩:=List.mem_map.1 hx
 rfl
theorem Concat_spec (o r:List ByteArray) (ho:o.length≤1000000) (hr:r.length≤1000000):Spec Tryz.prog 40 [pp (.slice [.slice (o.map .str),.slice (r.map .str)])] [] (.slice ((o++r).map .str)) []:=by
 have t1:decide ((0:Int)<((2:Nat):Int))=true:=rfl
 have t2:decide ((1:Int)<((2:Nat):Int))=true:=rfl
 have t3:decide ((2:Int)<((2:Nat):Int))=false:=rfl
 have w1:IntKind.i64.wrap (0+1)=1:=by decide
 have w2:IntKind.i64.wrap (1+1)=2:=by decide
 have w3:IntKind.i64.wrap (0+(o.length:Int))=o.length:=by rw[Int.zero_add];exact wrap_id (by omega) (by omega)
 have w4:IntKind.i64.wrap ((o.length:Int)+r.length)=((o.length+r.length:Nat):Int):=by rw[wrap_id (by omega) (by omega)];omega
 have d1:decide ((o.length:Int)<0)=false:=decide_eq_false (by omega)
 have d2:decide (((o.length+r.length:Nat):Int)<0)=false:=decide_eq_false (by omega)
 rw[List.map_append]
 by_cases h0:0<o.length+r.length
 ·have hG:=GrowX_spec (o.length+r.length) h0 (by omega)
  have ha:=texts_all o
  have hb:=texts_all r
  have hb1:o.length*16≤140737488355328:=by omega
  have hb2:o.length≤maxLen:=by rw[maxLen_eq];omega
  have hb3:(o.length+r.length)*16≤140737488355328:=by omega
  have hb4:o.length+r.length≤maxLen:=by rw[maxLen_eq];omega
  have hz:0<Sz.one.size:=by decide
  have hall:((o.map PV.str++r.map PV.str).all fun x=>PV.hasSz .one x)=true:=by rw[List.all_append,ha,hb];rfl
  refine wk (rv:=[.tmp 2]) annCat 36 Tryz.func40 ?_
  simp only[go_sem,List.length_cons,List.length_nil]
  refine ⟨3,?_⟩
  rw[aLoop_succ]
  simp only[go_sem,t1,List.length_map,w1,w3,d1]
  rw[aLoop_succ]
  simp only[go_sem,t2,List.length_map,w2,w4,d2]
  rw[aLoop_succ]
  simp only[go_sem,t3]
  refine aCallX_intro hG ?_
  simp only[go_sem]
  refine ⟨3,?_⟩
  rw[aLoop_succ]
  simp only[go_sem,t1,List.length_map,ha,hb1,hb2,w1]
  rw[aLoop_succ]
  simp only[go_sem,t2,List.length_map,hb,hb3,hb4,w2]
  rw[aLoop_succ]
  simp only[go_sem,t3]
  refine aFlipOr_ops ?_
  simp only[go_sem,hall,hz,Nat.zero_lt_one,List.length_append,List.length_map]
 ·obtain rfl:o=[]:=List.eq_nil_of_length_eq_zero (by omega)
  obtain rfl:r=[]:=List.eq_nil_of_length_eq_zero (by omega)
  have hG:=Grow0_spec
  have e0:IntKind.i64.wrap (0+0)=0:=by decide
  have e1:decide ((0:Int)<0)=false:=rfl
  refine wk (rv:=[.tmp 2]) ann40 36 Tryz.func40 ?_
  simp only[go_sem,List.length_cons,List.length_nil,List.map_nil]
  refine ⟨3,?_⟩
  rw[aLoop_succ]
  simp only[go_sem,t1,w1,e0,e1,Int.natCast_zero]
  rw[aLoop_succ]
  simp only[go_sem,t2,w2,e0,e1,Int.natCast_zero]
  rw[aLoop_succ]
  simp only[go_sem,t3]
  refine aCall_intro hG ?_
  simp only[go_sem]
  refine ⟨3,?_⟩
  rw[aLoop_succ]
  simp only[go_sem,t1,w1]
  rw[aLoop_succ]
  simp only[go_sem,t2,w2]
  rw[aLoop_succ]
  simp only[go_sem,t3]
theorem reach_ok:∀(n:Nat) (t:TermT) (out:List ByteArray),okT t→closedT t=true→∀x∈reachT n t out,okT x∧closedT x=true
 | 0,t,out,hok,hc,x,hx=>by
  rw[reachT,List.mem_singleton] at hx
  subst hx
  exact ⟨hok,hc⟩
 |n+1,t,out,hok,hc,x,hx=>by
  rw[reachT] at hx
  split at hx
  ·rw[List.mem_singleton] at hx;subst hx;exact ⟨hok,hc⟩
  ·rename_i e
   have e:(stepT t).2.2=0:=by simpa using e
   split at hx
   ·rw[List.mem_singleton] at hx;subst hx;exact ⟨hok,hc⟩
   ·rcases List.mem_cons.1 hx with rfl|hx
    ·exact ⟨hok,hc⟩
    ·exact reach_ok n _ _ (step_ok hok e) (step_cl hok e) x hx
theorem run_len:∀(n:Nat) (t:TermT) (out:List ByteArray) (st:Int),out.length≤1000→(runT n t out st).2.1.length≤1000
 | 0,t,out,st,h=>by rw[runT];exact h
 |n+1,t,out,st,h=>by
  rw[runT]
  split
  ·simp
  ·split
   ·exact h
   ·split
    ·simp
    ·exact run_len n _ _ _ (by rw[List.length_append];omega)
theorem StepChains_of (t:TermT) (hok:okT t) (hwc:True) (b1:Int) (l1:0≤b1) (u1:b1≤255) (b2:Int) (l2:0≤b2) (u2:b2≤255)
  (hT:∀fuel:Int,Spec Tryz.prog 28 [pp (encT t),ii fuel] [] (.tuple [.slice ((traceTop t fuel).1.map encT),.int .i64 (traceTop t fuel).2]) [])
  (hCat:∀o rest:List ByteArray,o.length≤1000000→rest.length≤1000000→Spec Tryz.prog 40 [pp (.slice [.slice (o.map .str),.slice (rest.map .str)])] [] (.slice ((o++rest).map .str)) []) :
  Spec Tryz.prog 9 [pp (encT t),pp (.int .u8 b1),pp (.int .u8 b2)] [] (.bool true) []:=by
 have hAw:=sawake_spec
 have hB:=big_spec t
 have hN:=none16_spec
 have i1:IntKind.i64.wrap b1=b1:=wrap_id (by omega) (by omega)
 have i2:IntKind.i64.wrap b2=b2:=wrap_id (by omega) (by omega)
 have z60:((60:Int)=0)=False:=by simp
 have n1:0≤b1.tmod 60:=Int.tmod_nonneg 60 l1
 have n2:0≤b2.tmod 60:=Int.tmod_nonneg 60 l2
 have m1:b1.tmod 60<60:=Int.tmod_lt_of_pos b1 (by decide)
 have m2:b2.tmod 60<60:=Int.tmod_lt_of_pos b2 (by decide)
 have j1:IntKind.i64.wrap (b1.tmod 60)=b1.tmod 60:=wrap_id (by omega) (by omega)
 have j2:IntKind.i64.wrap (b2.tmod 60)=b2.tmod 60:=wrap_id (by omega) (by omega)
 obtain ⟨na,ha⟩:∃na:Nat,b1.tmod 60=na:=⟨(b1.tmod 60).toNat,by omega⟩
 obtain ⟨nb,hb⟩:∃nb:Nat,b2.tmod 60=nb:=⟨(b2.tmod 60).toNat,by omega⟩
 have j1:IntKind.i64.wrap (na:Int)=na:=wrap_id (by omega) (by omega)
 have j2:IntKind.i64.wrap (nb:Int)=nb:=wrap_id (by omega) (by omega)
 have w0:IntKind.i64.wrap ((na:Int)+(nb:Int))=(na:Int)+(nb:Int):=wrap_id (by omega) (by omega)
 have ba:na<60:=by omega
 have bb:nb<60:=by omega
 have hRa:=Run_spec t hok hwc na
 have hRab:=Run_spec t hok hwc ((na:Int)+(nb:Int))
 have hT:=hT ((na:Int)+(nb:Int))
 clear n1 n2 m1 m2 l1 l2 u1 u2
 generalize bigT t=g at hB
 cases g with
 |true=>
  clear hT hRa hRab
  refine wk (rv:=[.tmp 6]) ann9 198 Tryz.func9 ?_
  simp only[go_sem]
  refine aCall_intro hAw ?_
  simp only[go_sem,i1,i2,z60,ha,hb,j1,j2,encT_sz]
  refine aCall_intro hB ?_
  simp only[go_sem]
 |false=>
 cases hc:closedT t with
 |false=>
  rw[traceTop,if_pos hc] at hT
  rw[runTop,if_pos hc,encRun_mk] at hRa hRab
  refine wk (rv:=[.tmp 6]) ann9 198 Tryz.func9 ?_
  simp only[go_sem]
  refine aCall_intro hAw ?_
  simp only[go_sem,i1,i2,z60,ha,hb,j1,j2,encT_sz]
  refine aCall_intro hB ?_
  simp only[go_sem,w0,encT_sz]
  refine aCall_intro hT ?_
  simp only[go_sem,encT_sz]
  refine aCall_intro hRa ?_
  simp only[go_sem,w0,encT_sz]
  refine aCall_intro hRab ?_
  simp only[go_sem,encT_sz,Int.reduceBNe,Int.reduceBEq,List.map_nil,List.length_nil,Int.natCast_zero]
  refine aCall_intro hN ?_
  simp only[go_sem]
 |true=>
 have hnc:¬closedT t=false:=by rw[hc];decide
 rw[traceTop,if_neg hnc,if_neg (by omega)] at hT
 rw[runTop,if_neg hnc,if_neg (by omega)] at hRa hRab
 rw[show ((na:Int)+(nb:Int)).toNat=na+nb by omega] at hRab hT
 rw[Int.toNat_natCast] at hRa
 rcases chain na nb t hok hc with ⟨e,e0,e1⟩|⟨x,y,o,rest,pre,k,c1,c2,c3,c4,c5,c6,c7,c8,c9,c10,c11⟩
 ·rw[e1] at hRab hT
  rw[if_pos e0] at hT
  rw[encRun_mk] at hRab
  simp only at hT
  have f0:(e != 0)=true:=by simpa using e0
  have f1:(e==e)=true:=by simp
  generalize runT na t [] 0=r at hRa
  obtain ⟨r1,r2,r3,r4⟩:=r
  rw[encRun_mk] at hRa
  clear e1
  refine wk (rv:=[.tmp 6]) ann9 198 Tryz.func9 ?_
  simp only[go_sem]
  refine aCall_intro hAw ?_
  simp only[go_sem,i1,i2,z60,ha,hb,j1,j2,encT_sz]
  refine aCall_intro hB ?_
  simp only[go_sem,w0,encT_sz]
  refine aCall_intro hT ?_
  simp only[go_sem,encT_sz]
  refine aCall_intro hRa ?_
  simp only[go_sem,w0,encT_sz]
  refine aCall_intro hRab ?_
  simp only[go_sem,encT_sz,f0,f1,Int.reduceBNe,Int.reduceBEq,List.map_nil,List.length_nil,Int.natCast_zero]
  refine aCall_intro hN ?_
  simp only[go_sem]
 ·have hall:=reach_ok (na+nb) t [] hok hc
  have hstep:=reach_steps (na+nb) t []
  have hRx:=Run_spec x c8 trivial nb
  rw[runTop,if_neg (by rw[c9];decide),if_neg (by omega),Int.toNat_natCast,c10,encRun_mk] at hRx
  rw[c1,encRun_mk] at hRa
  rw[c2,encRun_mk] at hRab
  rw[c2,if_neg (fun h=>h rfl),c3] at hT
  rw[c3] at hall hstep
  simp only at hT
  have hy:=hall y (by simp)
  have hSy:=Step_spec y hy.1 trivial
  have hSa1:=rtSame_spec y y
  have hSa2:=rtSame_spec x x
  rw[sameT_refl] at hSa1 hSa2
  have lo:=run_len na t [] 0 (by simp)
  have lr:=run_len nb x [] 0 (by simp)
  rw[c1] at lo
  rw[c10] at lr
  simp only at lo lr
  have hC:=hCat o rest (by omega) (by omega)
  clear lo lr
  have hE:=EqualS (o++rest) (o++rest)
  rw[eqL_refl strEq (fun x=>by simp[strEq])] at hE
  have hlen:((pre++[y]).map encT).length=pre.length+1:=by simp
  have gy:((pre++[y]).map encT)[pre.length]? = some (encT y):=by simp
  have gx:((pre++[y]).map encT)[k]? = some (encT x):=by rw[List.getElem?_map,c7];rfl
  have hcells:∀(m:Nat) (z:TermT),(pre++[y])[m]? = some z→((pre++[y]).map encT)[m]? = some (encT z):=fun m z h=>by rw[List.getElem?_map,h];rfl
  have w1:IntKind.i64.wrap ((pre.length:Int)+1)=(pre.length:Int)+1:=wrap_id (by omega) (by omega)
  have f1:(((pre.length+1:Nat):Int) != (pre.length:Int)+1)=false:=by simp
  have f2:decide ((k:Int)>(na:Int))=false:=decide_eq_false (by omega)
  have f3:decide ((pre.length:Int)>(na:Int)+(nb:Int))=false:=decide_eq_false (by omega)
  have f4:∀i:Int,(i==i)=true:=fun i=>by simp
  have w2:IntKind.i64.wrap ((k:Int)+((pre.length:Int) - k))=(pre.length:Int):=by rw[wrap_id (by omega) (by omega)];omega
  have hsz:(((pre++[y]).map encT).all fun x=>PV.hasSz (.agg 18) x)=true:=by
   rw[List.all_eq_true]
   intro q hq
   obtain ⟨z,_,rfl⟩:=List.mem_map.1 hq
   exact encT_sz z
  have hge:(1:Int)≤((pre.length+1:Nat):Int):=by omega
  have hdl:(List.drop 1 (List.take (pre.length+1) ((pre++[y]).map encT))).length=pre.length:=by simp
  generalize hL:(pre++[y]).map encT=L at hT hlen gy gx hcells hsz hdl
  clear c1 c2 c3 c10
  refine wk (rv:=[.tmp 6]) ann9 198 Tryz.func9 ?_
  simp only[go_sem]
  refine aCall_intro hAw ?_
  simp only[go_sem,i1,i2,z60,ha,hb,j1,j2,encT_sz]
  refine aCall_intro hB ?_
  simp only[go_sem,w0,encT_sz]
  refine aCall_intro hT ?_
  simp only[go_sem,encT_sz]
  refine aCall_intro hRa ?_
  simp only[go_sem,w0,encT_sz]
  refine aCall_intro hRab ?_
  simp only[go_sem,encT_sz,Int.reduceBNe,Int.reduceBEq,hlen,w1,f1,Int.toNat_natCast,Int.natCast_nonneg,gy]
  refine aCall_intro hSa1 ?_
  simp only[go_sem,encT_sz,f2,f3,w0,Int.toNat_natCast,Int.natCast_nonneg,gx]
  refine aCall_intro hSa2 ?_
  simp only[go_sem,encT_sz,hlen,hsz,hge,hdl,Int.le_refl,and_self,Int.toNat_natCast]
  refine aLoop_list (α:=Unit) (β:=Nat) (fun rest' m=>⟨[(126,ii m),(9,pp (.slice L)),(16,pp (.slice ((o++rest).map .str))),(12,pp (.slice (o.map .str))),(17,ii pre.length),(13,ii k),(15,.one (.ptr (.loc 15) 0)),(8,ii nb),(11,.one (.ptr (.loc 11) 0)),(7,ii na),(125,ii pre.length)],[(.loc 11,⟨.agg 18,pp (encT x)⟩),(.loc 15,⟨.agg 18,pp (encT y)⟩)],[]⟩)
   (fun rest' m=>m+rest'.length=pre.length) ?_ ?_ (List.replicate pre.length ()) 0 _ ?_ (by simp)
  ·rintro m g K
   simp only[List.length_nil,Nat.add_zero] at g
   subst g
   by_cases hq:pre.length<na+nb
   ·have dq:decide ((pre.length:Int)<(na:Int)+(nb:Int))=true:=decide_eq_true (by omega)
    have he:=c11 hq
    generalize stepT y=r at hSy he
    obtain ⟨r1,r2,r3⟩:=r
    rw[encR_mk] at hSy
    simp only at he
    simp only[go_sem,lt_false (Int.le_refl _),w0,dq,encT_sz]
    refine aCall_intro hSy ?_
    rcases he with rfl|rfl
    all_goals
     simp only[go_sem,encT_sz,Int.reduceBNe]
     refine aCall_intro hRx ?_
     simp only[go_sem,encT_sz,Int.reduceBEq]
     refine aCall_intro hSa1 ?_
     simp only[go_sem,w2,f4,encT_sz]
     refine aCall_intro hC ?_
     simp only[go_sem]
     refine aCall_intro hE ?_
     simp only[go_sem]
   ·have dq:decide ((pre.length:Int)<(na:Int)+(nb:Int))=false:=decide_eq_false (by omega)
    simp only[go_sem,lt_false (Int.le_refl _),w0,dq,encT_sz]
    refine aCall_intro hRx ?_
    simp only[go_sem,encT_sz,Int.reduceBEq]
    refine aCall_intro hSa1 ?_
    simp only[go_sem,w2,f4,encT_sz]
    refine aCall_intro hC ?_
    simp only[go_sem]
    refine aCall_intro hE ?_
    simp only[go_sem]
  ·rintro _ rest' m g K hK
   simp only[List.length_cons] at g
   have hlt:decide ((m:Int)<(pre.length:Int))=true:=decide_eq_true (by omega)
   obtain ⟨z,hz⟩:∃z,(pre++[y])[m]? = some z:=⟨_,List.getElem?_eq_getElem (by simp;omega)⟩
   obtain ⟨z',hz'⟩:∃z,(pre++[y])[m+1]? = some z:=⟨_,List.getElem?_eq_getElem (by simp;omega)⟩
   obtain ⟨s1,s2⟩:=hstep m z z' hz hz'
   obtain ⟨q1,q2⟩:=hall z (List.mem_of_getElem? hz)
   have hSz:=Step_spec z q1 trivial
   have hSame:=rtSame_spec z' z'
   rw[sameT_refl] at hSame
   have gz:=hcells m z hz
   have gz':=hcells (m+1) z' hz'
   have w4:IntKind.i64.wrap ((m:Int)+1)=((m+1:Nat):Int):=by rw[wrap_id (by omega) (by omega)];simp
   generalize stepT z=r at hSz s1 s2
   obtain ⟨r1,r2,r3⟩:=r
   simp only at s1 s2
   subst s1 s2
   rw[encR_mk] at hSz
   simp only[go_sem,hlt,Int.toNat_natCast,Int.natCast_nonneg,gz,encT_sz]
   refine aCall_intro hSz ?_
   simp only[go_sem,w4,Int.toNat_natCast,Int.natCast_nonneg,gz',encT_sz,Int.reduceBNe]
   refine aCall_intro hSame ?_
   simp only[go_sem,w4]
   refine hK (m+1) _ ?_ (by omega)
   simp only[go_sem]
  ·simp only[go_sem,Int.natCast_zero]
theorem StepChains_spec (t:TermT) (hok:okT t) (hwc:True) (b1:Int) (l1:0≤b1) (u1:b1≤255) (b2:Int) (l2:0≤b2) (u2:b2≤255):Spec Tryz.prog 9 [pp (encT t),pp (.int .u8 b1),pp (.int .u8 b2)] [] (.bool true) []:=
 StepChains_of t hok hwc b1 l1 u1 b2 l2 u2 (Trace_spec t hok hwc) Concat_spec
theorem StepChains_all (t:TermT) (b1:Int) (l1:0≤b1) (u1:b1≤255) (b2:Int) (l2:0≤b2) (u2:b2≤255):Spec Tryz.prog 9 [pp (encT t),pp (.int .u8 b1),pp (.int .u8 b2)] [] (.bool true) []:=by
 cases hb:bigT t with
 |false=>exact StepChains_spec t (small_okT hb) trivial b1 l1 u1 b2 l2 u2
 |true=>
  have hAw:=sawake_spec
  have hB:=big_spec t
  rw[hb] at hB
  have i1:IntKind.i64.wrap b1=b1:=wrap_id (by omega) (by omega)
  have i2:IntKind.i64.wrap b2=b2:=wrap_id (by omega) (by omega)
  have z60:((60:Int)=0)=False:=by simp
  have n1:0≤b1.tmod 60:=Int.tmod_nonneg 60 l1
  have n2:0≤b2.tmod 60:=Int.tmod_nonneg 60 l2
  have m1:b1.tmod 60<60:=Int.tmod_lt_of_pos b1 (by decide)
  have m2:b2.tmod 60<60:=Int.tmod_lt_of_pos b2 (by decide)
  have j1:IntKind.i64.wrap (b1.tmod 60)=b1.tmod 60:=wrap_id (by omega) (by omega)
  have j2:IntKind.i64.wrap (b2.tmod 60)=b2.tmod 60:=wrap_id (by omega) (by omega)
  refine wk (rv:=[.tmp 6]) ann9 198 Tryz.func9 ?_
  simp only[go_sem]
  refine aCall_intro hAw ?_
  simp only[go_sem,i1,i2,z60,j1,j2,encT_sz]
  refine aCall_intro hB ?_
  simp only[go_sem]
end Go.Abs.Kon