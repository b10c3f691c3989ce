/- The walk of the reference's Trace. -/
import Derived.Test.YtafhcphggdipaaaGreatDoorStepF
import Derived.Test.YtafhcphggdipaaaGreatDoorTraceA
set_option linter.unusedSimpArgs false
set_option linter.unusedVariables false
namespace Go.Abs.Kon
open Go Go.Proofs Go.Abs
set_option maxRecDepth 100000
set_option maxHeartbeats 4000000
def accP (b:Bool) (es:List PV):SC:=if b then .own 78 .one es else .nilS
theorem accP_t (es:List PV):accP true es=.own 78 .one es:=rfl
theorem accP_f (es:List PV):accP false es=.nilS:=rfl
def encTr (r:List TermT×List ByteArray×Int):PV:=.tuple [.slice (r.1.map encT),.slice (r.2.1.map .str),.int .i64 r.2.2]
theorem encTr_mk (a:List TermT) (b:List ByteArray) (c:Int):encTr (a,b,c)=.tuple [.slice (a.map encT),.slice (b.map .str),.int .i64 c]:=rfl
theorem rTrace_spec (t:TermT) (hok:okT t) (fuel:Int) (h1:0≤fuel) (h2:fuel≤1000000):Spec Tryz.prog 31 [pp (encT t),ii fuel] [] (encTr (rtrT fuel.toNat t [t] [])) []:=by
 generalize hres:rtrT fuel.toNat t [t] []=res
 obtain ⟨k,hk⟩:∃k:Nat,fuel=k:=⟨fuel.toNat,by omega⟩
 subst hk
 rw[Int.toNat_natCast] at hres
 refine wk (rv:=[.tmp 4,.tmp 5,.tmp 6]) ann31 50 Tryz.func31 ?_
 simp only[go_sem,encT_sz]
 refine aLoop_list (α:=Unit) (β:=TermT×List ByteArray×Int×Bool×TermT×List TermT) (fun rest b=>⟨[(8,.one (accP b.2.2.2.1 (b.2.1.map .str))),(7,.one (.own (if b.2.2.2.1=true then 92 else 28) (.agg 18) ((b.2.2.2.2.1::b.2.2.2.2.2).map encT))),(9,ii b.2.2.1),(2,.one (.ptr (.loc 2) 0)),(1,ii k)],[(.loc 2,⟨.agg 18,pp (encT b.1)⟩)],[]⟩)
  (fun rest b=>b.2.2.1+(rest.length:Int)=k∧0≤b.2.2.1∧rtrT rest.length b.1 (b.2.2.2.2.1::b.2.2.2.2.2) b.2.1=res∧okT b.1∧b.2.1.length≤1000∧(b.2.2.2.1=false→b.2.1=[])∧b.2.2.2.2.2.length≤b.2.2.1.toNat) ?_ ?_ (List.replicate k ()) (t,[],0,false,t,[]) _ ?_ ⟨by simp,by simp,by simpa using hres,hok,by simp,fun _=>rfl,by simp⟩
 ·rintro ⟨x,out,i,fl,l0,l⟩ ⟨g1,g2,g3,g4,g5,g6,g7⟩ K
  simp only[List.length_nil] at g1 g3
  rw[rtrT] at g3
  subst g3
  rw[encTr_mk]
  have e:i=k:=by omega
  simp only at g6
  cases fl with
  |false=>
   obtain rfl:=g6 rfl
   simp only[go_sem,e,lt_false (Int.le_refl _),accP_f,encT_sz,List.map_nil,List.map_cons]
  |true=>
   simp only[go_sem,e,lt_false (Int.le_refl _),accP_t,encT_sz,List.map_cons]
 ·rintro _ rest ⟨x,out,i,fl,l0,l⟩ ⟨g1,g2,g3,g4,g5,g6,g7⟩ K hK
  simp only[List.length_cons] at g1 g2 g3 g4 g5 g6 g7
  have hS:=rStep_spec x g4
  have hlt:decide (i<(k:Int))=true:=decide_eq_true (by omega)
  have hko:=@rstep_ok x g4
  have hpr:(rstepT x).2.1.length≤1:=by rw[←step_eq g4];exact step_out g4
  rw[rtrT] at g3
  generalize rstepT x=r at hS g3 hko hpr
  obtain ⟨y,pr,e⟩:=r
  simp only[encR] at hS g3 hko hpr
  have w1:IntKind.i64.wrap (i+1)=i+1:=wrap_id (by omega) (by omega)
  by_cases e7:e=7
  ·subst e7
   rw[if_pos (.inl rfl)] at g3
   subst g3
   rw[encTr_mk]
   cases fl with
   |false=>
    obtain rfl:=g6 rfl
    simp only[go_sem,accP_f,hlt,encT_sz,List.map_cons,List.map_nil]
    refine aCall_intro hS ?_
    simp only[go_sem,encT_sz,Int.reduceBEq]
   |true=>
    simp only[go_sem,accP_t,hlt,encT_sz,List.map_cons]
    refine aCall_intro hS ?_
    simp only[go_sem,encT_sz,Int.reduceBEq]
  by_cases e23:e=23
  ·subst e23
   rw[if_pos (.inr rfl)] at g3
   subst g3
   rw[encTr_mk]
   cases fl with
   |false=>
    obtain rfl:=g6 rfl
    simp only[go_sem,accP_f,hlt,encT_sz,List.map_cons,List.map_nil]
    refine aCall_intro hS ?_
    simp only[go_sem,encT_sz,Int.reduceBEq]
   |true=>
    simp only[go_sem,accP_t,hlt,encT_sz,List.map_cons]
    refine aCall_intro hS ?_
    simp only[go_sem,encT_sz,Int.reduceBEq]
  have f7:(e==7)=false:=by simpa using e7
  have f23:(e==23)=false:=by simpa using e23
  rw[if_neg (by rintro (h|h);exact e7 h;exact e23 h)] at g3
  by_cases e0:e=0
  ·subst e0
   rw[if_neg (fun h=>h rfl)] at g3
   have hall:=strs_all pr
   have hlen:(out++pr).length=out.length+pr.length:=List.length_append
   have hb1:(out.length+pr.length)*16≤140737488355328:=by omega
   have hb2:out.length+pr.length≤maxLen:=by rw[maxLen_eq];omega
   have hb3:(l.length+1+1)*312≤140737488355328:=by omega
   have hb4:l.length+1+1≤maxLen:=by rw[maxLen_eq];omega
   by_cases hL:(out++pr).length>1000
   ·rw[if_pos hL] at g3
    subst g3
    rw[encTr_mk]
    have hL':decide (((out.length+pr.length:Nat):Int)>1000)=true:=decide_eq_true (by omega)
    cases fl with
    |false=>
     obtain rfl:=g6 rfl
     simp only[List.length_nil] at hL hlen
     omega
    |true=>
     rcases out with _|⟨o1,os⟩
     ·simp only[List.length_nil] at hL hlen
      omega
     ·simp only[List.length_cons] at hb1 hb2 hL'
      have e9:os.length+1+pr.length=os.length+pr.length+1:=by omega
      simp only[e9] at hL'
      simp only[go_sem,accP_t,hlt,encT_sz,List.map_cons]
      refine aCall_intro hS ?_
      simp only[go_sem,encT_sz,Int.reduceBEq,Int.reduceBNe,List.length_map,List.length_cons,List.length_append,List.cons_append,hall,hb1,hb2,hL',List.map_nil]
   ·rw[if_neg hL] at g3
    have hL':decide (((out.length+pr.length:Nat):Int)>1000)=false:=decide_eq_false (by omega)
    have hK':=fun s' hs=>hK (y,out++pr,i+1,true,l0,l++[y]) s' hs ⟨by simp only;omega,by simp only;omega,by simpa using g3,hko rfl,by simp only;omega,(fun h=>by cases h),(by simp only[List.length_append,List.length_cons,List.length_nil];omega)⟩
    clear hK hko g3
    cases fl with
    |false=>
     obtain rfl:=g6 rfl
     simp only[List.length_nil,Nat.zero_add] at hb1 hb2 hL'
     simp only[go_sem,accP_f,hlt,encT_sz,List.map_cons,List.map_nil]
     refine aCall_intro hS ?_
     simp only[go_sem,encT_sz,Int.reduceBEq,Int.reduceBNe,List.length_map,List.length_cons,List.length_nil,hall,hb1,hb2,hb3,hb4,hL',w1]
     refine hK' _ ?_
     simp only[go_sem,accP_t,List.map_append,List.nil_append,List.map_cons,List.map_nil,List.cons_append]
    |true=>
     rcases out with _|⟨o1,os⟩
     ·simp only[List.length_nil,Nat.zero_add] at hb1 hb2 hL'
      simp only[go_sem,accP_t,hlt,encT_sz,List.map_cons,List.map_nil]
      refine aCall_intro hS ?_
      simp only[go_sem,encT_sz,Int.reduceBEq,Int.reduceBNe,List.length_map,List.length_cons,List.length_nil,hall,hb1,hb2,hb3,hb4,hL',w1]
      refine hK' _ ?_
      simp only[go_sem,accP_t,List.map_append,List.nil_append,List.map_cons,List.map_nil,List.cons_append]
     ·simp only[List.length_cons] at hb1 hb2 hL'
      have e9:os.length+1+pr.length=os.length+pr.length+1:=by omega
      simp only[e9] at hL'
      simp only[go_sem,accP_t,hlt,encT_sz,List.map_cons]
      refine aCall_intro hS ?_
      simp only[go_sem,encT_sz,Int.reduceBEq,Int.reduceBNe,List.length_map,List.length_cons,List.length_append,List.cons_append,hall,hb1,hb2,hb3,hb4,hL',w1]
      refine hK' _ ?_
      simp only[go_sem,accP_t,List.map_append,List.cons_append,List.map_cons,List.map_nil]
  ·rw[if_pos e0] at g3
   subst g3
   rw[encTr_mk]
   have n0:(e != 0)=true:=by simpa using e0
   cases fl with
   |false=>
    obtain rfl:=g6 rfl
    simp only[go_sem,accP_f,hlt,encT_sz,List.map_cons,List.map_nil]
    refine aCall_intro hS ?_
    simp only[go_sem,encT_sz,f7,f23,n0]
   |true=>
    simp only[go_sem,accP_t,hlt,encT_sz,List.map_cons,List.map_nil]
    refine aCall_intro hS ?_
    simp only[go_sem,encT_sz,f7,f23,n0]
 ·simp only[go_sem,accP_f,List.length_replicate,List.map_nil,List.map_cons]
end Go.Abs.Kon