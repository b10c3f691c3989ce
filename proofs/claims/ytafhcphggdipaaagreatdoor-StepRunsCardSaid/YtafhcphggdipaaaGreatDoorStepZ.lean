/- Small steps. -/
import Derived.Test.YtafhcphggdipaaaGreatDoorStepY
set_option linter.unusedSimpArgs false
set_option linter.unusedVariables false
namespace Go.Abs.Kon
open Go Go.Proofs Go.Abs
set_option maxRecDepth 100000
set_option maxHeartbeats 4000000
@[go_sem] theorem bae:(ByteArray.mk #[])=ByteArray.empty:=rfl
def encQ (r:TermT×ByteArray×Bool×Bool):PV:=.tuple [encT r.1,.str r.2.1,.bool r.2.2.1,.bool r.2.2.2]
theorem encQ_mk (a:TermT) (b:ByteArray) (c d:Bool):encQ (a,b,c,d)=.tuple [encT a,.str b,.bool c,.bool d]:=rfl
theorem big_fail:numbT 4503599627370497 true=failT 2 4:=by rw[numbT,if_pos (.inr (.inr (by unfold mostN;decide)))]
theorem rprim_spec (n:Int) (s:ByteArray) (con to:ConT) (k:List KindT) (names:List ByteArray) (l:List TermT) (h:operOk n l) (hn1:1≤n) (hn2:n≤14) :
  Spec Tryz.prog 125 [pp (encT (.mk 18 n s con to k names l))] [] (encQ (rprimT n l)) []:=by
 obtain ⟨hl,hk⟩:=h
 have hg0:=hd_get hl
 have hgl:=last_get hl
 have hd1:=encT_cells (hdT l)
 have hd2:=encT_cells (lastT l)
 generalize hres:rprimT n l=res
 cases ht:textOp n with
 |false=>
  have hw:wantOp n=2:=want_int (by rw[ht];decide)
  have hf:=ht
  simp only[textOp,Bool.or_eq_false_iff] at hf
  obtain ⟨⟨⟨f10,f11⟩,f12⟩,f14⟩:=hf
  refine wf (rv:=[.cell 2 31,.tmp 3,.tmp 4,.tmp 5]) ann125 199 Tryz.func125 fun hfit=>?_
  have hlen:l.length≤9223372036854775807:=by
   simp only[argsFit,SV.pv?,SC.pv?,encT_mk,PV.fit,fitL,List.length_map,maxLen_eq] at hfit
   exact hfit.1.2.2.2.2.2.2.2.2.2.2.2.2.2.2.2.2.2.1.1
  clear hfit
  have wl:IntKind.i64.wrap ((l.length:Int) - 1)=((l.length - 1:Nat):Int):=by rw[wrap_id (by omega) (by omega)];omega
  simp only[go_sem,encT_mk,f10,f11,f12,f14]
  refine aLoop_list (α:=TermT) (β:=Nat) (fun rest m=>⟨[(2,.one (.ptr (.loc 2) 0)),(7,ii m),(6,ii 2),(1,pp (.ep (encT (.mk 18 n s con to k names l)) 0))],[(.loc 2,zboxT)],[]⟩)
   (fun rest m=>∃pre,l=pre++rest∧m=pre.length∧(rest.any fun x=>x.op != 2)=l.any fun x=>x.op != 2) ?_ ?_ l 0 _ ?_ ⟨[],rfl,rfl,rfl⟩
  ·rintro m ⟨pre,g1,g2,g3⟩ K
   simp only[List.append_nil] at g1
   have e:m=l.length:=by rw[g2,←g1]
   rw[List.any_nil] at g3
   have hne:¬(l.any fun x=>x.op != 2)=true:=by rw[←g3];decide
   clear g1 g2 g3
   obtain ⟨ra,rb⟩:=(hk (by rw[hw];exact hne)).2 (by rw[ht];decide)
   obtain rfl:res=(numsT n (hdT l).n (lastT l).n,ByteArray.empty,false,true):=by rw[←hres,rprimT,hw,if_neg hne,if_neg (by rw[ht];decide)]
   have ra':=ra
   have rb':=rb
   unfold mostN at ra' rb'
   have hM1:=magnitude_spec (hdT l).n ra.1 ra.2
   have hM2:=magnitude_spec (lastT l).n rb.1 rb.2
   have hMu:=numb_wrap (hdT l).n (lastT l).n rb
   have hqu:=quo_rng (hdT l).n (lastT l).n ra
   have hsh:=show_spec (hdT l).n ra.1 ra.2
   rw[show showB (hdT l).n=showS (hdT l).n from rfl] at hsh
   have hmk:mulOk (hdT l).n (lastT l).n=((hdT l).n==0||decide (absI (lastT l).n≤mostN.tdiv (absI (hdT l).n))):=rfl
   have hp0:(hdT l).n≠0→absI (hdT l).n≠0:=fun g=>by rw[absI_nat];omega
   have wq0:=quo_rng mostN (absI (hdT l).n) ⟨by decide,by decide⟩
   rw[encQ_mk]
   generalize (hdT l).n=a at *
   generalize (lastT l).n=b at *
   unfold mostN at hqu wq0
   have w1:IntKind.i64.wrap (a+b)=a+b:=wrap_id (by omega) (by omega)
   have w2:IntKind.i64.wrap (a - b)=a - b:=wrap_id (by omega) (by omega)
   have w3:IntKind.i64.wrap (0 - a)=0 - a:=wrap_id (by omega) (by omega)
   have w5:IntKind.i64.wrap (a.tdiv b)=a.tdiv b:=wrap_id (by omega) (by omega)
   have w6:IntKind.i64.wrap ((4503599627370496:Int).tdiv (absI a))=(4503599627370496:Int).tdiv (absI a):=wrap_id (by omega) (by omega)
   have nz:∀z:Int,z≠0→(z==0)=false:=fun z hz=>by simpa using hz
   have nz':∀z:Int,z≠0→(z != 0)=true:=fun z hz=>by simpa using hz
   by_cases n1:n=1
   ·subst n1
    rw[show numsT 1 a b=numbT (a+b) true from rfl]
    simp only[go_sem,e,lt_false (Int.le_refl _),hg0,hgl,wl,Int.toNat_natCast,Int.natCast_nonneg,Int.reduceToNat,Int.reduceBEq,encT_sz,encT_mk,hd1,hd2,List.length_map,zboxT,w1]
    repeat (refine ⟨by kernel_rfl,?_⟩;try simp only[go_sem,e,lt_false (Int.le_refl _),hg0,hgl,wl,Int.toNat_natCast,Int.natCast_nonneg,Int.reduceToNat,Int.reduceBEq,encT_sz,encT_mk,hd1,hd2,List.length_map,zboxT,w1])
    try kernel_rfl
    refine aCall_intro (rnumber_spec (a+b)) ?_
    simp only[go_sem,encT_sz,hd1,hd2,Int.reduceBEq,w1]
   by_cases n2:n=2
   ·subst n2
    rw[show numsT 2 a b=numbT (a - b) true from rfl]
    simp only[go_sem,e,lt_false (Int.le_refl _),hg0,hgl,wl,Int.toNat_natCast,Int.natCast_nonneg,Int.reduceToNat,Int.reduceBEq,encT_sz,encT_mk,hd1,hd2,List.length_map,zboxT,w2]
    repeat (refine ⟨by kernel_rfl,?_⟩;try simp only[go_sem,e,lt_false (Int.le_refl _),hg0,hgl,wl,Int.toNat_natCast,Int.natCast_nonneg,Int.reduceToNat,Int.reduceBEq,encT_sz,encT_mk,hd1,hd2,List.length_map,zboxT,w2])
    try kernel_rfl
    refine aCall_intro (rnumber_spec (a - b)) ?_
    simp only[go_sem,encT_sz,hd1,hd2,Int.reduceBEq,w2]
   by_cases n3:n=3
   ·subst n3
    have hN0:=rnumber_spec 4503599627370497
    rw[big_fail] at hN0
    rw[show numsT 3 a b=numbT (a*b) (mulOk a b) from rfl]
    by_cases a0:a=0
    ·subst a0
     rw[show mulOk 0 b=true from rfl]
     rw[show mulOk 0 b=true from rfl] at hMu
     have hN:=rnumber_spec (IntKind.i64.wrap (0*b))
     rw[hMu] at hN
     simp only[go_sem,e,lt_false (Int.le_refl _),hg0,hgl,wl,Int.toNat_natCast,Int.natCast_nonneg,Int.reduceToNat,Int.reduceBEq,encT_sz,encT_mk,hd1,hd2,List.length_map,zboxT]
     repeat (refine ⟨by kernel_rfl,?_⟩;try simp only[go_sem,e,lt_false (Int.le_refl _),hg0,hgl,wl,Int.toNat_natCast,Int.natCast_nonneg,Int.reduceToNat,Int.reduceBEq,encT_sz,encT_mk,hd1,hd2,List.length_map,zboxT])
     try kernel_rfl
     refine aCall_intro hN0 ?_
     simp only[go_sem,encT_sz,hd1,hd2,Int.reduceBEq]
     refine aCall_intro hN ?_
     simp only[go_sem,encT_sz]
    ·have hp:=hp0 a0
     have ea:=nz a a0
     rw[ea,Bool.false_or] at hmk
     rw[hmk]
     rw[hmk] at hMu
     unfold mostN at hMu ⊢
     generalize absI a=x at *
     generalize absI b=y at *
     cases hd:decide (y≤(4503599627370496:Int).tdiv x) with
     |true=>
      rw[hd] at hMu
      have hN:=rnumber_spec (IntKind.i64.wrap (a*b))
      rw[hMu] at hN
      simp only[go_sem,e,lt_false (Int.le_refl _),hg0,hgl,wl,Int.toNat_natCast,Int.natCast_nonneg,Int.reduceToNat,Int.reduceBEq,encT_sz,encT_mk,hd1,hd2,List.length_map,zboxT]
      repeat (refine ⟨by kernel_rfl,?_⟩;try simp only[go_sem,e,lt_false (Int.le_refl _),hg0,hgl,wl,Int.toNat_natCast,Int.natCast_nonneg,Int.reduceToNat,Int.reduceBEq,encT_sz,encT_mk,hd1,hd2,List.length_map,zboxT])
      try kernel_rfl
      refine aCall_intro hN0 ?_
      simp only[go_sem,encT_sz,hd1,hd2,Int.reduceBEq,ea]
      refine aCall_intro hM2 ?_
      simp only[go_sem,encT_sz,hd1,hd2]
      refine aCall_intro hM1 ?_
      simp only[go_sem,encT_sz,hd1,hd2,hp,if_false,w6,hd]
      try (refine ⟨by kernel_rfl,?_⟩;try simp only[go_sem,encT_sz,hd1,hd2,hp,if_false,w6,hd])
      refine aCall_intro hN ?_
      simp only[go_sem,encT_sz]
     |false=>
      rw[numbT,if_pos (.inl rfl)]
      simp only[go_sem,e,lt_false (Int.le_refl _),hg0,hgl,wl,Int.toNat_natCast,Int.natCast_nonneg,Int.reduceToNat,Int.reduceBEq,encT_sz,encT_mk,hd1,hd2,List.length_map,zboxT]
      repeat (refine ⟨by kernel_rfl,?_⟩;try simp only[go_sem,e,lt_false (Int.le_refl _),hg0,hgl,wl,Int.toNat_natCast,Int.natCast_nonneg,Int.reduceToNat,Int.reduceBEq,encT_sz,encT_mk,hd1,hd2,List.length_map,zboxT])
      try kernel_rfl
      refine aCall_intro hN0 ?_
      simp only[go_sem,encT_sz,hd1,hd2,Int.reduceBEq,ea]
      refine aCall_intro hM2 ?_
      simp only[go_sem,encT_sz,hd1,hd2]
      refine aCall_intro hM1 ?_
      simp only[go_sem,encT_sz,hd1,hd2,hp,if_false,w6,hd]
      try (refine ⟨by kernel_rfl,?_⟩;try simp only[go_sem,encT_sz,hd1,hd2,hp,if_false,w6,hd])
   by_cases n4:n=4
   ·subst n4
    by_cases b0:b=0
    ·subst b0
     rw[show numsT 4 a 0=failT 3 4 from rfl,encT_failT]
     simp only[go_sem,e,lt_false (Int.le_refl _),hg0,hgl,wl,Int.toNat_natCast,Int.natCast_nonneg,Int.reduceToNat,Int.reduceBEq,encT_sz,encT_mk,hd1,hd2,List.length_map,zboxT,bne_self_eq_false]
     repeat (refine ⟨by kernel_rfl,?_⟩;try simp only[go_sem,e,lt_false (Int.le_refl _),hg0,hgl,wl,Int.toNat_natCast,Int.natCast_nonneg,Int.reduceToNat,Int.reduceBEq,encT_sz,encT_mk,hd1,hd2,List.length_map,zboxT,bne_self_eq_false])
     try kernel_rfl
    ·have hN:=rnumber_spec (a.tdiv b)
     rw[show numsT 4 a b=numbT (a.tdiv b) true by simp[numsT,b0]]
     simp only[go_sem,e,lt_false (Int.le_refl _),hg0,hgl,wl,Int.toNat_natCast,Int.natCast_nonneg,Int.reduceToNat,Int.reduceBEq,encT_sz,encT_mk,hd1,hd2,List.length_map,zboxT,nz' b b0,b0,if_false,w5]
     repeat (refine ⟨by kernel_rfl,?_⟩;try simp only[go_sem,e,lt_false (Int.le_refl _),hg0,hgl,wl,Int.toNat_natCast,Int.natCast_nonneg,Int.reduceToNat,Int.reduceBEq,encT_sz,encT_mk,hd1,hd2,List.length_map,zboxT,nz' b b0,b0,if_false,w5])
     try kernel_rfl
     refine aCall_intro hN ?_
     simp only[go_sem,encT_sz]
   by_cases n5:n=5
   ·subst n5
    by_cases b0:b=0
    ·subst b0
     rw[show numsT 5 a 0=failT 3 4 from rfl,encT_failT]
     simp only[go_sem,e,lt_false (Int.le_refl _),hg0,hgl,wl,Int.toNat_natCast,Int.natCast_nonneg,Int.reduceToNat,Int.reduceBEq,encT_sz,encT_mk,hd1,hd2,List.length_map,zboxT,bne_self_eq_false]
     repeat (refine ⟨by kernel_rfl,?_⟩;try simp only[go_sem,e,lt_false (Int.le_refl _),hg0,hgl,wl,Int.toNat_natCast,Int.natCast_nonneg,Int.reduceToNat,Int.reduceBEq,encT_sz,encT_mk,hd1,hd2,List.length_map,zboxT,bne_self_eq_false])
     try kernel_rfl
    ·have hN:=rnumber_spec (a.tmod b)
     rw[show numsT 5 a b=numbT (a.tmod b) true by simp[numsT,b0]]
     simp only[go_sem,e,lt_false (Int.le_refl _),hg0,hgl,wl,Int.toNat_natCast,Int.natCast_nonneg,Int.reduceToNat,Int.reduceBEq,encT_sz,encT_mk,hd1,hd2,List.length_map,zboxT,nz' b b0,b0,if_false,w5]
     repeat (refine ⟨by kernel_rfl,?_⟩;try simp only[go_sem,e,lt_false (Int.le_refl _),hg0,hgl,wl,Int.toNat_natCast,Int.natCast_nonneg,Int.reduceToNat,Int.reduceBEq,encT_sz,encT_mk,hd1,hd2,List.length_map,zboxT,nz' b b0,b0,if_false,w5])
     try kernel_rfl
     refine aCall_intro hN ?_
     simp only[go_sem,encT_sz]
   by_cases n6:n=6
   ·subst n6
    rw[show numsT 6 a b=numbT (0 - a) true from rfl]
    simp only[go_sem,e,lt_false (Int.le_refl _),hg0,hgl,wl,Int.toNat_natCast,Int.natCast_nonneg,Int.reduceToNat,Int.reduceBEq,encT_sz,encT_mk,hd1,hd2,List.length_map,zboxT,w3]
    repeat (refine ⟨by kernel_rfl,?_⟩;try simp only[go_sem,e,lt_false (Int.le_refl _),hg0,hgl,wl,Int.toNat_natCast,Int.natCast_nonneg,Int.reduceToNat,Int.reduceBEq,encT_sz,encT_mk,hd1,hd2,List.length_map,zboxT,w3])
    try kernel_rfl
    refine aCall_intro (rnumber_spec (0 - a)) ?_
    simp only[go_sem,encT_sz,hd1,hd2,Int.reduceBEq,w3]
   by_cases n7:n=7
   ·subst n7
    rw[show numsT 7 a b=truthT (decide (a<b)) from rfl]
    simp only[go_sem,e,lt_false (Int.le_refl _),hg0,hgl,wl,Int.toNat_natCast,Int.natCast_nonneg,Int.reduceToNat,Int.reduceBEq,encT_sz,encT_mk,hd1,hd2,List.length_map,zboxT]
    repeat (refine ⟨by kernel_rfl,?_⟩;try simp only[go_sem,e,lt_false (Int.le_refl _),hg0,hgl,wl,Int.toNat_natCast,Int.natCast_nonneg,Int.reduceToNat,Int.reduceBEq,encT_sz,encT_mk,hd1,hd2,List.length_map,zboxT])
    try kernel_rfl
    refine aCall_intro (rtruth_spec (decide (a<b))) ?_
    simp only[go_sem,encT_sz,hd1,hd2,Int.reduceBEq]
   by_cases n8:n=8
   ·subst n8
    rw[show numsT 8 a b=truthT (decide (a≤b)) from rfl]
    simp only[go_sem,e,lt_false (Int.le_refl _),hg0,hgl,wl,Int.toNat_natCast,Int.natCast_nonneg,Int.reduceToNat,Int.reduceBEq,encT_sz,encT_mk,hd1,hd2,List.length_map,zboxT]
    repeat (refine ⟨by kernel_rfl,?_⟩;try simp only[go_sem,e,lt_false (Int.le_refl _),hg0,hgl,wl,Int.toNat_natCast,Int.natCast_nonneg,Int.reduceToNat,Int.reduceBEq,encT_sz,encT_mk,hd1,hd2,List.length_map,zboxT])
    try kernel_rfl
    refine aCall_intro (rtruth_spec (decide (a≤b))) ?_
    simp only[go_sem,encT_sz,hd1,hd2,Int.reduceBEq]
   by_cases n9:n=9
   ·subst n9
    rw[show numsT 9 a b=truthT (a==b) from rfl]
    simp only[go_sem,e,lt_false (Int.le_refl _),hg0,hgl,wl,Int.toNat_natCast,Int.natCast_nonneg,Int.reduceToNat,Int.reduceBEq,encT_sz,encT_mk,hd1,hd2,List.length_map,zboxT]
    repeat (refine ⟨by kernel_rfl,?_⟩;try simp only[go_sem,e,lt_false (Int.le_refl _),hg0,hgl,wl,Int.toNat_natCast,Int.natCast_nonneg,Int.reduceToNat,Int.reduceBEq,encT_sz,encT_mk,hd1,hd2,List.length_map,zboxT])
    try kernel_rfl
    refine aCall_intro (rtruth_spec (a==b)) ?_
    simp only[go_sem,encT_sz,hd1,hd2,Int.reduceBEq]
   by_cases n13:n=13
   ·subst n13
    rw[show numsT 13 a b=txtT (showS a) from rfl,encT_txtT]
    simp only[go_sem,e,lt_false (Int.le_refl _),hg0,hgl,wl,Int.toNat_natCast,Int.natCast_nonneg,Int.reduceToNat,Int.reduceBEq,encT_sz,encT_mk,hd1,hd2,List.length_map,zboxT]
    repeat (refine ⟨by kernel_rfl,?_⟩;try simp only[go_sem,e,lt_false (Int.le_refl _),hg0,hgl,wl,Int.toNat_natCast,Int.natCast_nonneg,Int.reduceToNat,Int.reduceBEq,encT_sz,encT_mk,hd1,hd2,List.length_map,zboxT])
    try kernel_rfl
    refine aCall_intro hsh ?_
    simp only[go_sem,encT_sz,hd1,hd2,Int.reduceBEq]
   exfalso
   simp only[textOp,Bool.or_eq_false_iff,beq_eq_false_iff_ne] at ht
   omega
  ·rintro x rest m ⟨pre,g1,g2,g3⟩ K hK
   have hx:(l.map encT)[m]? = some (encT x):=by simp[g1,g2]
   have hlt:(m:Int)<l.length:=by rw[g1,g2];simp;omega
   have hll:m<l.length:=by rw[g1,g2];simp
   have w4:IntKind.i64.wrap ((m:Int)+1)=((m+1:Nat):Int):=by rw[wrap_id (by omega) (by omega)];simp
   have hxc:=encT_cells x
   rw[List.any_cons] at g3
   cases hv:(x.op != 2) with
   |true=>
    rw[hv,Bool.true_or] at g3
    obtain rfl:res=(zeroT,ByteArray.empty,false,false):=by rw[←hres,rprimT,hw,if_pos g3.symm]
    rw[encQ_mk,encT_zero]
    simp only[go_sem,decide_eq_true hlt,Int.toNat_natCast,Int.natCast_nonneg,hx,encT_sz,encT_mk,List.length_map,hxc,hv,zboxT]
   |false=>
    rw[hv,Bool.false_or] at g3
    simp only[go_sem,decide_eq_true hlt,Int.toNat_natCast,Int.natCast_nonneg,hx,encT_sz,encT_mk,List.length_map,hxc,hv,w4,zboxT]
    refine hK (m+1) _ ?_ ⟨pre++[x],by simp[g1],by simp[g2],g3⟩
    simp only[go_sem,zboxT,encT_mk]
  ·simp only[go_sem,Int.natCast_zero,zboxT,encT_mk]
 |true=>
  have hw:wantOp n=3:=want_text ht
  have htt:textOp n=true:=ht
  have hf:n=10∨n=11∨n=12∨n=14:=by simp only[textOp,Bool.or_eq_true,beq_iff_eq] at ht;omega
  refine wf (rv:=[.cell 2 31,.tmp 3,.tmp 4,.tmp 5]) ann125 199 Tryz.func125 fun hfit=>?_
  have hlen:l.length≤9223372036854775807:=by
   simp only[argsFit,SV.pv?,SC.pv?,encT_mk,PV.fit,fitL,List.length_map,maxLen_eq] at hfit
   exact hfit.1.2.2.2.2.2.2.2.2.2.2.2.2.2.2.2.2.2.1.1
  clear hfit
  have wl:IntKind.i64.wrap ((l.length:Int) - 1)=((l.length - 1:Nat):Int):=by rw[wrap_id (by omega) (by omega)];omega
  have hf2:((n==10)=true)∨((n==10)=false∧(n==11)=true)∨((n==10)=false∧(n==11)=false∧(n==12)=true)∨((n==10)=false∧(n==11)=false∧(n==12)=false∧(n==14)=true):=by
   rcases hf with rfl|rfl|rfl|rfl<;>simp
  rcases hf2 with f|⟨f1,f⟩|⟨f1,f2,f⟩|⟨f1,f2,f3,f⟩
  all_goals
   try simp only[go_sem,encT_mk,f]
   try simp only[go_sem,encT_mk,f1,f]
   try simp only[go_sem,encT_mk,f1,f2,f]
   try simp only[go_sem,encT_mk,f1,f2,f3,f]
   refine aLoop_list (α:=TermT) (β:=Nat) (fun rest m=>⟨[(2,.one (.ptr (.loc 2) 0)),(7,ii m),(6,ii 3),(1,pp (.ep (encT (.mk 18 n s con to k names l)) 0))],[(.loc 2,zboxT)],[]⟩)
    (fun rest m=>∃pre,l=pre++rest∧m=pre.length∧(rest.any fun x=>x.op != 3)=l.any fun x=>x.op != 3) ?_ ?_ l 0 _ ?_ ⟨[],rfl,rfl,rfl⟩
   ·rintro m ⟨pre,g1,g2,g3⟩ K
    simp only[List.append_nil] at g1
    have e:m=l.length:=by rw[g2,←g1]
    rw[List.any_nil] at g3
    have hne:¬(l.any fun x=>x.op != 3)=true:=by rw[←g3];decide
    clear g1 g2 g3
    obtain ⟨q1,q2⟩:=(hk (by rw[hw];exact hne)).1 htt
    have hr:res=if n=14 then (unitT,(hdT l).s,true,true) else ((textsT n (hdT l).s (lastT l).s).1,ByteArray.empty,false,true):=by rw[←hres,rprimT,hw,if_neg hne,if_pos htt]
    generalize (hdT l).s=a at *
    generalize (lastT l).s=b at *
    have w1:IntKind.i64.wrap ((a.size:Int)+b.size)=(a.size:Int)+b.size:=wrap_id (by omega) (by omega)
    have hsz:a.size+b.size≤9223372036854775807:=by omega
    by_cases n14:n=14
    ·subst n14
     rw[if_pos rfl] at hr
     subst hr
     rw[encQ_mk,unitT,encT_nodeL,List.map_nil]
     simp only[go_sem,e,lt_false (Int.le_refl _),hg0,hgl,wl,Int.toNat_natCast,Int.natCast_nonneg,Int.reduceToNat,Int.reduceBEq,encT_sz,encT_mk,hd1,hd2,List.length_map,zboxT]
     repeat (refine ⟨by kernel_rfl,?_⟩;try simp only[go_sem,e,lt_false (Int.le_refl _),hg0,hgl,wl,Int.toNat_natCast,Int.natCast_nonneg,Int.reduceToNat,Int.reduceBEq,encT_sz,encT_mk,hd1,hd2,List.length_map,zboxT])
     try kernel_rfl
     try (refine ⟨by kernel_rfl,?_⟩;try simp only[go_sem,hd1,hd2])
    rw[if_neg n14] at hr
    subst hr
    rw[encQ_mk]
    by_cases n10:n=10
    ·subst n10
     rw[textsT,if_pos rfl]
     by_cases g:(a.size:Int)+b.size>16384
     ·rw[if_pos g,encT_failT]
      have g':decide ((a.size:Int)+b.size≤16384)=false:=decide_eq_false (by omega)
      simp only[go_sem,e,lt_false (Int.le_refl _),hg0,hgl,wl,Int.toNat_natCast,Int.natCast_nonneg,Int.reduceToNat,Int.reduceBEq,encT_sz,encT_mk,hd1,hd2,List.length_map,zboxT,w1,g']
      repeat (refine ⟨by kernel_rfl,?_⟩;try simp only[go_sem,e,lt_false (Int.le_refl _),hg0,hgl,wl,Int.toNat_natCast,Int.natCast_nonneg,Int.reduceToNat,Int.reduceBEq,encT_sz,encT_mk,hd1,hd2,List.length_map,zboxT,w1,g'])
      try kernel_rfl
     ·rw[if_neg g,encT_txtT]
      have g':decide ((a.size:Int)+b.size≤16384)=true:=decide_eq_true (by omega)
      simp only[go_sem,e,lt_false (Int.le_refl _),hg0,hgl,wl,Int.toNat_natCast,Int.natCast_nonneg,Int.reduceToNat,Int.reduceBEq,encT_sz,encT_mk,hd1,hd2,List.length_map,zboxT,w1,g',hsz]
      repeat (refine ⟨by kernel_rfl,?_⟩;try simp only[go_sem,e,lt_false (Int.le_refl _),hg0,hgl,wl,Int.toNat_natCast,Int.natCast_nonneg,Int.reduceToNat,Int.reduceBEq,encT_sz,encT_mk,hd1,hd2,List.length_map,zboxT,w1,g',hsz])
      try kernel_rfl
    by_cases n11:n=11
    ·subst n11
     have hN:=rnumber_spec a.size
     rw[textsT,if_neg (by decide),if_pos rfl]
     simp only[go_sem,e,lt_false (Int.le_refl _),hg0,hgl,wl,Int.toNat_natCast,Int.natCast_nonneg,Int.reduceToNat,Int.reduceBEq,encT_sz,encT_mk,hd1,hd2,List.length_map,zboxT]
     repeat (refine ⟨by kernel_rfl,?_⟩;try simp only[go_sem,e,lt_false (Int.le_refl _),hg0,hgl,wl,Int.toNat_natCast,Int.natCast_nonneg,Int.reduceToNat,Int.reduceBEq,encT_sz,encT_mk,hd1,hd2,List.length_map,zboxT])
     try kernel_rfl
     refine aCall_intro hN ?_
     simp only[go_sem,encT_sz]
    by_cases n12:n=12
    ·subst n12
     have hN:=rtruth_spec (a.toList==b.toList)
     rw[textsT,if_neg (by decide),if_neg (by decide),if_pos rfl]
     simp only[go_sem,e,lt_false (Int.le_refl _),hg0,hgl,wl,Int.toNat_natCast,Int.natCast_nonneg,Int.reduceToNat,Int.reduceBEq,encT_sz,encT_mk,hd1,hd2,List.length_map,zboxT]
     repeat (refine ⟨by kernel_rfl,?_⟩;try simp only[go_sem,e,lt_false (Int.le_refl _),hg0,hgl,wl,Int.toNat_natCast,Int.natCast_nonneg,Int.reduceToNat,Int.reduceBEq,encT_sz,encT_mk,hd1,hd2,List.length_map,zboxT])
     try kernel_rfl
     refine aCall_intro hN ?_
     simp only[go_sem,encT_sz]
    exfalso
    simp only[textOp,Bool.or_eq_true,beq_iff_eq] at htt
    omega
   ·rintro x rest m ⟨pre,g1,g2,g3⟩ K hK
    have hx:(l.map encT)[m]? = some (encT x):=by simp[g1,g2]
    have hlt:(m:Int)<l.length:=by rw[g1,g2];simp;omega
    have hll:m<l.length:=by rw[g1,g2];simp
    have w4:IntKind.i64.wrap ((m:Int)+1)=((m+1:Nat):Int):=by rw[wrap_id (by omega) (by omega)];simp
    have hxc:=encT_cells x
    rw[List.any_cons] at g3
    cases hv:(x.op != 3) with
    |true=>
     rw[hv,Bool.true_or] at g3
     obtain rfl:res=(zeroT,ByteArray.empty,false,false):=by rw[←hres,rprimT,hw,if_pos g3.symm]
     rw[encQ_mk,encT_zero]
     simp only[go_sem,decide_eq_true hlt,Int.toNat_natCast,Int.natCast_nonneg,hx,encT_sz,encT_mk,List.length_map,hxc,hv,zboxT]
    |false=>
     rw[hv,Bool.false_or] at g3
     simp only[go_sem,decide_eq_true hlt,Int.toNat_natCast,Int.natCast_nonneg,hx,encT_sz,encT_mk,List.length_map,hxc,hv,w4,zboxT]
     refine hK (m+1) _ ?_ ⟨pre++[x],by simp[g1],by simp[g2],g3⟩
     simp only[go_sem,zboxT,encT_mk]
   ·simp only[go_sem,Int.natCast_zero,zboxT,encT_mk]
theorem rS_spec {x b:TermT}(hx:validT x=true) (hxo:okT x) (hb:validT b=true) (hbo:okT b):Spec Tryz.prog 126 [pp (encT x),pp (encT b)] [] (encT (rsubT b x 0 0)) []:=by
 obtain ⟨a1,a2⟩:=valid_wf hx
 obtain ⟨b1,b2⟩:=valid_wf hb
 exact rtSubst_specV x b (wf_vok x a1) hxo (by omega) b1 hbo (wf_wc b b1) (by omega)
theorem rC_spec {x:TermT}{c:ConT}(hx:validT x=true) (hxo:okT x) (hc:validF c=true):Spec Tryz.prog 127 [pp (encT x),pp (.slice [encC c])] [] (encT (rsubC [c] x 0)) []:=by
 obtain ⟨a1,a2⟩:=valid_wf hx
 exact rtSubstCons_spec [c] (fun y hy=>by simp at hy;subst hy;exact ⟨(valid_dw hc).2,validF_formed hc⟩) (by simp) x a1 hxo (wf_wc x a1) (by omega)
theorem rcontr_spec (t:TermT) (hv:validT t=true) (hok:okT t):Spec Tryz.prog 88 [pp (encT t)] [] (encQ (rcontrT t)) []:=by
 have hlen:=vlen hv
 have hpv:=vpart hv
 have hpo:=okT_l hok
 have hn18:=vnode hv
 obtain ⟨op,n,s,con,to,k,names,l⟩:=t
 have hA:=ract_spec op n s con to k names l
 simp only[TermT.op,TermT.n,TermT.names,TermT.l] at hlen hpv hpo
 rw[rcontrT]
 by_cases h18:op=18
 ·subst h18
  have hr:1≤n∧n≤14:=by
   have:=(node_op hn18).2.2.1
   simp only[TermT.op,TermT.n] at this
   rw[numT,if_neg (by decide),if_neg (by decide),if_pos rfl] at this
   simpa only[Bool.and_eq_true,decide_eq_true_eq] using this
  have hO:=rprim_spec n s con to k names l (operOk_of hv) hr.1 hr.2
  rw[if_pos rfl]
  generalize rprimT n l=r at hO ⊢
  obtain ⟨r1,r2,r3,r4⟩:=r
  simp only[encT_mk,encQ] at hO ⊢
  clear hv hok hpv hpo hA hlen hn18
  refine wk (rv:=[.cell 2 31,.tmp 3,.tmp 4,.tmp 5]) ann88 185 Tryz.func88 ?_
  simp only[go_sem,encT_mk,Int.reduceBEq]
  refine aCall_intro hO ?_
  simp only[go_sem,encT_sz]
 clear hn18
 rw[if_neg h18]
 have f18:(op==18)=false:=by simpa using h18
 simp only[encT_mk] at hA
 by_cases ha:actT op l.length=0
 ·rw[if_pos (.inl ha),encQ_mk,encT_zero]
  rw[ha] at hA
  clear hv hok hpv hpo hlen
  refine wk (rv:=[.cell 2 31,.tmp 3,.tmp 4,.tmp 5]) ann88 185 Tryz.func88 ?_
  simp only[go_sem,encT_mk,f18]
  refine aCall_intro hA ?_
  simp only[go_sem,Int.natCast_zero,Int.reduceBEq]
 have e0:(((actT op l.length:Nat):Int)==0)=false:=by
  have:((actT op l.length:Nat):Int)≠0:=by omega
  simpa using this
 have hops:op=5∨op=7∨op=9∨op=11∨op=13∨op=15∨op=17∨(op=8∨op=10∨op=12∨op=14):=by
  rw[actT] at ha
  split at ha
  ·omega
  ·split at ha
   ·omega
   ·exact absurd rfl ha
 have hl0:0<l.length:=by
  rw[actT] at ha
  split at ha
  ·omega
  ·rename_i g1
   rw[partsT,if_neg (by omega)] at hlen
   repeat' split at hlen
   all_goals omega
 rw[if_neg (by rintro (e|e);exact ha e;rw[e] at hl0;cases hl0)]
 have eL:((l.length:Int)==0)=false:=by
  have:((l.length:Nat):Int)≠0:=by omega
  simpa using this
 have hg0:=hd_get hl0
 have hvv:=hpv _ (hd_mem hl0)
 have hvo:=hpo _ (hd_mem hl0)
 generalize actT op l.length=a at hA e0
 clear ha
 generalize hvd:hdT l=v at *
 rcases hops with h|h|h|h|h|h|h|h
 ·subst h
  have hg1:=snd_get (l:=l) (by rw[show l.length=2 from len2 hv (.inl rfl)];decide)
  have hwm:=snd_mem (l:=l) (by rw[show l.length=2 from len2 hv (.inl rfl)];decide)
  have hwv:=hpv _ hwm
  have hwo:=hpo _ hwm
  rw[rcontrN,if_pos rfl,hvd]
  generalize sndT l=w at *
  by_cases h4:v.op=4
  ·obtain ⟨x,hx⟩:=one_of hvv (.inl h4)
   have hS:=rS_spec (vpart hvv x (by rw[hx];simp)) (okT_l hvo x (by rw[hx];simp)) hwv hwo
   rw[if_pos h4,hx,show hdT [x]=x from rfl]
   simp only
   rw[encQ_mk]
   generalize rsubT w x 0 0=q at hS ⊢
   obtain ⟨op2,n2,s2,con2,to2,k2,names2,l2⟩:=v
   simp only[TermT.op,TermT.l] at h4 hx
   subst h4 hx
   clear hv hok hpv hpo hlen hl0 hvv hvo hvd hwm hwv hwo
   refine wk (rv:=[.cell 2 31,.tmp 3,.tmp 4,.tmp 5]) ann88 185 Tryz.func88 ?_
   simp only[go_sem,encT_mk,f18]
   refine aCall_intro hA ?_
   simp only[go_sem,e0,eL,hg0,List.length_map,Int.reduceBEq,Int.reduceToNat,encT_sz,encT_mk,List.map_cons,List.map_nil,hg1]
   refine aCall_intro hS ?_
   simp only[go_sem,encT_sz,encT_mk,List.map_cons,List.map_nil]
   repeat (refine ⟨by kernel_rfl,?_⟩;try simp only[go_sem,encT_sz,encT_mk,List.map_cons,List.map_nil])
   try kernel_rfl
  ·rw[if_neg h4]
   by_cases h16:v.op=16
   ·obtain ⟨x,hx⟩:=one_of hvv (by omega)
    have hS:=rS_spec (vpart hvv x (by rw[hx];simp)) (okT_l hvo x (by rw[hx];simp)) hvv hvo
    rw[hx,show hdT [x]=x from rfl]
    by_cases hx4:x.op=4
    ·rw[if_pos ⟨h16,hx4⟩]
     simp only
     rw[encQ_mk,encT_nodeL]
     generalize rsubT v x 0 0=q at hS ⊢
     obtain ⟨op2,n2,s2,con2,to2,k2,names2,l2⟩:=v
     obtain ⟨op3,n3,s3,con3,to3,k3,names3,l3⟩:=x
     simp only[TermT.op,TermT.l] at h16 hx hx4
     subst h16 hx hx4
     simp only[encT_mk,List.map_cons,List.map_nil] at hS
     clear hv hok hpv hpo hlen hl0 hvv hvo hvd hwm hwv hwo h4
     refine wk (rv:=[.cell 2 31,.tmp 3,.tmp 4,.tmp 5]) ann88 185 Tryz.func88 ?_
     simp only[go_sem,encT_mk,f18]
     refine aCall_intro hA ?_
     simp only[go_sem,e0,eL,hg0,List.length_map,Int.reduceBEq,Int.reduceToNat,encT_sz,encT_mk,List.map_cons,List.map_nil,hg1]
     refine aCall_intro hS ?_
     simp only[go_sem,encT_sz,encT_mk,List.map_cons,List.map_nil,hg1]
     repeat (refine ⟨by kernel_rfl,?_⟩;try simp only[go_sem,encT_sz,encT_mk,List.map_cons,List.map_nil])
     try kernel_rfl
    ·rw[if_neg (fun h=>hx4 h.2)]
     simp only
     rw[encQ_mk,encT_zero]
     obtain ⟨op2,n2,s2,con2,to2,k2,names2,l2⟩:=v
     obtain ⟨op3,n3,s3,con3,to3,k3,names3,l3⟩:=x
     simp only[TermT.op,TermT.l] at h16 hx hx4
     subst h16 hx
     replace hx4:=nbeq hx4
     clear hv hok hpv hpo hlen hl0 hvv hvo hvd hwm hwv hwo h4 hS
     refine wk (rv:=[.cell 2 31,.tmp 3,.tmp 4,.tmp 5]) ann88 185 Tryz.func88 ?_
     simp only[go_sem,encT_mk,f18]
     refine aCall_intro hA ?_
     simp only[go_sem,e0,eL,hg0,List.length_map,Int.reduceBEq,Int.reduceToNat,encT_sz,encT_mk,List.map_cons,List.map_nil,hx4]
   ·rw[if_neg (fun h=>h16 h.1)]
    simp only
    rw[encQ_mk,encT_zero]
    obtain ⟨op2,n2,s2,con2,to2,k2,names2,l2⟩:=v
    simp only[TermT.op] at h4 h16
    replace h4:=nbeq h4
    replace h16:=nbeq h16
    clear hv hok hpv hpo hlen hl0 hvv hvo hvd hwm hwv hwo
    refine wk (rv:=[.cell 2 31,.tmp 3,.tmp 4,.tmp 5]) ann88 185 Tryz.func88 ?_
    simp only[go_sem,encT_mk,f18]
    refine aCall_intro hA ?_
    simp only[go_sem,e0,eL,hg0,List.length_map,Int.reduceBEq,Int.reduceToNat,encT_sz,encT_mk,List.map_cons,List.map_nil,h4,h16]
 ·subst h
  have hc:validF con=true:=vcon hv (show hasConF 7=true by decide)
  rw[rcontrN,if_neg (by decide),if_pos rfl,hvd]
  by_cases h4:v.op=6
  ·obtain ⟨x,hx⟩:=one_of hvv (.inr (.inl h4))
   have hS:=rC_spec (vpart hvv x (by rw[hx];simp)) (okT_l hvo x (by rw[hx];simp)) hc
   rw[encC_cells,ConT.cells] at hS
   rw[if_pos h4,hx,show hdT [x]=x from rfl]
   simp only
   rw[encQ_mk]
   generalize rsubC [con] x 0=q at hS ⊢
   obtain ⟨op2,n2,s2,con2,to2,k2,names2,l2⟩:=v
   simp only[TermT.op,TermT.l] at h4 hx
   subst h4 hx
   clear hv hok hpv hpo hlen hl0 hvv hvo hvd
   refine wk (rv:=[.cell 2 31,.tmp 3,.tmp 4,.tmp 5]) ann88 185 Tryz.func88 ?_
   simp only[go_sem,encT_mk,f18]
   refine aCall_intro hA ?_
   simp only[go_sem,e0,eL,hg0,List.length_map,Int.reduceBEq,Int.reduceToNat,encT_sz,encT_mk,List.map_cons,List.map_nil]
   repeat (refine ⟨by kernel_rfl,?_⟩;try simp only[go_sem,encT_sz,encT_mk,List.map_cons,List.map_nil])
   try kernel_rfl
   refine aCall_intro hS ?_
   simp only[go_sem,encT_sz,encT_mk,List.map_cons,List.map_nil]
   repeat (refine ⟨by kernel_rfl,?_⟩;try simp only[go_sem,encT_sz,encT_mk,List.map_cons,List.map_nil])
   try kernel_rfl
  ·rw[if_neg h4]
   by_cases h16:v.op=16
   ·obtain ⟨x,hx⟩:=one_of hvv (by omega)
    have hS:=rS_spec (vpart hvv x (by rw[hx];simp)) (okT_l hvo x (by rw[hx];simp)) hvv hvo
    rw[hx,show hdT [x]=x from rfl]
    by_cases hx4:x.op=6
    ·rw[if_pos ⟨h16,hx4⟩]
     simp only
     rw[encQ_mk,encT_tappT]
     generalize rsubT v x 0 0=q at hS ⊢
     obtain ⟨op2,n2,s2,con2,to2,k2,names2,l2⟩:=v
     obtain ⟨op3,n3,s3,con3,to3,k3,names3,l3⟩:=x
     simp only[TermT.op,TermT.l] at h16 hx hx4
     subst h16 hx hx4
     simp only[encT_mk,List.map_cons,List.map_nil] at hS
     clear hv hok hpv hpo hlen hl0 hvv hvo hvd h4
     refine wk (rv:=[.cell 2 31,.tmp 3,.tmp 4,.tmp 5]) ann88 185 Tryz.func88 ?_
     simp only[go_sem,encT_mk,f18]
     refine aCall_intro hA ?_
     simp only[go_sem,e0,eL,hg0,List.length_map,Int.reduceBEq,Int.reduceToNat,encT_sz,encT_mk,List.map_cons,List.map_nil]
     refine aCall_intro hS ?_
     simp only[go_sem,encT_sz,encT_mk,List.map_cons,List.map_nil]
     repeat (refine ⟨by kernel_rfl,?_⟩;try simp only[go_sem,encT_sz,encT_mk,List.map_cons,List.map_nil])
     try kernel_rfl
    ·rw[if_neg (fun h=>hx4 h.2)]
     simp only
     rw[encQ_mk,encT_zero]
     obtain ⟨op2,n2,s2,con2,to2,k2,names2,l2⟩:=v
     obtain ⟨op3,n3,s3,con3,to3,k3,names3,l3⟩:=x
     simp only[TermT.op,TermT.l] at h16 hx hx4
     subst h16 hx
     replace hx4:=nbeq hx4
     clear hv hok hpv hpo hlen hl0 hvv hvo hvd h4 hS
     refine wk (rv:=[.cell 2 31,.tmp 3,.tmp 4,.tmp 5]) ann88 185 Tryz.func88 ?_
     simp only[go_sem,encT_mk,f18]
     refine aCall_intro hA ?_
     simp only[go_sem,e0,eL,hg0,List.length_map,Int.reduceBEq,Int.reduceToNat,encT_sz,encT_mk,List.map_cons,List.map_nil,hx4]
   ·rw[if_neg (fun h=>h16 h.1)]
    simp only
    rw[encQ_mk,encT_zero]
    obtain ⟨op2,n2,s2,con2,to2,k2,names2,l2⟩:=v
    simp only[TermT.op] at h4 h16
    replace h4:=nbeq h4
    replace h16:=nbeq h16
    clear hv hok hpv hpo hlen hl0 hvv hvo hvd
    refine wk (rv:=[.cell 2 31,.tmp 3,.tmp 4,.tmp 5]) ann88 185 Tryz.func88 ?_
    simp only[go_sem,encT_mk,f18]
    refine aCall_intro hA ?_
    simp only[go_sem,e0,eL,hg0,List.length_map,Int.reduceBEq,Int.reduceToNat,encT_sz,encT_mk,List.map_cons,List.map_nil,h4,h16]
 ·subst h
  have hg1:=snd_get (l:=l) (by rw[show l.length=2 from len2 hv (.inr (.inl rfl))];decide)
  have hwm:=snd_mem (l:=l) (by rw[show l.length=2 from len2 hv (.inr (.inl rfl))];decide)
  have hwv:=hpv _ hwm
  have hwo:=hpo _ hwm
  rw[rcontrN,if_neg (by decide),if_neg (by decide),if_pos rfl,hvd]
  generalize sndT l=w at *
  by_cases h8:v.op=8
  ·obtain ⟨x,hx⟩:=one_of hvv (by omega)
   have hc:=vcon hvv (by rw[h8];decide)
   have hxv:=vpart hvv x (by rw[hx];simp)
   have hxo:=okT_l hvo x (by rw[hx];simp)
   have hS:=rC_spec hwv hwo hc
   rw[encC_cells,ConT.cells] at hS
   have hS2:=rtSubst_specV (rsubC [v.con] w 0) x (vok_rsubC _ _ 0 (wf_vok _ (valid_wf hwv).1)) (okT_rsubC hc (okT_con8 hvo) (valid_wf hwv).1 hwo) (by rw[depth_rsubC];have:=(valid_wf hwv).2;omega) (valid_wf hxv).1 hxo (wf_wc _ (valid_wf hxv).1) (by have:=(valid_wf hxv).2;omega)
   rw[if_pos h8,hx,show hdT [x]=x from rfl]
   simp only
   rw[encQ_mk]
   generalize rsubC [v.con] w 0=r at hS hS2 ⊢
   generalize rsubT x r 0 0=q at hS2 ⊢
   obtain ⟨op2,n2,s2,con2,to2,k2,names2,l2⟩:=v
   simp only[TermT.op,TermT.l,TermT.con] at h8 hx hS
   subst h8 hx
   clear hv hok hpv hpo hlen hl0 hvv hvo hvd hwm hwv hwo hc hxv hxo
   refine wk (rv:=[.cell 2 31,.tmp 3,.tmp 4,.tmp 5]) ann88 185 Tryz.func88 ?_
   simp only[go_sem,encT_mk,f18]
   refine aCall_intro hA ?_
   simp only[go_sem,e0,eL,hg0,List.length_map,Int.reduceBEq,Int.reduceToNat,encT_sz,encT_mk,List.map_cons,List.map_nil,hg1]
   repeat (refine ⟨by kernel_rfl,?_⟩;try simp only[go_sem,encT_sz,encT_mk,List.map_cons,List.map_nil])
   try kernel_rfl
   refine aCall_intro hS ?_
   simp only[go_sem,encT_sz,encT_mk,List.map_cons,List.map_nil]
   repeat (refine ⟨by kernel_rfl,?_⟩;try simp only[go_sem,encT_sz,encT_mk,List.map_cons,List.map_nil])
   try kernel_rfl
   refine aCall_intro hS2 ?_
   simp only[go_sem,encT_sz,encT_mk,List.map_cons,List.map_nil]
   repeat (refine ⟨by kernel_rfl,?_⟩;try simp only[go_sem,encT_sz,encT_mk,List.map_cons,List.map_nil])
   try kernel_rfl
  ·rw[if_neg h8]
   simp only
   rw[encQ_mk,encT_zero]
   obtain ⟨op2,n2,s2,con2,to2,k2,names2,l2⟩:=v
   simp only[TermT.op] at h8
   replace h8:=nbeq h8
   clear hv hok hpv hpo hlen hl0 hvv hvo hvd hwm hwv hwo
   refine wk (rv:=[.cell 2 31,.tmp 3,.tmp 4,.tmp 5]) ann88 185 Tryz.func88 ?_
   simp only[go_sem,encT_mk,f18]
   refine aCall_intro hA ?_
   simp only[go_sem,e0,eL,hg0,List.length_map,Int.reduceBEq,Int.reduceToNat,encT_sz,encT_mk,List.map_cons,List.map_nil,h8]
 ·subst h
  have hF:=Find_spec v.names s
  have hf:=find_lt v.names s 0 (Int.le_refl _)
  have hg:v.op=10→0≤findS v.names s 0→(v.l.map encT)[(findS v.names s 0).toNat]? = some (encT (v.l.getD (findS v.names s 0).toNat zeroT)):=fun g1 g=>get_getD (by have:=hf g;have:=len10 hvv g1;omega)
  rw[rcontrN,if_neg (by decide),if_neg (by decide),if_neg (by decide),if_pos rfl,hvd]
  by_cases h10:v.op=10
  ·by_cases hz:0≤findS v.names s 0
   ·have hgg:=hg h10 hz
    clear hg hf
    rw[if_pos ⟨h10,hz⟩]
    simp only
    rw[encQ_mk]
    generalize findS v.names s 0=f at hF hz hgg ⊢
    generalize v.l.getD f.toNat zeroT=q at hgg ⊢
    have hz':decide (f≥0)=true:=decide_eq_true hz
    clear hv hok hpv hpo hlen hl0 hvv hvo hvd
    obtain ⟨op2,n2,s2,con2,to2,k2,names2,l2⟩:=v
    simp only[TermT.op,TermT.l,TermT.names] at h10 hF hgg
    subst h10
    refine wk (rv:=[.cell 2 31,.tmp 3,.tmp 4,.tmp 5]) ann88 185 Tryz.func88 ?_
    simp only[go_sem,encT_mk,f18]
    refine aCall_intro hA ?_
    simp only[go_sem,e0,eL,hg0,List.length_map,Int.reduceBEq,Int.reduceToNat,encT_sz,encT_mk,List.map_cons,List.map_nil]
    refine aCall_intro hF ?_
    simp only[go_sem,hz',hgg,hz,encT_sz,encT_mk,Int.reduceBEq]
    repeat (refine ⟨by kernel_rfl,?_⟩;try simp only[go_sem,hgg,hz,encT_sz])
    try kernel_rfl
   ·rw[if_neg (fun h=>hz h.2)]
    simp only
    rw[encQ_mk,encT_zero]
    clear hg hf
    generalize findS v.names s 0=f at hF hz ⊢
    have hz':decide (f≥0)=false:=decide_eq_false hz
    clear hv hok hpv hpo hlen hl0 hvv hvo hvd
    obtain ⟨op2,n2,s2,con2,to2,k2,names2,l2⟩:=v
    simp only[TermT.op,TermT.l,TermT.names] at h10 hF
    subst h10
    refine wk (rv:=[.cell 2 31,.tmp 3,.tmp 4,.tmp 5]) ann88 185 Tryz.func88 ?_
    simp only[go_sem,encT_mk,f18]
    refine aCall_intro hA ?_
    simp only[go_sem,e0,eL,hg0,List.length_map,Int.reduceBEq,Int.reduceToNat,encT_sz,encT_mk,List.map_cons,List.map_nil]
    refine aCall_intro hF ?_
    simp only[go_sem,hz',encT_sz,encT_mk,Int.reduceBEq]
  ·rw[if_neg (fun h=>h10 h.1)]
   simp only
   rw[encQ_mk,encT_zero]
   clear hg hf
   generalize findS v.names s 0=f at hF
   clear hv hok hpv hpo hlen hl0 hvv hvo hvd
   obtain ⟨op2,n2,s2,con2,to2,k2,names2,l2⟩:=v
   simp only[TermT.op,TermT.names] at h10 hF
   replace h10:=nbeq h10
   refine wk (rv:=[.cell 2 31,.tmp 3,.tmp 4,.tmp 5]) ann88 185 Tryz.func88 ?_
   simp only[go_sem,encT_mk,f18]
   refine aCall_intro hA ?_
   simp only[go_sem,e0,eL,hg0,List.length_map,Int.reduceBEq,Int.reduceToNat,encT_sz,encT_mk,List.map_cons,List.map_nil]
   refine aCall_intro hF ?_
   simp only[go_sem,h10,encT_sz,encT_mk,Int.reduceBEq]
 ·subst h
  have hF:=Find_spec names v.s
  have hf:=find_lt names v.s 0 (Int.le_refl _)
  have hll:l.length=names.length+1:=len13 hv rfl
  have hg:0≤findS names v.s 0→(l.map encT)[(findS names v.s 0).toNat+1]? = some (encT (l.getD ((findS names v.s 0).toNat+1) zeroT))∧validT (l.getD ((findS names v.s 0).toNat+1) zeroT)=true∧okT (l.getD ((findS names v.s 0).toNat+1) zeroT)∧findS names v.s 0≤1000000000:=fun g=>by
   have h1:=hf g
   have h2:=(okT_con hok).2.2.1
   exact ⟨get_getD (by omega),hpv _ (getD_mem (by omega)),hpo _ (getD_mem (by omega)),by omega⟩
  rw[rcontrN,if_neg (by decide),if_neg (by decide),if_neg (by decide),if_neg (by decide),if_pos rfl,hvd]
  by_cases h12:v.op=12
  ·obtain ⟨x,hx⟩:=one_of hvv (by omega)
   have hxv:=vpart hvv x (by rw[hx];simp)
   have hxo:=okT_l hvo x (by rw[hx];simp)
   rw[hx,show hdT [x]=x from rfl]
   by_cases hz:0≤findS names v.s 0
   ·obtain ⟨hgg,hyv,hyo,hfl⟩:=hg hz
    have hS:=rS_spec hyv hyo hxv hxo
    rw[if_pos ⟨h12,hz⟩]
    simp only
    rw[encQ_mk]
    clear hg hf hyv hyo
    generalize findS names v.s 0=f at hF hgg hfl hz hS ⊢
    generalize l.getD (f.toNat+1) zeroT=y at hgg hS ⊢
    generalize rsubT x y 0 0=q at hS ⊢
    have hz':decide (f≥0)=true:=decide_eq_true hz
    have w1:IntKind.i64.wrap (f+1)=f+1:=wrap_id (by omega) (by omega)
    have w2:(f+1).toNat=f.toNat+1:=by omega
    have w3:0≤f+1:=by omega
    clear hv hok hpv hpo hlen hl0 hvv hvo hvd hxv hxo hll
    obtain ⟨op2,n2,s2,con2,to2,k2,names2,l2⟩:=v
    simp only[TermT.op,TermT.l,TermT.s] at h12 hx hF
    subst h12 hx
    refine wk (rv:=[.cell 2 31,.tmp 3,.tmp 4,.tmp 5]) ann88 185 Tryz.func88 ?_
    simp only[go_sem,encT_mk,f18]
    refine aCall_intro hA ?_
    simp only[go_sem,e0,eL,hg0,List.length_map,Int.reduceBEq,Int.reduceToNat,encT_sz,encT_mk,List.map_cons,List.map_nil]
    refine aCall_intro hF ?_
    simp only[go_sem,hz',hgg,w1,w2,w3,encT_sz,encT_mk,Int.reduceBEq,List.map_cons,List.map_nil]
    repeat (refine ⟨by kernel_rfl,?_⟩;try simp only[go_sem,encT_sz])
    try kernel_rfl
    refine aCall_intro hS ?_
    simp only[go_sem,encT_sz]
    repeat (refine ⟨by kernel_rfl,?_⟩;try simp only[go_sem,encT_sz,encT_mk,List.map_cons,List.map_nil])
    try kernel_rfl
   ·rw[if_neg (fun h=>hz h.2)]
    simp only
    rw[encQ_mk,encT_zero]
    clear hg hf
    generalize findS names v.s 0=f at hF hz
    have hz':decide (f≥0)=false:=decide_eq_false hz
    clear hv hok hpv hpo hlen hl0 hvv hvo hvd hxv hxo hll
    obtain ⟨op2,n2,s2,con2,to2,k2,names2,l2⟩:=v
    simp only[TermT.op,TermT.l,TermT.s] at h12 hx hF
    subst h12 hx
    refine wk (rv:=[.cell 2 31,.tmp 3,.tmp 4,.tmp 5]) ann88 185 Tryz.func88 ?_
    simp only[go_sem,encT_mk,f18]
    refine aCall_intro hA ?_
    simp only[go_sem,e0,eL,hg0,List.length_map,Int.reduceBEq,Int.reduceToNat,encT_sz,encT_mk,List.map_cons,List.map_nil]
    refine aCall_intro hF ?_
    simp only[go_sem,hz',encT_sz,encT_mk,Int.reduceBEq,List.map_cons,List.map_nil]
  ·rw[if_neg (fun h=>h12 h.1)]
   simp only
   rw[encQ_mk,encT_zero]
   obtain ⟨op2,n2,s2,con2,to2,k2,names2,l2⟩:=v
   simp only[TermT.op,TermT.s] at h12 hF
   replace h12:=nbeq h12
   generalize findS names s2 0=f at hF
   clear hv hok hpv hpo hlen hl0 hvv hvo hvd hll hg hf
   refine wk (rv:=[.cell 2 31,.tmp 3,.tmp 4,.tmp 5]) ann88 185 Tryz.func88 ?_
   simp only[go_sem,encT_mk,f18]
   refine aCall_intro hA ?_
   simp only[go_sem,e0,eL,hg0,List.length_map,Int.reduceBEq,Int.reduceToNat,encT_sz,encT_mk,List.map_cons,List.map_nil]
   refine aCall_intro hF ?_
   simp only[go_sem,h12,encT_sz,encT_mk,Int.reduceBEq]
 ·subst h
  rw[rcontrN,if_neg (by decide),if_neg (by decide),if_neg (by decide),if_neg (by decide),if_neg (by decide),if_pos rfl,hvd]
  by_cases h14:v.op=14
  ·obtain ⟨x,hx⟩:=one_of hvv (by omega)
   rw[if_pos h14,hx,show hdT [x]=x from rfl]
   simp only
   rw[encQ_mk]
   obtain ⟨op2,n2,s2,con2,to2,k2,names2,l2⟩:=v
   simp only[TermT.op,TermT.l] at h14 hx
   subst h14 hx
   clear hv hok hpv hpo hlen hl0 hvv hvo hvd
   refine wk (rv:=[.cell 2 31,.tmp 3,.tmp 4,.tmp 5]) ann88 185 Tryz.func88 ?_
   simp only[go_sem,encT_mk,f18]
   refine aCall_intro hA ?_
   simp only[go_sem,e0,eL,hg0,List.length_map,Int.reduceBEq,Int.reduceToNat,encT_sz,encT_mk,List.map_cons,List.map_nil]
  ·rw[if_neg h14]
   simp only
   rw[encQ_mk,encT_zero]
   obtain ⟨op2,n2,s2,con2,to2,k2,names2,l2⟩:=v
   simp only[TermT.op] at h14
   replace h14:=nbeq h14
   clear hv hok hpv hpo hlen hl0 hvv hvo hvd
   refine wk (rv:=[.cell 2 31,.tmp 3,.tmp 4,.tmp 5]) ann88 185 Tryz.func88 ?_
   simp only[go_sem,encT_mk,f18]
   refine aCall_intro hA ?_
   simp only[go_sem,e0,eL,hg0,List.length_map,Int.reduceBEq,Int.reduceToNat,encT_sz,encT_mk,List.map_cons,List.map_nil,h14]
 ·subst h
  have hg1:=snd_get (l:=l) (by rw[show l.length=2 from len2 hv (.inr (.inr rfl))];decide)
  have hwm:=snd_mem (l:=l) (by rw[show l.length=2 from len2 hv (.inr (.inr rfl))];decide)
  have hS:=rS_spec (hpv _ hwm) (hpo _ hwm) hvv hvo
  rw[rcontrN,if_neg (by decide),if_neg (by decide),if_neg (by decide),if_neg (by decide),if_neg (by decide),if_neg (by decide),if_pos rfl,hvd]
  simp only
  rw[encQ_mk]
  generalize sndT l=w at *
  generalize rsubT v w 0 0=q at hS ⊢
  clear hv hok hpv hpo hlen hl0 hvv hvo hvd hwm
  refine wk (rv:=[.cell 2 31,.tmp 3,.tmp 4,.tmp 5]) ann88 185 Tryz.func88 ?_
  simp only[go_sem,encT_mk,f18]
  refine aCall_intro hA ?_
  simp only[go_sem,e0,eL,hg0,List.length_map,Int.reduceBEq,Int.reduceToNat,encT_sz,encT_mk,List.map_cons,List.map_nil,hg1]
  refine aCall_intro hS ?_
  simp only[go_sem,encT_sz,encT_mk,List.map_cons,List.map_nil]
  repeat (refine ⟨by kernel_rfl,?_⟩;try simp only[go_sem,encT_sz,encT_mk,List.map_cons,List.map_nil])
  try kernel_rfl
 ·have hcn:rcontrN op s con names l=none:=by rcases h with rfl|rfl|rfl|rfl<;>simp[rcontrN]
  rw[hcn]
  simp only
  rw[encQ_mk,encT_zero]
  clear hcn hvd
  clear hv hok hpv hpo hlen hl0 hvv hvo
  refine wk (rv:=[.cell 2 31,.tmp 3,.tmp 4,.tmp 5]) ann88 185 Tryz.func88 ?_
  rcases h with rfl|rfl|rfl|rfl
  all_goals
   simp only[go_sem,encT_mk,Int.reduceBEq]
   refine aCall_intro hA ?_
   simp only[go_sem,e0,eL,hg0,List.length_map,Int.reduceBEq,Int.reduceToNat,encT_sz,encT_mk]
end Go.Abs.Kon