/- Small steps. -/
import Derived.Test.YtafhcphggdipaaaGreatDoorStepA
import Derived.Test.YtafhcphggdipaaaGreatDoorStepX
import Derived.Lib.ItoaLen
set_option linter.unusedSimpArgs false
set_option linter.unusedVariables false
namespace Go.Abs.Kon
open Go Go.Proofs Go.Abs
set_option maxRecDepth 100000
set_option maxHeartbeats 4000000
theorem absI_nat (n:Int):absI n=(n.natAbs:Int):=by rw[absI];split<;>omega
theorem mul_fits {a b:Int}(h:mulOk a b=true) (_hb:-mostN≤b∧b≤mostN):-mostN≤a*b∧a*b≤mostN:=by
 by_cases h0:a=0
 ·subst h0;rw[Int.zero_mul];unfold mostN;omega
 ·rw[mulOk] at h
  have e0:(a==0)=false:=by simpa using h0
  rw[e0,Bool.false_or] at h
  have h:=of_decide_eq_true h
  rw[absI_nat,absI_nat] at h
  unfold mostN at h ⊢
  have e1:(4503599627370496:Int).tdiv (a.natAbs:Int)=((4503599627370496 / a.natAbs:Nat):Int):=rfl
  rw[e1] at h
  have h2:b.natAbs≤4503599627370496 / a.natAbs:=by omega
  have hp:0<a.natAbs:=by omega
  have h3:=(Nat.le_div_iff_mul_le hp).1 h2
  have h4:(a*b).natAbs=a.natAbs*b.natAbs:=Int.natAbs_mul a b
  rw[Nat.mul_comm] at h3
  rw[←h4] at h3
  omega
theorem numb_wrap (a b:Int) (hb:-mostN≤b∧b≤mostN):numbT (IntKind.i64.wrap (a*b)) (mulOk a b)=numbT (a*b) (mulOk a b):=by
 cases h:mulOk a b with
 |false=>rw[numbT,numbT,if_pos (.inl rfl),if_pos (.inl rfl)]
 |true=>
  have:=mul_fits h hb
  unfold mostN at this
  rw[wrap_id (by omega) (by omega)]
theorem quo_rng (a b:Int) (ha:-mostN≤a∧a≤mostN):-mostN≤a.tdiv b∧a.tdiv b≤mostN:=by
 have:(a.tdiv b).natAbs=a.natAbs / b.natAbs:=Int.natAbs_tdiv a b
 have h2:=Nat.div_le_self a.natAbs b.natAbs
 unfold mostN at *
 omega
theorem nums_spec (op a b:Int) (ha:-mostN≤a∧a≤mostN) (hb:-mostN≤b∧b≤mostN):Spec Tryz.prog 194 [ii op,ii a,ii b] [] (encT (numsT op a b)) []:=by
 have ha':=ha
 have hb':=hb
 unfold mostN at ha' hb'
 have w1:IntKind.i64.wrap (a+b)=a+b:=wrap_id (by omega) (by omega)
 have w2:IntKind.i64.wrap (a - b)=a - b:=wrap_id (by omega) (by omega)
 have w3:IntKind.i64.wrap (0 - a)=0 - a:=wrap_id (by omega) (by omega)
 by_cases h1:op=1
 ·subst h1
  have hN:=number_spec (a+b) true
  rw[numsT,if_pos rfl]
  refine wk (rv:=[.cell 6 31]) ann194 78 Tryz.func194 ?_
  simp only[go_sem,Int.reduceBEq,w1]
  refine aCall_intro hN ?_
  simp only[go_sem,encT_sz]
 rw[numsT,if_neg h1]
 by_cases h2:op=2
 ·subst h2
  have hN:=number_spec (a - b) true
  rw[if_pos rfl]
  refine wk (rv:=[.cell 6 31]) ann194 78 Tryz.func194 ?_
  simp only[go_sem,Int.reduceBEq,w2]
  refine aCall_intro hN ?_
  simp only[go_sem,encT_sz]
 rw[if_neg h2]
 by_cases h3:op=3
 ·subst h3
  rw[if_pos rfl,←numb_wrap a b hb]
  have hN:=number_spec (IntKind.i64.wrap (a*b)) (mulOk a b)
  rw[mulOk] at hN ⊢
  by_cases h0:a=0
  ·subst h0
   simp only[BEq.rfl,Bool.true_or] at hN ⊢
   refine wk (rv:=[.cell 6 31]) ann194 78 Tryz.func194 ?_
   simp only[go_sem,Int.reduceBEq]
   refine aCall_intro hN ?_
   simp only[go_sem,encT_sz]
  ·have e0:(a==0)=false:=by simpa using h0
   rw[e0,Bool.false_or] at hN ⊢
   have hS1:=size_spec a ha.1 ha.2
   have hS2:=size_spec b hb.1 hb.2
   have hp:absI a≠0:=by rw[absI_nat];omega
   have wq:=quo_rng mostN (absI a) ⟨by decide,by decide⟩
   unfold mostN at hN wq ⊢
   have w5:IntKind.i64.wrap ((4503599627370496:Int).tdiv (absI a))=(4503599627370496:Int).tdiv (absI a):=wrap_id (by omega) (by omega)
   generalize absI a=x at hS1 hp w5 hN ⊢
   generalize absI b=y at hS2 hN ⊢
   refine wk (rv:=[.cell 6 31]) ann194 78 Tryz.func194 ?_
   simp only[go_sem,Int.reduceBEq,e0]
   refine aCall_intro hS2 ?_
   simp only[go_sem]
   refine aCall_intro hS1 ?_
   simp only[go_sem,hp,if_false,w5]
   refine aCall_intro hN ?_
   simp only[go_sem,encT_sz]
 rw[if_neg h3]
 by_cases h6:op=6
 ·subst h6
  have hN:=number_spec (0 - a) true
  rw[if_pos rfl]
  refine wk (rv:=[.cell 6 31]) ann194 78 Tryz.func194 ?_
  simp only[go_sem,Int.reduceBEq,w3]
  refine aCall_intro hN ?_
  simp only[go_sem,encT_sz]
 rw[if_neg h6]
 by_cases h7:op=7
 ·subst h7
  have hN:=truth_spec (decide (a<b))
  rw[if_pos rfl]
  refine wk (rv:=[.cell 6 31]) ann194 78 Tryz.func194 ?_
  simp only[go_sem,Int.reduceBEq]
  refine aCall_intro hN ?_
  simp only[go_sem,encT_sz]
 rw[if_neg h7]
 by_cases h8:op=8
 ·subst h8
  have hN:=truth_spec (decide (a≤b))
  rw[if_pos rfl]
  refine wk (rv:=[.cell 6 31]) ann194 78 Tryz.func194 ?_
  simp only[go_sem,Int.reduceBEq]
  refine aCall_intro hN ?_
  simp only[go_sem,encT_sz]
 rw[if_neg h8]
 by_cases h9:op=9
 ·subst h9
  have hN:=truth_spec (a==b)
  rw[if_pos rfl]
  refine wk (rv:=[.cell 6 31]) ann194 78 Tryz.func194 ?_
  simp only[go_sem,Int.reduceBEq]
  refine aCall_intro hN ?_
  simp only[go_sem,encT_sz]
 rw[if_neg h9]
 by_cases h13:op=13
 ·subst h13
  have hN:=ItoaAll_spec a (by omega) (by omega)
  rw[show showB a=showS a from rfl] at hN
  rw[if_pos rfl,encT_txtT]
  refine wk (rv:=[.cell 6 31]) ann194 78 Tryz.func194 ?_
  simp only[go_sem,Int.reduceBEq]
  refine aCall_intro hN ?_
  simp only[go_sem]
 rw[if_neg h13]
 replace h1:=nbeq h1
 replace h2:=nbeq h2
 replace h3:=nbeq h3
 replace h6:=nbeq h6
 replace h7:=nbeq h7
 replace h8:=nbeq h8
 replace h9:=nbeq h9
 replace h13:=nbeq h13
 by_cases h0:b=0
 ·subst h0
  rw[if_pos rfl,encT_failT]
  refine wk (rv:=[.cell 6 31]) ann194 78 Tryz.func194 ?_
  simp only[go_sem,Int.reduceBEq,h1,h2,h3,h6,h7,h8,h9,h13]
 rw[if_neg h0]
 have e0:(b==0)=false:=by simpa using h0
 by_cases h4:op=4
 ·subst h4
  have wq:=quo_rng a b ha
  unfold mostN at wq
  have w5:IntKind.i64.wrap (a.tdiv b)=a.tdiv b:=wrap_id (by omega) (by omega)
  have hN:=number_spec (a.tdiv b) true
  rw[if_pos rfl]
  refine wk (rv:=[.cell 6 31]) ann194 78 Tryz.func194 ?_
  simp only[go_sem,Int.reduceBEq,e0,h0,if_false,w5]
  refine aCall_intro hN ?_
  simp only[go_sem,encT_sz]
 ·have hN:=number_spec (a.tmod b) true
  rw[if_neg h4]
  replace h4:=nbeq h4
  refine wk (rv:=[.cell 6 31]) ann194 78 Tryz.func194 ?_
  simp only[go_sem,h1,h2,h3,h4,h6,h7,h8,h9,h13,e0,h0,if_false]
  refine aCall_intro hN ?_
  simp only[go_sem,encT_sz]
theorem texts_spec (op:Int) (a b:ByteArray) (ha:(a.size:Int)≤16384) (hb:(b.size:Int)≤16384):Spec Tryz.prog 193 [ii op,pp (.str a),pp (.str b)] [] (.tuple [encT (textsT op a b).1,.slice ((textsT op a b).2.map .str)]) []:=by
 have w1:IntKind.i64.wrap ((a.size:Int)+b.size)=(a.size:Int)+b.size:=wrap_id (by omega) (by omega)
 by_cases h1:op=10
 ·subst h1
  rw[textsT,if_pos rfl]
  have hsz:a.size+b.size≤9223372036854775807:=by omega
  by_cases h2:(a.size:Int)+b.size>16384
  ·rw[if_pos h2,encT_failT]
   refine wk (rv:=[.cell 6 31,.tmp 7]) ann193 37 Tryz.func193 ?_
   simp only[go_sem,Int.reduceBEq,w1,decide_eq_true h2,List.map_nil]
  ·rw[if_neg h2,encT_txtT]
   refine wk (rv:=[.cell 6 31,.tmp 7]) ann193 37 Tryz.func193 ?_
   simp only[go_sem,Int.reduceBEq,w1,decide_eq_false h2,hsz,List.map_nil]
 rw[textsT,if_neg h1]
 by_cases h2:op=11
 ·subst h2
  have hN:=number_spec a.size true
  rw[if_pos rfl]
  refine wk (rv:=[.cell 6 31,.tmp 7]) ann193 37 Tryz.func193 ?_
  simp only[go_sem,Int.reduceBEq]
  refine aCall_intro hN ?_
  simp only[go_sem,encT_sz,List.map_nil]
 rw[if_neg h2]
 by_cases h3:op=12
 ·subst h3
  have hN:=truth_spec (a.toList==b.toList)
  rw[if_pos rfl]
  refine wk (rv:=[.cell 6 31,.tmp 7]) ann193 37 Tryz.func193 ?_
  simp only[go_sem,Int.reduceBEq]
  refine aCall_intro hN ?_
  simp only[go_sem,encT_sz,List.map_nil]
 rw[if_neg h3]
 replace h1:=nbeq h1
 replace h2:=nbeq h2
 replace h3:=nbeq h3
 have hU:=unit_spec
 refine wk (rv:=[.cell 6 31,.tmp 7]) ann193 37 Tryz.func193 ?_
 simp only[go_sem,h1,h2,h3]
 refine aCall_intro hU ?_
 simp only[go_sem,encT_sz,List.map_nil,List.map_cons]
theorem okT_mk {op n:Int}{s:ByteArray}{con:ConT}{l:List TermT}(hs:s.size≤100000000) (hc:okCon con) (hl:l.length≤1000000000) (h:∀x∈l,okT x):okT (.mk op n s con zeroC [] [] l):=by
 simp only[okT]
 exact ⟨hs,hc,okCon_zero,by rw[knL];decide,fun x hx=>by simp at hx,by decide,hl,okTs_mem.2 h⟩
theorem okCon_conZ (c:Int):okCon (conZ c):=⟨by rw[conZ,sizeF,sizeL];decide,by simp only[conZ,okS,okSs,and_true];exact ⟨by decide,fun x hx=>by simp at hx⟩⟩
theorem okS_unit:okS unitC:=by simp only[unitC,okS,okSs,and_true];exact ⟨by decide,fun x hx=>by simp at hx⟩
theorem okCon_sum:okCon sumC:=by
 refine ⟨by decide,?_⟩
 simp only[sumC,okS,okSs,and_true]
 refine ⟨by decide,fun x hx=>?_,okS_unit,okS_unit⟩
 simp only[List.mem_cons,List.not_mem_nil,or_false] at hx
 rcases hx with rfl|rfl<;>decide
theorem okCon_bool:okCon boolC:=by
 refine ⟨by decide,?_⟩
 show okS (.mk 13 0 ByteArray.empty [] [] [sumC])
 simp only[okS,okSs,and_true]
 exact ⟨by decide,fun x hx=>by simp at hx,okCon_sum.2⟩
theorem okT_nil {op n:Int}{s:ByteArray}{con:ConT}(hs:s.size≤100000000) (hc:okCon con):okT (.mk op n s con zeroC [] [] []):=okT_mk hs hc (by simp) fun x hx=>by simp at hx
theorem okT_fail (n c:Int):okT (failT n c):=okT_nil (by decide) (okCon_conZ c)
theorem okT_int (n:Int):okT (intT n):=okT_nil (by decide) okCon_zero
theorem okT_numb (n:Int) (b:Bool):okT (numbT n b):=by
 rw[numbT]
 split
 ·exact okT_fail _ _
 ·exact okT_int _
theorem okT_unit:okT unitT:=okT_nil (by decide) okCon_zero
theorem okT_truth (b:Bool):okT (truthT b):=by
 refine okT_mk (by decide) okCon_bool (by simp) fun x hx=>?_
 simp only[List.mem_cons,List.not_mem_nil,or_false] at hx
 subst hx
 refine okT_mk (by cases b<;>decide) okCon_sum (by simp) fun x hx=>?_
 simp only[List.mem_cons,List.not_mem_nil,or_false] at hx
 subst hx
 exact okT_unit
theorem show_size (n:Int) (h0:-9223372036854775808≤n) (h1:n≤9223372036854775807):(showS n).size≤21:=by
 have:=Lib.itoa_length_le n h0 h1
 show ((Lib.itoa n).toArray).size≤21
 simpa using this
theorem int_rng {t:TermT}(h:validT t=true) (ho:t.op=2):-mostN≤t.n∧t.n≤mostN:=by
 have:=(node_op (vnode h)).2.2.1
 rw[ho,numT,if_neg (by decide),if_pos rfl] at this
 simp only[Bool.and_eq_true,decide_eq_true_eq] at this
 exact this
theorem okT_nums (op a b:Int) (h:-mostN≤a∧a≤mostN):okT (numsT op a b):=by
 have hs:=show_size a (by have:=h.1;unfold mostN at this;omega) (by have:=h.2;unfold mostN at this;omega)
 rw[numsT]
 repeat' split
 all_goals first
  |exact okT_numb _ _
  |exact okT_truth _
  |exact okT_fail _ _
  |exact okT_nil (by omega) okCon_zero
theorem okT_texts (op:Int) (a b:ByteArray) (h:(a.size:Int)≤100000000):okT (textsT op a b).1:=by
 rw[textsT]
 by_cases h1:op=10
 ·rw[if_pos h1]
  by_cases h2:(a.size:Int)+b.size>16384
  ·rw[if_pos h2];exact okT_fail _ _
  ·rw[if_neg h2]
   refine okT_nil ?_ okCon_zero
   rw[ByteArray.size_append];omega
 ·rw[if_neg h1]
  by_cases h2:op=11
  ·rw[if_pos h2];exact okT_numb _ _
  ·rw[if_neg h2]
   by_cases h3:op=12
   ·rw[if_pos h3];exact okT_truth _
   ·rw[if_neg h3];exact okT_unit
theorem prim_args {n:Int}{s:ByteArray}{con to:ConT}{k:List KindT}{names:List ByteArray}{l:List TermT}(h:validT (.mk 18 n s con to k names l)=true) (e:¬l.any (fun x=>x.op != wantOp n)=true) :
  0<l.length∧validT (hdT l)=true∧validT (lastT l)=true∧(hdT l).op=wantOp n∧(lastT l).op=wantOp n:=by
 have hl:(l.length:Int)=arityF n:=len18 h rfl
 have:=arityF_le n
 have h0:0<l.length:=by omega
 have hp:=valid_parts_T h
 have ho:∀x∈l,x.op=wantOp n:=fun x hx=>by
  simp only[List.any_eq_true,not_exists,not_and] at e
  simpa using e x hx
 exact ⟨h0,hp _ (hd_mem h0),hp _ (last_mem h0),ho _ (hd_mem h0),ho _ (last_mem h0)⟩
theorem want_text {n:Int}(h:textOp n=true):wantOp n=3:=by rw[wantOp,if_pos h]
theorem want_int {n:Int}(h:¬textOp n=true):wantOp n=2:=by rw[wantOp,if_neg h]
theorem txt_rng {t:TermT}(h:validT t=true) (ho:t.op=3):(t.s.size:Int)≤16384:=by
 have:=(node_op (vnode h)).2.2.2.2.1
 rw[ho,textT,if_pos rfl] at this
 exact of_decide_eq_true this
theorem okT_contrN {op n:Int}{s:ByteArray}{con to:ConT}{k:List KindT}{names:List ByteArray}{l:List TermT}(h:validT (.mk op n s con to k names l)=true) (hok:okT (.mk op n s con to k names l)) (hl:0<l.length) {r:TermT}(e:rcontrN op s con names l=some r):okT r:=by
 have hp:=valid_parts_T h
 have hpo:=okTs_mem.1 (okT_con hok).2.2.2
 have hv:=hp _ (hd_mem hl)
 have hvo:=hpo _ (hd_mem hl)
 have ih:∀{t:TermT},validT t=true→okT t→(t.op=4∨t.op=6∨t.op=7∨t.op=8∨t.op=11∨t.op=12∨t.op=14∨t.op=15∨t.op=16)→okT (hdT t.l):=fun h1 h2 ho=>okT_l h2 _ (hd_mem (by rw[len1 h1 ho];decide))
 have two:∀{x y:TermT}{op':Int},okT x→okT y→okT (nodeL op' [x,y]):=fun h1 h2=>okT_mk (by decide) okCon_zero (by simp) fun z hz=>by
  simp only[List.mem_cons,List.not_mem_nil,or_false] at hz
  rcases hz with rfl|rfl
  ·exact h1
  ·exact h2
 rw[rcontrN] at e
 by_cases h5:op=5
 ·have hm:=snd_mem (l:=l) (by rw[show l.length=2 from len2 h (.inl h5)];decide)
  rw[if_pos h5] at e
  split at e
  ·rename_i g
   cases e
   exact okT_rsub (valid_wf (hp _ hm)).1 (hpo _ hm) _ 0 0 (ih hv hvo (.inl g))
  ·split at e
   ·rename_i g
    cases e
    exact two (okT_rsub (valid_wf hv).1 hvo _ 0 0 (ih hv hvo (by omega))) (hpo _ hm)
   ·cases e
 ·rw[if_neg h5] at e
  by_cases h7:op=7
  ·have hc:validF con=true:=(node_con (vnode h)).1 (show hasConF op=true by rw[h7];decide)
   rw[if_pos h7] at e
   split at e
   ·rename_i g
    cases e
    exact okT_rsubC hc (okT_con hok).1 (valid_wf (inner_valid hv (by omega))).1 (ih hv hvo (by omega))
   ·split at e
    ·rename_i g
     cases e
     have hcs:okCon con:=by simp only[okT] at hok;exact hok.2.1
     refine okT_mk (by decide) hcs (by simp) fun z hz=>?_
     simp only[List.mem_cons,List.not_mem_nil,or_false] at hz
     subst hz
     exact okT_rsub (valid_wf hv).1 hvo _ 0 0 (ih hv hvo (by omega))
    ·cases e
  ·rw[if_neg h7] at e
   by_cases h9:op=9
   ·have hm:=snd_mem (l:=l) (by rw[show l.length=2 from len2 h (.inr (.inl h9))];decide)
    rw[if_pos h9] at e
    split at e
    ·rename_i g
     cases e
     have hi:=inner_valid hv (by omega)
     exact okT_rsub (valid_wf hi).1 (ih hv hvo (by omega)) _ 0 0 (okT_rsubC (vcon hv (by rw[g];decide)) (okT_con8 hvo) (valid_wf (hp _ hm)).1 (hpo _ hm))
    ·cases e
   ·rw[if_neg h9] at e
    by_cases h11:op=11
    ·rw[if_pos h11] at e
     split at e
     ·rename_i g
      cases e
      have hf:=find_lt _ _ 0 (Int.le_refl _) g.2
      have hll:=len10 hv g.1
      exact okT_l hvo _ (getD_mem (by omega))
     ·cases e
    ·rw[if_neg h11] at e
     by_cases h13:op=13
     ·have hll:l.length=names.length+1:=len13 h h13
      rw[if_pos h13] at e
      split at e
      ·rename_i g
       cases e
       have hf:=find_lt _ _ 0 (Int.le_refl _) g.2
       have hm:=getD_mem (l:=l) (i:=(findS names (hdT l).s 0).toNat+1) (by omega)
       exact okT_rsub (valid_wf (inner_valid hv (by omega))).1 (ih hv hvo (by omega)) _ 0 0 (hpo _ hm)
      ·cases e
     ·rw[if_neg h13] at e
      by_cases h15:op=15
      ·rw[if_pos h15] at e
       split at e
       ·rename_i g
        cases e
        exact ih hv hvo (by omega)
       ·cases e
      ·rw[if_neg h15] at e
       by_cases h17:op=17
       ·have hm:=snd_mem (l:=l) (by rw[show l.length=2 from len2 h (.inr (.inr h17))];decide)
        rw[if_pos h17] at e
        cases e
        exact okT_rsub (valid_wf hv).1 hvo _ 0 0 (hpo _ hm)
       ·rw[if_neg h17] at e;cases e
theorem rcontr_pos {op n:Int}{s:ByteArray}{con to:ConT}{k:List KindT}{names:List ByteArray}{l:List TermT}(h:validT (.mk op n s con to k names l)=true) (ha:¬(actT op l.length=0∨l=[])):0<l.length:=by
 cases l with
 |nil=>exact absurd (.inr rfl) ha
 |cons x r=>simp
theorem okT_contr {t:TermT}(h:validT t=true) (hok:okT t):okT (rcontrT t).1:=by
 obtain ⟨op,n,s,con,to,k,names,l⟩:=t
 rw[rcontrT]
 by_cases h18:op=18
 ·rw[if_pos h18,rprimT]
  subst h18
  by_cases e:l.any (fun x=>x.op != wantOp n)=true
  ·rw[if_pos e];exact okT_zero
  ·obtain ⟨h0,g1,g2,g3,g4⟩:=prim_args h e
   rw[if_neg e]
   by_cases e1:textOp n=true
   ·rw[want_text e1] at g3
    rw[if_pos e1]
    split
    ·exact okT_unit
    ·exact okT_texts _ _ _ (by have:=txt_rng g1 g3;omega)
   ·rw[want_int e1] at g3
    rw[if_neg e1]
    exact okT_nums _ _ _ (int_rng g1 g3)
 ·rw[if_neg h18]
  by_cases ha:actT op l.length=0∨l=[]
  ·rw[if_pos ha];exact okT_zero
  ·rw[if_neg ha]
   cases e:rcontrN op s con names l with
   |none=>exact okT_zero
   |some r=>exact okT_contrN h hok (rcontr_pos h ha) e
theorem okT_rstep {t:TermT}(h:validT t=true) (hok:okT t):okT (rbT (rcontrT (nextT t)).1 t):=by
 obtain ⟨h1,h2⟩:=next_valid t h hok
 exact okT_reb (okT_contr h1 h2) t hok
theorem encT_cells (t:TermT):encT t=.agg [.int .i64 t.op,.int .i64 t.n,.str t.s,.int .i64 t.con.op,.int .i64 t.con.n,.str t.con.s,.slice (t.con.k.map encK),.slice (t.con.names.map .str),.slice (t.con.l.map encC),
   .int .i64 t.to.op,.int .i64 t.to.n,.str t.to.s,.slice (t.to.k.map encK),.slice (t.to.names.map .str),.slice (t.to.l.map encC),.slice (t.k.map encK),.slice (t.names.map .str),.slice (t.l.map encT)]:=by cases t;rw[encT_mk];rfl
def encR (r:TermT×List ByteArray×Int):PV:=.tuple [encT r.1,.slice (r.2.1.map .str),.int .i64 r.2.2]
theorem encR_mk (a:TermT) (b:List ByteArray) (c:Int):encR (a,b,c)=.tuple [encT a,.slice (b.map .str),.int .i64 c]:=rfl
theorem hd_get {l:List TermT}(h:0<l.length):(l.map encT)[0]? = some (encT (hdT l)):=by
 cases l with
 |nil=>cases h
 |cons x r=>simp[hdT]
theorem snd_get {l:List TermT}(h:1<l.length):(l.map encT)[1]? = some (encT (sndT l)):=by
 cases l with
 |nil=>cases h
 |cons x r=>
  cases r with
  |nil=>simp at h
  |cons y r=>simp[sndT,hdT]
theorem lastD_get:∀(r:List TermT) (x:TermT),(x::r)[r.length]? = some (r.getLastD x)
 | [],x=>rfl
 |y::r,x=>by rw[List.getLastD_cons,List.length_cons,List.getElem?_cons_succ];exact lastD_get r y
theorem last_get {l:List TermT}(h:0<l.length):(l.map encT)[l.length - 1]? = some (encT (lastT l)):=by
 cases l with
 |nil=>cases h
 |cons x r=>
  rw[List.getElem?_map,List.length_cons,Nat.add_sub_cancel,lastD_get,lastT,List.getLastD_cons];rfl
theorem get_getD {l:List TermT}{i:Nat}(h:i<l.length):(l.map encT)[i]? = some (encT (l.getD i zeroT)):=by
 simp[List.getD,h]
def operOk (n:Int) (l:List TermT):Prop:=0<l.length∧(¬l.any (fun x=>x.op != wantOp n)=true →
 (textOp n=true→((hdT l).s.size:Int)≤16384∧((lastT l).s.size:Int)≤16384)∧(¬textOp n=true→(-mostN≤(hdT l).n∧(hdT l).n≤mostN)∧(-mostN≤(lastT l).n∧(lastT l).n≤mostN)))
theorem operOk_of {n:Int}{s:ByteArray}{con to:ConT}{k:List KindT}{names:List ByteArray}{l:List TermT}(h:validT (.mk 18 n s con to k names l)=true):operOk n l:=by
 have hl:(l.length:Int)=arityF n:=len18 h rfl
 have:=arityF_le n
 refine ⟨by omega,fun e=>?_⟩
 obtain ⟨_,g1,g2,g3,g4⟩:=prim_args h e
 refine ⟨fun ht=>?_,fun ht=>?_⟩
 ·rw[want_text ht] at g3 g4
  exact ⟨txt_rng g1 g3,txt_rng g2 g4⟩
 ·rw[want_int ht] at g3 g4
  exact ⟨int_rng g1 g3,int_rng g2 g4⟩
theorem oper_spec (n:Int) (s:ByteArray) (con to:ConT) (k:List KindT) (names:List ByteArray) (l:List TermT) (h:operOk n l) :
  Spec Tryz.prog 156 [pp (encT (.mk 18 n s con to k names l))] [] (encR (operT n l)) []:=by
 obtain ⟨hl,hk⟩:=h
 have hg0:=hd_get hl
 have hgl:=last_get hl
 generalize hres:operT n l=res
 have hd1:=encT_cells (hdT l)
 have hd2:=encT_cells (lastT l)
 cases ht:textOp n with
 |false=>
  have hw:wantOp n=2:=want_int (by rw[ht];decide)
  have hf:=ht
  simp only[textOp,Bool.or_eq_false_iff] at hf
  obtain ⟨⟨⟨f10,f11⟩,f12⟩,f14⟩:=hf
  refine wf (rv:=[.cell 2 31,.tmp 3,.tmp 4]) ann156 65 Tryz.func156 fun hfit=>?_
  have hlen:l.length≤9223372036854775807:=by
   simp only[argsFit,SV.pv?,SC.pv?,encT_mk,PV.fit,fitL,List.length_map,maxLen_eq] at hfit
   exact hfit.1.2.2.2.2.2.2.2.2.2.2.2.2.2.2.2.2.2.1.1
  clear hfit
  have wl:IntKind.i64.wrap ((l.length:Int) - 1)=((l.length - 1:Nat):Int):=by rw[wrap_id (by omega) (by omega)];omega
  simp only[go_sem,encT_mk,f10,f11,f12,f14,List.length_map]
  refine aLoop_list (α:=TermT) (β:=Nat) (fun rest m=>⟨[(2,.one (.ptr (.loc 2) 0)),(22,ii m),(5,ii 2),(20,pp (.slice (l.map encT))),(1,pp (.ep (encT (.mk 18 n s con to k names l)) 0)),(21,ii l.length)],[(.loc 2,zboxT)],[]⟩)
   (fun rest m=>∃pre,l=pre++rest∧m=pre.length∧(rest.any fun x=>x.op != 2)=l.any fun x=>x.op != 2) ?_ ?_ l 0 _ ?_ ⟨[],rfl,rfl,rfl⟩
  ·rintro m ⟨pre,g1,g2,g3⟩ K
   simp only[List.append_nil] at g1
   have e:m=l.length:=by rw[g2,←g1]
   rw[List.any_nil] at g3
   have hne:¬(l.any fun x=>x.op != 2)=true:=by rw[←g3];decide
   obtain ⟨q1,q2⟩:=(hk (by rw[hw];exact hne)).2 (by rw[ht];decide)
   have hN:=nums_spec n (hdT l).n (lastT l).n q1 q2
   obtain rfl:res=(numsT n (hdT l).n (lastT l).n,[],0):=by rw[←hres,operT,hw,if_neg hne,if_neg (by rw[ht];decide)]
   rw[encR_mk,List.map_nil]
   generalize numsT n (hdT l).n (lastT l).n=tx at hN ⊢
   simp only[go_sem,Int.reduceBEq,e,lt_false (Int.le_refl _),hg0,hgl,wl,Int.toNat_natCast,Int.natCast_nonneg,encT_sz,encT_mk,hd1,hd2,List.length_map,zboxT]
   repeat (refine ⟨by kernel_rfl,?_⟩;try simp only[go_sem,Int.reduceBEq,e,lt_false (Int.le_refl _),hg0,hgl,wl,Int.toNat_natCast,Int.natCast_nonneg,encT_sz,encT_mk,hd1,hd2,List.length_map,zboxT])
   refine aCall_intro hN ?_
   simp only[go_sem,encT_sz]
  ·rintro x rest m ⟨pre,g1,g2,g3⟩ K hK
   have hx:(l.map encT)[m]? = some (encT x):=by simp[g1,g2]
   have hlt:(m:Int)<l.length:=by rw[g1,g2];simp;omega
   have w4:IntKind.i64.wrap ((m:Int)+1)=((m+1:Nat):Int):=by rw[wrap_id (by omega) (by omega)];simp
   have hxc:=encT_cells x
   rw[List.any_cons] at g3
   cases hv:(x.op != 2) with
   |true=>
    rw[hv,Bool.true_or] at g3
    obtain rfl:res=(zeroT,[],23):=by rw[←hres,operT,hw,if_pos g3.symm]
    rw[encR_mk,encT_zero]
    simp only[go_sem,decide_eq_true hlt,Int.toNat_natCast,Int.natCast_nonneg,hx,encT_sz,hxc,hv,zboxT,List.map_nil]
   |false=>
    rw[hv,Bool.false_or] at g3
    simp only[go_sem,decide_eq_true hlt,Int.toNat_natCast,Int.natCast_nonneg,hx,encT_sz,hxc,hv,w4,zboxT]
    refine hK (m+1) _ ?_ ⟨pre++[x],by simp[g1],by simp[g2],g3⟩
    simp only[go_sem,zboxT]
  ·simp only[go_sem,Int.natCast_zero,zboxT,encT_mk]
 |true=>
  have hw:wantOp n=3:=want_text ht
  have htt:textOp n=true:=ht
  have hf:n=10∨n=11∨n=12∨n=14:=by simp only[textOp,Bool.or_eq_true,beq_iff_eq] at ht;omega
  refine wf (rv:=[.cell 2 31,.tmp 3,.tmp 4]) ann156 65 Tryz.func156 fun hfit=>?_
  have hlen:l.length≤9223372036854775807:=by
   simp only[argsFit,SV.pv?,SC.pv?,encT_mk,PV.fit,fitL,List.length_map,maxLen_eq] at hfit
   exact hfit.1.2.2.2.2.2.2.2.2.2.2.2.2.2.2.2.2.2.1.1
  clear hfit
  have wl:IntKind.i64.wrap ((l.length:Int) - 1)=((l.length - 1:Nat):Int):=by rw[wrap_id (by omega) (by omega)];omega
  rcases hf with hf|hf|hf|hf
  all_goals
   have f10:(n==10)=_:=congrArg (fun z:Int=>z==10) hf
   have f11:(n==11)=_:=congrArg (fun z:Int=>z==11) hf
   have f12:(n==12)=_:=congrArg (fun z:Int=>z==12) hf
   have f14:(n==14)=_:=congrArg (fun z:Int=>z==14) hf
   simp only[go_sem,encT_mk,f10,f11,f12,f14,Int.reduceBEq,List.length_map]
   clear f10 f11 f12 f14 hf
   refine aLoop_list (α:=TermT) (β:=Nat) (fun rest m=>⟨[(2,.one (.ptr (.loc 2) 0)),(22,ii m),(5,ii 3),(20,pp (.slice (l.map encT))),(1,pp (.ep (encT (.mk 18 n s con to k names l)) 0)),(21,ii l.length)],[(.loc 2,zboxT)],[]⟩)
    (fun rest m=>∃pre,l=pre++rest∧m=pre.length∧(rest.any fun x=>x.op != 3)=l.any fun x=>x.op != 3) ?_ ?_ l 0 _ ?_ ⟨[],rfl,rfl,rfl⟩
   ·rintro m ⟨pre,g1,g2,g3⟩ K
    simp only[List.append_nil] at g1
    have e:m=l.length:=by rw[g2,←g1]
    rw[List.any_nil] at g3
    have hne:¬(l.any fun x=>x.op != 3)=true:=by rw[←g3];decide
    obtain ⟨q1,q2⟩:=(hk (by rw[hw];exact hne)).1 htt
    have hT:=texts_spec n (hdT l).s (lastT l).s q1 q2
    obtain rfl:res=((textsT n (hdT l).s (lastT l).s).1,(textsT n (hdT l).s (lastT l).s).2,0):=by rw[←hres,operT,hw,if_neg hne,if_pos htt]
    rw[encR_mk]
    generalize textsT n (hdT l).s (lastT l).s=tx at hT ⊢
    simp only[go_sem,Int.reduceBEq,e,lt_false (Int.le_refl _),hg0,hgl,wl,Int.toNat_natCast,Int.natCast_nonneg,encT_sz,encT_mk,hd1,hd2,List.length_map,zboxT]
    repeat (refine ⟨by kernel_rfl,?_⟩;try simp only[go_sem,Int.reduceBEq,e,lt_false (Int.le_refl _),hg0,hgl,wl,Int.toNat_natCast,Int.natCast_nonneg,encT_sz,encT_mk,hd1,hd2,List.length_map,zboxT])
    refine aCall_intro hT ?_
    simp only[go_sem,encT_sz]
   ·rintro x rest m ⟨pre,g1,g2,g3⟩ K hK
    have hx:(l.map encT)[m]? = some (encT x):=by simp[g1,g2]
    have hlt:(m:Int)<l.length:=by rw[g1,g2];simp;omega
    have w4:IntKind.i64.wrap ((m:Int)+1)=((m+1:Nat):Int):=by rw[wrap_id (by omega) (by omega)];simp
    have hxc:=encT_cells x
    rw[List.any_cons] at g3
    cases hv:(x.op != 3) with
    |true=>
     rw[hv,Bool.true_or] at g3
     obtain rfl:res=(zeroT,[],23):=by rw[←hres,operT,hw,if_pos g3.symm]
     rw[encR_mk,encT_zero]
     simp only[go_sem,decide_eq_true hlt,Int.toNat_natCast,Int.natCast_nonneg,hx,encT_sz,hxc,hv,zboxT,List.map_nil]
    |false=>
     rw[hv,Bool.false_or] at g3
     simp only[go_sem,decide_eq_true hlt,Int.toNat_natCast,Int.natCast_nonneg,hx,encT_sz,hxc,hv,w4,zboxT]
     refine hK (m+1) _ ?_ ⟨pre++[x],by simp[g1],by simp[g2],g3⟩
     simp only[go_sem,zboxT]
   ·simp only[go_sem,Int.natCast_zero,zboxT,encT_mk]
theorem one_of {t:TermT}(h:validT t=true) (ho:t.op=4∨t.op=6∨t.op=7∨t.op=8∨t.op=11∨t.op=12∨t.op=14∨t.op=15∨t.op=16):∃x,t.l=[x]:=by
 have:=len1 h ho
 match hl:t.l with
 | []=>rw[hl] at this;cases this
 | [x]=>exact ⟨x,rfl⟩
 |x::y::r=>rw[hl] at this;simp at this
theorem two_of {t:TermT}(h:validT t=true) (ho:t.op=5∨t.op=9∨t.op=17):∃x y,t.l=[x,y]:=by
 have:=len2 h ho
 match hl:t.l with
 | []=>rw[hl] at this;cases this
 | [x]=>rw[hl] at this;simp at this
 | [x,y]=>exact ⟨x,y,rfl⟩
 |x::y::z::r=>rw[hl] at this;simp at this
theorem appl_spec (v w:TermT) (hv:validT v=true) (hok:okT v) (hokw:okT w):Spec Tryz.prog 157 [pp (encT v),pp (encT w)] [] (.tuple [encT (applT v w).1,.int .i64 (applT v w).2]) []:=by
 by_cases h4:v.op=4
 ·obtain ⟨x,hx⟩:=one_of hv (.inl h4)
  have hS:=tSubst_specV x w (okT_l hok x (by rw[hx];simp)) hokw
  rw[applT,if_pos h4,hx,show hdT [x]=x from rfl]
  obtain ⟨op,n,s,con,to,k,names,l⟩:=v
  simp only[TermT.op,TermT.l] at h4 hx
  subst h4 hx
  clear hv hok
  generalize SubstT x w=r at hS ⊢
  refine wk (rv:=[.cell 4 31,.tmp 5]) ann157 47 Tryz.func157 ?_
  simp only[go_sem,encT_mk,Int.reduceBEq,List.map_cons,List.map_nil,encT_sz]
  refine aCall_intro hS ?_
  simp only[go_sem,encT_sz]
  repeat (refine ⟨by kernel_rfl,?_⟩;try simp only[go_sem,encT_sz])
  try kernel_rfl
 ·rw[applT,if_neg h4]
  by_cases h16:v.op=16
  ·obtain ⟨x,hx⟩:=one_of hv (by omega)
   have hokx:=okT_l hok x (by rw[hx];simp)
   rw[hx,show hdT [x]=x from rfl]
   by_cases hx4:x.op=4
   ·have hS:=tSubst_specV x v hokx hok
    rw[if_pos ⟨h16,hx4⟩,encT_nodeL]
    generalize SubstT x v=r at hS ⊢
    obtain ⟨op,n,s,con,to,k,names,l⟩:=v
    obtain ⟨op2,n2,s2,con2,to2,k2,names2,l2⟩:=x
    simp only[TermT.op,TermT.l] at h16 hx hx4
    subst h16 hx hx4
    clear hv hok hokx h4
    simp only[encT_mk,List.map_cons,List.map_nil] at hS
    refine wk (rv:=[.cell 4 31,.tmp 5]) ann157 47 Tryz.func157 ?_
    simp only[go_sem,encT_mk,Int.reduceBEq,List.map_cons,List.map_nil,encT_sz]
    refine aCall_intro hS ?_
    simp only[go_sem,encT_sz]
    repeat (refine ⟨by kernel_rfl,?_⟩;try simp only[go_sem,encT_sz,List.map_cons,List.map_nil])
    try kernel_rfl
   ·rw[if_neg (fun h=>hx4 h.2),encT_zero]
    obtain ⟨op,n,s,con,to,k,names,l⟩:=v
    obtain ⟨op2,n2,s2,con2,to2,k2,names2,l2⟩:=x
    simp only[TermT.op,TermT.l] at h16 hx hx4
    subst h16 hx
    replace hx4:=nbeq hx4
    clear hv hok hokx h4
    refine wk (rv:=[.cell 4 31,.tmp 5]) ann157 47 Tryz.func157 ?_
    simp only[go_sem,encT_mk,Int.reduceBEq,List.map_cons,List.map_nil,encT_sz,hx4]
  ·rw[if_neg (fun h=>h16 h.1),encT_zero]
   obtain ⟨op,n,s,con,to,k,names,l⟩:=v
   simp only[TermT.op] at h4 h16
   replace h4:=nbeq h4
   replace h16:=nbeq h16
   clear hv hok
   refine wk (rv:=[.cell 4 31,.tmp 5]) ann157 47 Tryz.func157 ?_
   simp only[go_sem,encT_mk,h4,h16]
theorem encT_tappT (c:ConT) (x:TermT):encT (tappT c x)=.agg [.int .i64 7,.int .i64 0,.str ByteArray.empty,.int .i64 c.op,.int .i64 c.n,.str c.s,.slice (c.k.map encK),.slice (c.names.map .str),.slice (c.l.map encC),.int .i64 0,.int .i64 0,.str ByteArray.empty,.slice [],.slice [],.slice [],.slice [],.slice [],.slice [encT x]]:=by rw[tappT,encT_mk];rfl
theorem inst_spec (v:TermT) (c:ConT) (hv:validT v=true) (hok:okT v) (hc:wtF c≤900000000∧okS c):Spec Tryz.prog 158 [pp (encT v),pp (encC c)] [] (.tuple [encT (instT v c).1,.int .i64 (instT v c).2]) []:=by
 rw[encC_cells,ConT.cells]
 by_cases h4:v.op=6
 ·obtain ⟨x,hx⟩:=one_of hv (.inr (.inl h4))
  have hS:=tSubstCons_specV x [c] (okT_l hok x (by rw[hx];simp)) (fun y hy=>by simp at hy;subst hy;exact hc) (by simp)
  rw[instT,if_pos h4,hx,show hdT [x]=x from rfl]
  obtain ⟨op,n,s,con,to,k,names,l⟩:=v
  simp only[TermT.op,TermT.l] at h4 hx
  subst h4 hx
  clear hv hok
  generalize SubstConsT x [c]=r at hS ⊢
  simp only[List.map_cons,List.map_nil,encC_cells,ConT.cells] at hS
  refine wk (rv:=[.cell 4 31,.tmp 5]) ann158 48 Tryz.func158 ?_
  simp only[go_sem,encT_mk,Int.reduceBEq,List.map_cons,List.map_nil,encT_sz]
  repeat (refine ⟨by kernel_rfl,?_⟩;try simp only[go_sem,encT_sz])
  try kernel_rfl
  refine aCall_intro hS ?_
  simp only[go_sem,encT_sz]
  repeat (refine ⟨by kernel_rfl,?_⟩;try simp only[go_sem,encT_sz])
  try kernel_rfl
 ·rw[instT,if_neg h4]
  by_cases h16:v.op=16
  ·obtain ⟨x,hx⟩:=one_of hv (by omega)
   have hokx:=okT_l hok x (by rw[hx];simp)
   rw[hx,show hdT [x]=x from rfl]
   by_cases hx4:x.op=6
   ·have hS:=tSubst_specV x v hokx hok
    rw[if_pos ⟨h16,hx4⟩,encT_tappT]
    generalize SubstT x v=r at hS ⊢
    obtain ⟨op,n,s,con,to,k,names,l⟩:=v
    obtain ⟨op2,n2,s2,con2,to2,k2,names2,l2⟩:=x
    simp only[TermT.op,TermT.l] at h16 hx hx4
    subst h16 hx hx4
    clear hv hok hokx h4
    simp only[encT_mk,List.map_cons,List.map_nil] at hS
    refine wk (rv:=[.cell 4 31,.tmp 5]) ann158 48 Tryz.func158 ?_
    simp only[go_sem,encT_mk,Int.reduceBEq,List.map_cons,List.map_nil,encT_sz]
    refine aCall_intro hS ?_
    simp only[go_sem,encT_sz]
    repeat (refine ⟨by kernel_rfl,?_⟩;try simp only[go_sem,encT_sz,List.map_cons,List.map_nil])
    try kernel_rfl
   ·rw[if_neg (fun h=>hx4 h.2),encT_zero]
    obtain ⟨op,n,s,con,to,k,names,l⟩:=v
    obtain ⟨op2,n2,s2,con2,to2,k2,names2,l2⟩:=x
    simp only[TermT.op,TermT.l] at h16 hx hx4
    subst h16 hx
    replace hx4:=nbeq hx4
    clear hv hok hokx h4
    refine wk (rv:=[.cell 4 31,.tmp 5]) ann158 48 Tryz.func158 ?_
    simp only[go_sem,encT_mk,Int.reduceBEq,List.map_cons,List.map_nil,encT_sz,hx4]
  ·rw[if_neg (fun h=>h16 h.1),encT_zero]
   obtain ⟨op,n,s,con,to,k,names,l⟩:=v
   simp only[TermT.op] at h4 h16
   replace h4:=nbeq h4
   replace h16:=nbeq h16
   clear hv hok
   refine wk (rv:=[.cell 4 31,.tmp 5]) ann158 48 Tryz.func158 ?_
   simp only[go_sem,encT_mk,h4,h16]
theorem okT_kept {a:TermT}(h:okT a):okT (keptT a).1:=by
 rcases kept_or a with ⟨_,h2,_⟩|⟨_,h2,_⟩
 ·rw[h2];exact h
 ·rw[h2];exact okT_zero
theorem con_of {t:TermT}(h:validT t=true) (hok:okT t) (ho:hasConF t.op=true):wtF t.con≤900000000∧okS t.con:=⟨(valid_dw (vcon h ho)).2,okT_con8 hok⟩
theorem contr_spec (t:TermT) (hv:validT t=true) (hok:okT t):Spec Tryz.prog 123 [pp (encT t)] [] (encR (contrT t)) []:=by
 have hlen:=vlen hv
 have hpv:=vpart hv
 have hpo:=okT_l hok
 obtain ⟨op,n,s,con,to,k,names,l⟩:=t
 have hA:=act_spec op n s con to k names l
 simp only[TermT.op,TermT.n,TermT.names,TermT.l] at hlen hpv hpo
 rw[contrT]
 by_cases h18:op=18
 ·subst h18
  have hO:=oper_spec n s con to k names l (operOk_of hv)
  rw[if_pos rfl]
  generalize operT n l=r at hO ⊢
  obtain ⟨r1,r2,r3⟩:=r
  simp only[encT_mk,encR] at hO ⊢
  clear hv hok hpv hpo hA hlen
  refine wk (rv:=[.cell 2 31,.tmp 3,.tmp 4]) ann123 164 Tryz.func123 ?_
  simp only[go_sem,encT_mk,Int.reduceBEq]
  refine aCall_intro hO ?_
  simp only[go_sem,encT_sz]
 rw[if_neg h18]
 have f18:(op==18)=false:=by simpa using h18
 simp only[encT_mk] at hA
 by_cases ha:actT op l.length=0
 ·rw[if_pos ha,encR_mk,encT_zero]
  rw[ha] at hA
  clear hv hok hpv hpo hlen
  refine wk (rv:=[.cell 2 31,.tmp 3,.tmp 4]) ann123 164 Tryz.func123 ?_
  simp only[go_sem,encT_mk,f18]
  refine aCall_intro hA ?_
  simp only[go_sem,Int.natCast_zero,Int.reduceBEq,List.map_nil]
 rw[if_neg ha]
 have e0:(((actT op l.length:Nat):Int)==0)=false:=by
  have:((actT op l.length:Nat):Int)≠0:=by omega
  simpa using this
 have hops:op=5∨op=7∨op=9∨op=11∨op=13∨op=15∨op=17∨(op=8∨op=10∨op=12∨op=14):=by
  rw[actT] at ha
  split at ha
  ·omega
  ·split at ha
   ·omega
   ·exact absurd rfl ha
 have h10l:op=10→0<l.length:=fun e=>by rw[actT,if_pos (.inr (.inl e))] at ha;omega
 generalize actT op l.length=a at hA e0
 clear ha
 rcases hops with h|h|h|h|h|h|h|h
 ·subst h
  obtain ⟨v,w,hl⟩:=two_of hv (.inl rfl)
  simp only[TermT.l] at hl
  subst hl
  have hP:=appl_spec v w (hpv v (by simp)) (hpo v (by simp)) (hpo w (by simp))
  rw[contrN,if_pos rfl,show hdT [v,w]=v from rfl,show sndT [v,w]=w from rfl,encR_mk]
  generalize applT v w=r at hP ⊢
  clear hv hok hpv hpo hlen h10l
  refine wk (rv:=[.cell 2 31,.tmp 3,.tmp 4]) ann123 164 Tryz.func123 ?_
  simp only[List.map_cons,List.map_nil] at hA
  simp only[go_sem,encT_mk,f18,List.map_cons,List.map_nil]
  refine aCall_intro hA ?_
  simp only[go_sem,e0,Int.reduceBEq,encT_sz,encT_mk,List.map_cons,List.map_nil]
  refine aCall_intro hP ?_
  simp only[go_sem,encT_sz]
  repeat (refine ⟨by kernel_rfl,?_⟩;try simp only[go_sem,encT_sz])
  try kernel_rfl
 ·subst h
  obtain ⟨v,hl⟩:=one_of hv (.inr (.inr (.inl rfl)))
  simp only[TermT.l] at hl
  subst hl
  have hc:=con_of hv hok (show hasConF 7=true by decide)
  have hP:=inst_spec v con (hpv v (by simp)) (hpo v (by simp)) hc
  rw[encC_cells,ConT.cells] at hP
  rw[contrN,if_neg (by decide),if_pos rfl,show hdT [v]=v from rfl,encR_mk]
  generalize instT v con=r at hP ⊢
  clear hv hok hpv hpo hlen h10l
  refine wk (rv:=[.cell 2 31,.tmp 3,.tmp 4]) ann123 164 Tryz.func123 ?_
  simp only[List.map_cons,List.map_nil] at hA
  simp only[go_sem,encT_mk,f18,List.map_cons,List.map_nil]
  refine aCall_intro hA ?_
  simp only[go_sem,e0,Int.reduceBEq,encT_sz,encT_mk,List.map_cons,List.map_nil]
  refine aCall_intro hP ?_
  simp only[go_sem,encT_sz]
  repeat (refine ⟨by kernel_rfl,?_⟩;try simp only[go_sem,encT_sz])
  try kernel_rfl
 ·subst h
  obtain ⟨v,w,hl⟩:=two_of hv (.inr (.inl rfl))
  simp only[TermT.l] at hl
  subst hl
  have hvv:=hpv v (by simp)
  have hvo:=hpo v (by simp)
  have hwv:=hpv w (by simp)
  have hwo:=hpo w (by simp)
  rw[contrN,if_neg (by decide),if_neg (by decide),if_neg (by decide),show hdT [v,w]=v from rfl,show sndT [v,w]=w from rfl]
  by_cases h8:v.op=8
  ·obtain ⟨x,hx⟩:=one_of hvv (by omega)
   have hS:=tSubstCons_specV w [v.con] hwo (fun y hy=>by simp at hy;subst hy;exact con_of hvv hvo (by rw[h8];decide)) (by simp)
   have hr:okT (SubstConsT w [v.con]).1:=by
    rw[subC_both hwv (vcon hvv (by rw[h8];decide))]
    exact okT_kept (okT_rsubC (vcon hvv (by rw[h8];decide)) (okT_con8 hvo) (valid_wf hwv).1 hwo)
   have hS2:=tSubst_specV (SubstConsT w [v.con]).1 x hr (okT_l hvo x (by rw[hx];simp))
   rw[if_pos ⟨rfl,h8⟩,hx,show hdT [x]=x from rfl]
   generalize SubstConsT w [v.con]=r at hS hr hS2 ⊢
   obtain ⟨op2,n2,s2,con2,to2,k2,names2,l2⟩:=v
   simp only[TermT.op,TermT.l,TermT.con] at h8 hx hS
   subst h8 hx
   simp only[List.map_cons,List.map_nil,encC_cells,ConT.cells] at hS
   clear hv hok hpv hpo hlen h10l hvv hvo hwv hwo hr
   simp only[List.map_cons,List.map_nil,encT_mk] at hA
   by_cases hz:r.2=0
   ·have ez:(r.2==0)=true:=by simpa using hz
    rw[if_pos hz,encR_mk]
    generalize SubstT r.1 x=q at hS2 ⊢
    refine wk (rv:=[.cell 2 31,.tmp 3,.tmp 4]) ann123 164 Tryz.func123 ?_
    simp only[go_sem,encT_mk,f18,List.map_cons,List.map_nil]
    refine aCall_intro hA ?_
    simp only[go_sem,e0,Int.reduceBEq,encT_sz,encT_mk,List.map_cons,List.map_nil]
    repeat (refine ⟨by kernel_rfl,?_⟩;try simp only[go_sem,encT_sz])
    try kernel_rfl
    refine aCall_intro hS ?_
    simp only[go_sem,encT_sz,ez]
    repeat (refine ⟨by kernel_rfl,?_⟩;try simp only[go_sem,encT_sz,ez])
    try kernel_rfl
    refine aCall_intro hS2 ?_
    simp only[go_sem,encT_sz]
    repeat (refine ⟨by kernel_rfl,?_⟩;try simp only[go_sem,encT_sz])
    try kernel_rfl
   ·have ez:(r.2==0)=false:=by simpa using hz
    rw[if_neg hz,encR_mk]
    clear hS2
    refine wk (rv:=[.cell 2 31,.tmp 3,.tmp 4]) ann123 164 Tryz.func123 ?_
    simp only[go_sem,encT_mk,f18,List.map_cons,List.map_nil]
    refine aCall_intro hA ?_
    simp only[go_sem,e0,Int.reduceBEq,encT_sz,encT_mk,List.map_cons,List.map_nil]
    repeat (refine ⟨by kernel_rfl,?_⟩;try simp only[go_sem,encT_sz])
    try kernel_rfl
    refine aCall_intro hS ?_
    simp only[go_sem,encT_sz,ez]
    repeat (refine ⟨by kernel_rfl,?_⟩;try simp only[go_sem,encT_sz,ez])
    try kernel_rfl
  ·rw[if_neg (fun h=>h8 h.2),if_neg (fun h=>absurd h.1 (by decide)),if_neg (fun h=>absurd h.1 (by decide)),if_neg (fun h=>absurd h.1 (by decide)),encR_mk,encT_zero]
   obtain ⟨op2,n2,s2,con2,to2,k2,names2,l2⟩:=v
   simp only[TermT.op] at h8
   replace h8:=nbeq h8
   clear hv hok hpv hpo hlen h10l hvv hvo hwv hwo
   simp only[List.map_cons,List.map_nil,encT_mk] at hA
   refine wk (rv:=[.cell 2 31,.tmp 3,.tmp 4]) ann123 164 Tryz.func123 ?_
   simp only[go_sem,encT_mk,f18,List.map_cons,List.map_nil]
   refine aCall_intro hA ?_
   simp only[go_sem,e0,h8,Int.reduceBEq,encT_sz,encT_mk,List.map_cons,List.map_nil]
 ·subst h
  obtain ⟨v,hl⟩:=one_of hv (.inr (.inr (.inr (.inr (.inl rfl)))))
  simp only[TermT.l] at hl
  subst hl
  have hvv:=hpv v (by simp)
  rw[contrN,if_neg (by decide),if_neg (by decide),if_neg (by decide),if_neg (fun h=>absurd h.1 (by decide)),show hdT [v]=v from rfl]
  by_cases h10:v.op=10
  ·have hI:=Index_spec v.names s
   have hC:=Contains_spec v.names s
   have hf:=find_lt v.names s 0 (Int.le_refl _)
   have hll:=len10 hvv h10
   have hg:0≤findS v.names s 0→(v.l.map encT)[(findS v.names s 0).toNat]? = some (encT (v.l.getD (findS v.names s 0).toNat zeroT)):=fun g=>get_getD (by have:=hf g;omega)
   by_cases hz:0≤findS v.names s 0
   ·have hgg:=hg hz
    clear hg
    rw[if_pos ⟨rfl,h10,hz⟩,encR_mk]
    rw[decide_eq_true hz] at hC
    generalize findS v.names s 0=f at hI hz hgg ⊢
    generalize v.l.getD f.toNat zeroT=q at hgg ⊢
    obtain ⟨op2,n2,s2,con2,to2,k2,names2,l2⟩:=v
    simp only[TermT.op,TermT.l,TermT.names] at h10 hI hC hgg
    subst h10
    clear hv hok hpv hpo hlen h10l hvv hf hll
    simp only[List.map_cons,List.map_nil,encT_mk] at hA
    refine wk (rv:=[.cell 2 31,.tmp 3,.tmp 4]) ann123 164 Tryz.func123 ?_
    simp only[go_sem,encT_mk,f18,List.map_cons,List.map_nil]
    refine aCall_intro hA ?_
    simp only[go_sem,e0,Int.reduceBEq,encT_sz,encT_mk,List.map_cons,List.map_nil]
    refine aCall_intro hC ?_
    simp only[go_sem,encT_sz]
    refine aCall_intro hI ?_
    simp only[go_sem,hgg,hz,encT_sz]
    repeat (refine ⟨by kernel_rfl,?_⟩;try simp only[go_sem,hgg,hz,encT_sz])
    try kernel_rfl
   ·rw[if_neg (fun h=>hz h.2.2),if_neg (fun h=>absurd h.1 (by decide)),if_neg (fun h=>absurd h.1 (by decide)),encR_mk,encT_zero]
    rw[decide_eq_false hz] at hC
    obtain ⟨op2,n2,s2,con2,to2,k2,names2,l2⟩:=v
    simp only[TermT.op,TermT.l,TermT.names] at h10 hC
    subst h10
    clear hv hok hpv hpo hlen h10l hvv hf hll hg hI
    simp only[List.map_cons,List.map_nil,encT_mk] at hA
    refine wk (rv:=[.cell 2 31,.tmp 3,.tmp 4]) ann123 164 Tryz.func123 ?_
    simp only[go_sem,encT_mk,f18,List.map_cons,List.map_nil]
    refine aCall_intro hA ?_
    simp only[go_sem,e0,Int.reduceBEq,encT_sz,encT_mk,List.map_cons,List.map_nil]
    refine aCall_intro hC ?_
    simp only[go_sem,encT_sz,Int.reduceBEq]
  ·rw[if_neg (fun h=>h10 h.2.1),if_neg (fun h=>absurd h.1 (by decide)),if_neg (fun h=>absurd h.1 (by decide)),encR_mk,encT_zero]
   obtain ⟨op2,n2,s2,con2,to2,k2,names2,l2⟩:=v
   simp only[TermT.op] at h10
   replace h10:=nbeq h10
   clear hv hok hpv hpo hlen h10l hvv
   simp only[List.map_cons,List.map_nil,encT_mk] at hA
   refine wk (rv:=[.cell 2 31,.tmp 3,.tmp 4]) ann123 164 Tryz.func123 ?_
   simp only[go_sem,encT_mk,f18,List.map_cons,List.map_nil]
   refine aCall_intro hA ?_
   simp only[go_sem,e0,h10,Int.reduceBEq,encT_sz,encT_mk,List.map_cons,List.map_nil]
 ·subst h
  have hll:l.length=names.length+1:=len13 hv rfl
  obtain ⟨v,r,hl⟩:∃v r,l=v::r:=by
   cases l with
   |nil=>simp at hll
   |cons v r=>exact ⟨v,r,rfl⟩
  have hvv:=hpv v (by simp[hl])
  have hvo:=hpo v (by simp[hl])
  have hh:hdT l=v:=by rw[hl];rfl
  have hg0:(l.map encT)[0]? = some (encT v):=by rw[hl];rfl
  rw[contrN,if_neg (by decide),if_neg (by decide),if_neg (by decide),if_neg (fun h=>absurd h.1 (by decide)),if_neg (fun h=>absurd h.1 (by decide)),hh]
  by_cases h12:v.op=12
  ·obtain ⟨x,hx⟩:=one_of hvv (by omega)
   have hI:=Index_spec names v.s
   have hC:=Contains_spec names v.s
   have hf:=find_lt names v.s 0 (Int.le_refl _)
   have hxo:=okT_l hvo x (by rw[hx];simp)
   have hg:0≤findS names v.s 0→(l.map encT)[(findS names v.s 0).toNat+1]? = some (encT (l.getD ((findS names v.s 0).toNat+1) zeroT))∧okT (l.getD ((findS names v.s 0).toNat+1) zeroT)∧findS names v.s 0≤1000000000:=fun g=>by
    have h1:=hf g
    have h2:=(okT_con hok).2.2.1
    exact ⟨get_getD (by omega),hpo _ (getD_mem (by omega)),by omega⟩
   rw[hx,show hdT [x]=x from rfl]
   by_cases hz:0≤findS names v.s 0
   ·obtain ⟨hgg,hyo,hfl⟩:=hg hz
    clear hg
    have hS:=tSubst_specV _ x hyo hxo
    rw[if_pos ⟨rfl,h12,hz⟩,encR_mk]
    rw[decide_eq_true hz] at hC
    generalize findS names v.s 0=f at hI hz hgg hfl hS ⊢
    generalize l.getD (f.toNat+1) zeroT=y at hgg hS ⊢
    generalize SubstT y x=q at hS ⊢
    have w1:IntKind.i64.wrap (f+1)=f+1:=wrap_id (by omega) (by omega)
    have w2:(f+1).toNat=f.toNat+1:=by omega
    have w3:0≤f+1:=by omega
    clear hv hok hpv hpo hlen h10l hvv hvo hf hxo hll hyo hl hh
    obtain ⟨op2,n2,s2,con2,to2,k2,names2,l2⟩:=v
    simp only[TermT.op,TermT.l,TermT.s] at h12 hx hI hC
    subst h12 hx
    refine wk (rv:=[.cell 2 31,.tmp 3,.tmp 4]) ann123 164 Tryz.func123 ?_
    simp only[go_sem,encT_mk,f18]
    refine aCall_intro hA ?_
    simp only[go_sem,e0,Int.reduceBEq,Int.reduceToNat,hg0,encT_sz,encT_mk,List.map_cons,List.map_nil]
    refine aCall_intro hC ?_
    simp only[go_sem,encT_sz]
    refine aCall_intro hI ?_
    simp only[go_sem,hgg,w1,w2,w3,encT_sz,encT_mk,List.map_cons,List.map_nil]
    repeat (refine ⟨by kernel_rfl,?_⟩;try simp only[go_sem,encT_sz])
    try kernel_rfl
    refine aCall_intro hS ?_
    simp only[go_sem,encT_sz]
    repeat (refine ⟨by kernel_rfl,?_⟩;try simp only[go_sem,encT_sz])
    try kernel_rfl
   ·rw[if_neg (fun h=>hz h.2.2),if_neg (fun h=>absurd h.1 (by decide)),encR_mk,encT_zero]
    rw[decide_eq_false hz] at hC
    clear hv hok hpv hpo hlen h10l hvv hvo hf hxo hll hg hI hl hh
    obtain ⟨op2,n2,s2,con2,to2,k2,names2,l2⟩:=v
    simp only[TermT.op,TermT.l,TermT.s] at h12 hx hC
    subst h12 hx
    refine wk (rv:=[.cell 2 31,.tmp 3,.tmp 4]) ann123 164 Tryz.func123 ?_
    simp only[go_sem,encT_mk,f18]
    refine aCall_intro hA ?_
    simp only[go_sem,e0,Int.reduceBEq,Int.reduceToNat,hg0,encT_sz,encT_mk,List.map_cons,List.map_nil]
    refine aCall_intro hC ?_
    simp only[go_sem,encT_sz,Int.reduceBEq]
  ·rw[if_neg (fun h=>h12 h.2.1),if_neg (fun h=>absurd h.1 (by decide)),encR_mk,encT_zero]
   obtain ⟨op2,n2,s2,con2,to2,k2,names2,l2⟩:=v
   simp only[TermT.op] at h12
   replace h12:=nbeq h12
   clear hv hok hpv hpo hlen h10l hvv hvo hh hll
   clear hl
   refine wk (rv:=[.cell 2 31,.tmp 3,.tmp 4]) ann123 164 Tryz.func123 ?_
   simp only[go_sem,encT_mk,f18]
   refine aCall_intro hA ?_
   simp only[go_sem,e0,h12,Int.reduceBEq,Int.reduceToNat,hg0,encT_sz,encT_mk,List.map_cons,List.map_nil]
 ·subst h
  obtain ⟨v,hl⟩:=one_of hv (.inr (.inr (.inr (.inr (.inr (.inr (.inr (.inl rfl))))))))
  simp only[TermT.l] at hl
  subst hl
  have hvv:=hpv v (by simp)
  rw[contrN,if_neg (by decide),if_neg (by decide),if_neg (by decide),if_neg (fun h=>absurd h.1 (by decide)),if_neg (fun h=>absurd h.1 (by decide)),if_neg (fun h=>absurd h.1 (by decide)),show hdT [v]=v from rfl]
  by_cases h14:v.op=14
  ·obtain ⟨x,hx⟩:=one_of hvv (by omega)
   rw[if_pos ⟨rfl,h14⟩,hx,show hdT [x]=x from rfl,encR_mk]
   obtain ⟨op2,n2,s2,con2,to2,k2,names2,l2⟩:=v
   simp only[TermT.op,TermT.l] at h14 hx
   subst h14 hx
   clear hv hok hpv hpo hlen h10l hvv
   simp only[List.map_cons,List.map_nil,encT_mk] at hA
   refine wk (rv:=[.cell 2 31,.tmp 3,.tmp 4]) ann123 164 Tryz.func123 ?_
   simp only[go_sem,encT_mk,f18,List.map_cons,List.map_nil]
   refine aCall_intro hA ?_
   simp only[go_sem,e0,Int.reduceBEq,encT_sz,encT_mk,List.map_cons,List.map_nil]
  ·rw[if_neg (fun h=>h14 h.2),encR_mk,encT_zero]
   obtain ⟨op2,n2,s2,con2,to2,k2,names2,l2⟩:=v
   simp only[TermT.op] at h14
   replace h14:=nbeq h14
   clear hv hok hpv hpo hlen h10l hvv
   simp only[List.map_cons,List.map_nil,encT_mk] at hA
   refine wk (rv:=[.cell 2 31,.tmp 3,.tmp 4]) ann123 164 Tryz.func123 ?_
   simp only[go_sem,encT_mk,f18,List.map_cons,List.map_nil]
   refine aCall_intro hA ?_
   simp only[go_sem,e0,h14,Int.reduceBEq,encT_sz,encT_mk,List.map_cons,List.map_nil]
 ·subst h
  obtain ⟨v,w,hl⟩:=two_of hv (.inr (.inr rfl))
  simp only[TermT.l] at hl
  subst hl
  have hP:=tSubst_specV w v (hpo w (by simp)) (hpo v (by simp))
  rw[contrN,if_neg (by decide),if_neg (by decide),if_pos rfl,show hdT [v,w]=v from rfl,show sndT [v,w]=w from rfl,encR_mk]
  generalize SubstT w v=r at hP ⊢
  clear hv hok hpv hpo hlen h10l
  simp only[List.map_cons,List.map_nil] at hA
  refine wk (rv:=[.cell 2 31,.tmp 3,.tmp 4]) ann123 164 Tryz.func123 ?_
  simp only[go_sem,encT_mk,f18,List.map_cons,List.map_nil]
  refine aCall_intro hA ?_
  simp only[go_sem,e0,Int.reduceBEq,encT_sz,encT_mk,List.map_cons,List.map_nil]
  refine aCall_intro hP ?_
  simp only[go_sem,encT_sz]
  repeat (refine ⟨by kernel_rfl,?_⟩;try simp only[go_sem,encT_sz])
  try kernel_rfl
 ·have hl0:0<l.length:=by
   rcases h with rfl|rfl|rfl|rfl
   ·have:=len1 hv (.inr (.inr (.inr (.inl rfl))));simp only[TermT.l] at this;omega
   ·exact h10l rfl
   ·have:=len1 hv (.inr (.inr (.inr (.inr (.inr (.inl rfl))))));simp only[TermT.l] at this;omega
   ·have:=len1 hv (.inr (.inr (.inr (.inr (.inr (.inr (.inl rfl)))))));simp only[TermT.l] at this;omega
  have hg0:=hd_get hl0
  have hcn:contrN op s con names l=(zeroT,23):=by rcases h with rfl|rfl|rfl|rfl<;>simp[contrN]
  rw[hcn,encR_mk,encT_zero]
  clear hv hok hpv hpo hlen hcn h10l hl0
  generalize hdT l=v at hg0
  refine wk (rv:=[.cell 2 31,.tmp 3,.tmp 4]) ann123 164 Tryz.func123 ?_
  rcases h with rfl|rfl|rfl|rfl
  all_goals
   simp only[go_sem,encT_mk,Int.reduceBEq]
   refine aCall_intro hA ?_
   simp only[go_sem,e0,Int.reduceBEq,Int.reduceToNat,hg0,encT_sz,encT_mk,List.map_nil]
end Go.Abs.Kon